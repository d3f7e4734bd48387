/- A part of the proof of AliasBoth. Conditions: none. -/
import Derived.Test.YtmkncmffaaninaaGreatAAF
import Derived.Laws.StructEq
import Derived.ChangeKeysEq
set_option linter.all false
open Bool renaming and_eq_true → ya
open Option renaming map_eq_some_iff → yb
open List renaming mem_cons_of_mem → yc,mem_of_getElem? → yd,map_cons → ye,getElem?_modify → yf,mem_map → yg,nodup_append → yh,getElem?_map → yi,all_cons → yj,map_id → yk,length_take → yl,nodup_cons → ym,map_append → yn,range → yo,mem_cons → yp
namespace Go.A
section
variable {P : Program} {κ : List Tmp} {loc : List (Option Tmp)} {nt : Nat} {g : G} {w : World} {r r' : R} {a : Act} {o : Go.Oper} {d : D} {next : Act → World → Prop} {Q : Exit → Act → World → Prop}
theorem run_checkKey {b : Bool} {t : TypeId} {k : IntKind} {v : Value} (h : P.underlying t = some (.int k)) : (Instr.checkKey b 10000 t v).run P w = .ok () w:=by
 show (Instr.checkKey b (9999 + 1) t v).run P w = _
 unfold Instr.checkKey;rw [Sem.run_bind,run_underlying h];cases v <;> rfl
theorem zed {σ : zb} {k : Int} : ∀ {es : List (Int × V)} {zB : List MapEntry} {i : Nat},zmT g w σ es zB → zes k es = none → Instr.findNow (.int .i64) (.int .i64 k) zB i = some none
 | [],zB,i,hm,_ => by
   have : zB = []:=hm;subst this;rfl
 | x :: es,zB,i,hm,h => by
   obtain ⟨e,rest,rfl,d,_,c⟩:=hm;simp only [zes] at h;split at h
   ·cases h
   ·rename_i b
    unfold Instr.findNow;have a : ¬ (k = x.1):=fun e => b e.symm;simp only [d,Instr.sameNow,if_pos];have : (k == x.1) = false:=(by simpa using a);rw [this];exact zed c h
theorem zec {σ : zb} {k : Int} : ∀ {es : List (Int × V)} {zB : List MapEntry} {i : Nat} {v : V},zmT g w σ es zB → zes k es = some v →
  ∃ j e,Instr.findNow (.int .i64) (.int .i64 k) zB i = some (some (i + j,e.val)) ∧ zB[j]? = some e ∧ e.key = .int .i64 k ∧ ze g w σ v e.val ∧
    ∀ {g' : G} {w' : World} {σ' : zb} {v' : V} {m : Value},Ext g w σ g' w' σ' → ze g' w' σ' v' m → zmT g' w' σ' (zdW k v' es) (zB.modify j fun e => { e with key:=.int .i64 k,val:=m })
 | [],_,_,_,_,h => by simp [zes] at h
 | x :: es,zB,i,v,hm,h => by
   obtain ⟨e,rest,rfl,b,f,l⟩:=hm;simp only [zes] at h;split at h
   ·rename_i d
    injection h with h;subst h;refine ⟨0,e,?_,by simp,by rw [b,d],f,fun H c => ?_⟩
    ·unfold Instr.findNow
     simp [b,Instr.sameNow,d]
    ·simp only [zdW,if_pos d,List.modify_zero_cons]
     exact ⟨_,_,rfl,rfl,c,H.zmT l⟩
   ·rename_i a
    obtain ⟨j,n,r,p,s,o,q⟩:=zec (i:=i + 1) l h;refine ⟨j + 1,n,?_,by simpa using p,s,o,fun H c => ?_⟩
    ·unfold Instr.findNow
     have : (k == x.1) = false:=by simpa using fun e : k = x.1 => a e.symm
     simp only [b,Instr.sameNow,if_pos,this];rw [r,show i + 1 + j = i + (j + 1) from by omega]
    ·simp only [zdW,if_neg a,List.modify_succ_cons]
     exact ⟨_,_,rfl,b,H.ze _ _ f,q H c⟩
theorem zpw {σ : zb} {k : Int} : ∀ {es : List (Int × V)} {zB : List MapEntry},zmT g w σ es zB → zes k es = none → ∀ {g' : G} {w' : World} {σ' : zb} {v' : V} {a : MapEntry},Ext g w σ g' w' σ' → a.key = .int .i64 k → ze g' w' σ' v' a.val → zmT g' w' σ' (zdW k v' es) (zB ++ [a])
 | [],zB,hm,_,_,_,_,_,a,H,hk,hv => by
   have : zB = []:=hm;subst this;exact ⟨a,[],rfl,hk,hv,rfl⟩
 | x :: es,zB,hm,h,_,_,_,_,a,H,hk,hv => by
   obtain ⟨e,rest,rfl,f,c,d⟩:=hm;simp only [zes] at h;split at h
   ·cases h
   ·rename_i b
    simp only [zdW,if_neg b];exact ⟨e,rest ++ [a],rfl,f,H.ze _ _ c,zpw d h H hk hv⟩
theorem zhI {k : Int} : ∀ {es : List (Int × V)},zes k es = none ↔ ∀ e ∈ es,e.1 ≠ k
 | [] => by simp [zes]
 | e :: es => by
   simp only [zes];split
   ·rename_i h
    simp [h]
   ·rename_i h
    rw [zhI (es:=es)];simp [h]
theorem zmz {k : Int} {v : V} : ∀ {es : List (Int × V)},(es.map (·.1)).Nodup → (zes k es = some v ↔ (k,v) ∈ es)
 | [],_ => by simp [zes]
 | e :: es,hn => by
   simp only [ye,ym] at hn;simp only [zes];split
   ·rename_i h
    subst h;constructor
    ·intro h; injection h with h; subst h; simp
    ·intro h
     rcases yp.1 h with h | h
     ·rw [← h]
     ·exact absurd (yg.2 ⟨_,h,rfl⟩) hn.1
   ·rename_i h
    rw [zmz hn.2];constructor
    ·exact fun h => yc _ h
    ·intro a
     rcases yp.1 a with a | a
     ·exact absurd (by rw [← a]) h
     ·exact a
theorem znn {k : Int} {es es' : List (Int × V)} (c : (es'.map (·.1)).Nodup) (h : es'.Perm es) : zes k es' = zes k es:=by
 have a : (es.map (·.1)).Nodup:=(h.map _).nodup_iff.1 c
 cases b : zes k es' with
 | none =>
   refine (zhI.2 fun e he => zhI.1 b e (h.mem_iff.2 he)).symm
 | some v => exact ((zmz a).2 (h.mem_iff.1 ((zmz c).1 b))).symm
theorem zaE {k : Int} {v : V} : ∀ {es : List (Int × V)},zes k es = none → zdW k v es = es ++ [(k,v)]
 | [],_ => rfl
 | e :: es,h => by
   simp only [zes] at h;split at h
   ·cases h
   ·rename_i a
    simp only [zdW,if_neg a,zaE h,List.cons_append]
theorem zrz {k : Int} {v v0 : V} : ∀ {es : List (Int × V)},zes k es = some v0 → (zdW k v es).map (·.1) = es.map (·.1)
 | [],h => by simp [zes] at h
 | e :: es,h => by
   simp only [zes] at h;split at h
   ·rename_i b
    simp [zdW,b]
   ·rename_i a
    simp only [zdW,if_neg a,ye,zrz h]
theorem zdr {k : Int} {v v0 : V} : ∀ {es : List (Int × V)},(es.map (·.1)).Nodup → zes k es = some v0 → ((k,v0) :: zdW k v es).Perm ((k,v) :: es)
 | [],_,h => by simp [zes] at h
 | e :: es,hn,h => by
   simp only [ye,ym] at hn;simp only [zes] at h;split at h
   ·rename_i b
    injection h with h;simp only [zdW,if_pos b];have : e = (k,v0):=(by rw [← b,← h]);rw [this];exact List.Perm.swap _ _ _
   ·rename_i a
    simp only [zdW,if_neg a];exact (List.Perm.swap _ _ _).trans (((zdr hn.2 h).cons e).trans (List.Perm.swap _ _ _))
theorem znC {k : Int} {v : V} {es es' : List (Int × V)} (b : (es'.map (·.1)).Nodup) (h : es'.Perm es) : (zdW k v es').Perm (zdW k v es):=by
 have c : (es.map (·.1)).Nodup:=(h.map _).nodup_iff.1 b
 cases a : zes k es' with
 | none =>
   rw [zaE a,zaE (by rw [← znn b h]; exact a)];exact h.append_right _
 | some v0 =>
   have e:=zdr (v:=v) b a;have d:=zdr (v:=v) c (by rw [← znn b h]; exact a);exact (List.perm_cons _).1 (e.trans ((h.cons _).trans d.symm))
theorem zcb {k : Int} {v : V} {es : List (Int × V)} (d : (es.map (·.1)).Nodup) : ((zdW k v es).map (·.1)).Nodup:=by
 cases c : zes k es with
 | none =>
   rw [zaE c,yn];refine yh.2 ⟨d,by simp,fun a g b f => ?_⟩;simp at f;subst f;obtain ⟨e,he,rfl⟩:=yg.1 g;exact zhI.1 c e he
 | some v0 => rw [zrz c]; exact d
theorem zpp {σ : zb} {id : Nat} {es : List (Int × V)} (h : (σ[id]?).bind Ob.entries = some es) : σ[id]? = some (.mp es):=by
 rw [Option.bind_eq_some_iff] at h;obtain ⟨c,b,a⟩:=h;unfold Ob.entries at a;split at a
 ·injection a with a; subst a; exact b
 ·cases a
theorem zy7 (N : Rel g w r.st) {t key elem : TypeId} {x k : Operand} {ok : Bool} {z : Value} {i : TypeInfo} {zero : V} (M : o.op = .lookup t x k ok) (m : P.underlying t = some (.map key elem)) (d : P.underlying key = some (.int .i64)) (q : P.info? elem = some i) (s : i.zero = some z) (hzero : zmm z zero = true)
  {H K v : V} (C : ze g w r.st H (a.eval x)) (p : ze g w r.st K (a.eval k)) (h : alk r.st zero ok H K = some v) :
  ∃ u,(execOp a.eval o).run P w = .ok (.value u) w ∧ ze g w r.st v u:=by
 have c : ∀ u,(∀ b,Instr.checkKey b 10000 key (a.eval k) = Instr.checkKey b 10000 key (a.eval k)) → (Instr.lookup t (a.eval x) (a.eval k) ok).run P w = .ok u w → (execOp a.eval o).run P w = .ok (.value u) w:=fun u _ O => by
  unfold execOp;simp only [M,Sem.run_bind,O,Result.andThen_ok,Sem.run_pure]
 have G : ze g w r.st (zg4 true) (.bool true):=zI rfl;have A : ze g w r.st (zg4 false) (.bool false):=zI rfl
 have pair : ∀ {v1 : V} {u1 : Value} {b : Bool},ze g w r.st v1 u1 → ze g w r.st (.tup [v1,zg4 b]) (.tuple #[u1,.bool b]):=fun {v1 u1 b} E => by
  simp only [ze];exact ⟨_,rfl,by simp only [zv]; exact ⟨_,_,rfl,E,_,_,rfl,zI rfl,rfl⟩⟩
 unfold alk at h;split at h
 ·rename_i id L
  obtain ⟨f,_⟩:=zH p;rw [yb] at h;obtain ⟨es,E,rfl⟩:=h;have B:=zpp E;obtain ⟨_,_,zB,clock,y,⟨es',l,D,hm⟩,_,_⟩:=N.ob id _ B;simp only [ze,zq] at C;have ex:=C.2;rw [← znn D l]
  cases J : zes L es' with
  | none =>
    have n:=zed (i:=0) hm J;cases ok
    ·refine ⟨z,c z (fun _ => rfl) ?_,zdD hzero⟩
     rw [ex,f];simp [Instr.lookup,run_underlying m,MapKept.run_getObj_map y,run_checkKey (P:=P) (w:=w) d,Instr.findKey,run_underlying d,n,zbl (w:=w) q s]
    ·refine ⟨.tuple #[z,.bool false],c _ (fun _ => rfl) ?_,pair (zdD hzero)⟩
     rw [ex,f];simp [Instr.lookup,run_underlying m,MapKept.run_getObj_map y,run_checkKey (P:=P) (w:=w) d,Instr.findKey,run_underlying d,n,zbl (w:=w) q s]
  | some v0 =>
    obtain ⟨j,e,n,_,_,I,_⟩:=zec (i:=0) hm J;cases ok
    ·refine ⟨e.val,c _ (fun _ => rfl) ?_,I⟩
     rw [ex,f];simp [Instr.lookup,run_underlying m,MapKept.run_getObj_map y,run_checkKey (P:=P) (w:=w) d,Instr.findKey,run_underlying d,n]
    ·refine ⟨.tuple #[e.val,.bool true],c _ (fun _ => rfl) ?_,pair I⟩
     rw [ex,f];simp [Instr.lookup,run_underlying m,MapKept.run_getObj_map y,run_checkKey (P:=P) (w:=w) d,Instr.findKey,run_underlying d,n]
 ·obtain ⟨f,_⟩:=zH p
  obtain ⟨ex,_⟩:=zH C;injection h with h;subst h;cases ok
  ·refine ⟨z,c z (fun _ => rfl) ?_,zdD hzero⟩
   rw [ex,f];simp [Instr.lookup,run_underlying m,run_checkKey (P:=P) (w:=w) d,Instr.findKey,run_underlying d,Instr.findNow,zbl (w:=w) q s]
  ·refine ⟨.tuple #[z,.bool false],c _ (fun _ => rfl) ?_,pair (zdD hzero)⟩
   rw [ex,f];simp [Instr.lookup,run_underlying m,run_checkKey (P:=P) (w:=w) d,Instr.findKey,run_underlying d,Instr.findNow,zbl (w:=w) q s]
 ·cases h
theorem zzU (O : Rel g w r.st) (L : Low r.base r.lim r.st) (F : Fr κ loc nt g w r a) {t key elem : TypeId} {x k y : Operand} (c : o.op = .mapUpdate t x k y ∨ o.op = .insert t x k y) (hd : okD κ nt o.dst d = true) (E : d = .no) (ht : P.underlying t = some (.map key elem)) (G : P.underlying key = some (.int .i64))
  {Y vk f : V} (Z : ze g w r.st Y (a.eval x)) (S : ze g w r.st vk (a.eval k)) (U : ze g w r.st f (a.eval y)) {r1 : R} (h : amu r f Y vk = some r1) (kk : znO κ (zaH o.dst d :: loc) nt g w r (r1.put d vun) (a.put o.dst) next) : o.wp P a w next Q:=by
 unfold amu at h;split at h
 ·rename_i id n
  obtain ⟨W,_⟩:=zH S
  ·rw [yb] at h
   obtain ⟨es,h1,rfl⟩:=h;have m:=zpp h1;obtain ⟨_,_,zB,clock,z,⟨es',s,p,hm⟩,C,q⟩:=O.ob id _ m;simp only [ze,zq] at Z;have ex:=Z.2;have A:=znC (k:=n) (v:=f) p s;have l : Low r.base r.lim (r.setOb id (.mp (zdW n f es))).st:=L.set
   cases M : zes n es' with
   | none =>
     have J:=zed (i:=0) hm M
     obtain ⟨H,N⟩:=map_set (clock':=clock + 1) (es':=zdW n f es) (ents':=zB.push { key:=.int .i64 n,val:=a.eval y,born:=clock }) O m z fun H => by
      rw [Array.toList_push];refine ⟨⟨_,A,zcb p,zpw hm M H rfl (H.ze _ _ U)⟩,?_,?_⟩
      ·rw [yn]
       refine yh.2 ⟨C,by simp,fun a ha b X => ?_⟩;simp at X;subst X;obtain ⟨e,he,rfl⟩:=yg.1 ha;have:=q e he;omega
      ·intro e he
       rcases List.mem_append.1 he with he | he
       ·have:=q e he
        omega
       ·simp at he
        subst he;simp
     refine zpY (r1:=r.setOb id (.mp (zdW n f es))) F hd E H N l rfl rfl ?_ kk;rcases c with c | c <;> (unfold execOp; simp only [c,ex,W]; simp [Instr.mapUpdate,run_underlying ht,MapKept.run_getObj_map z,run_checkKey (P:=P) (w:=w) G,Instr.findKey,run_underlying G,J,MapKept.run_setObj_map _ z])
   | some v0 =>
     obtain ⟨j,e,J,hj,B,_,D⟩:=zec (i:=0) hm M
     obtain ⟨H,N⟩:=map_set (clock':=clock) (es':=zdW n f es) (ents':=zB.modify j fun e => { e with key:=.int .i64 n,val:=a.eval y }) O m z fun H => by
      rw [Array.toList_modify];refine ⟨⟨_,A,zcb p,D H (H.ze _ _ U)⟩,?_,?_⟩
      ·have e1 : ((zB.toList.modify j fun e => { e with key:=.int .i64 n,val:=a.eval y }).map (·.born)) = zB.toList.map (·.born):=by
        refine List.ext_getElem? fun i => ?_;rw [yi,yi,yf];cases zB.toList[i]? <;> simp;split <;> rfl
       rw [e1];exact C
      ·intro e he
       obtain ⟨i,u⟩:=List.mem_iff_getElem?.1 he;rw [yf] at u
       cases K : zB.toList[i]? with
       | none => rw [K] at u; simp at u
       | some e0 =>
         have:=q e0 (yd K);rw [K] at u;simp at u;rw [← u];split <;> exact this
     refine zpY (r1:=r.setOb id (.mp (zdW n f es))) F hd E H N l rfl rfl ?_ kk;have I : zB[j]? = some e:=(by simpa using hj);rcases c with c | c <;> (unfold execOp; simp only [c,ex,W]; simp [Instr.mapUpdate,run_underlying ht,MapKept.run_getObj_map z,run_checkKey (P:=P) (w:=w) G,Instr.findKey,run_underlying G,J,I,B,Instr.keyThatStays,Instr.sameBits,MapKept.run_setObj_map _ z])
 ·cases h
def zkr (xs ys : Array Value) (i : Nat) : Bool:=match xs[i]?,ys[i]? with
 | some (.int _ a),some (.int _ b) => a == b
 | _,_ => false
def zpm (xs ys : Array Value) (i : Nat) : Prop:=∃ k a b,xs[i]? = some (.int k a) ∧ ys[i]? = some (.int k b)
def zi2 (P : Program) (t : TypeId) : Bool:=match P.underlying t with
 | some (.int _) => true
 | _ => false
theorem zhW {t : TypeId} (h : zi2 P t = true) : ∃ k,P.underlying t = some (.int k):=by
 unfold zi2 at h;split at h
 ·exact ⟨_,by assumption⟩
 ·cases h
theorem zfo {t : TypeId} (h : zi2 P t = true) {xs : Array Value} {i : Nat} {v : Value} (b : xs[i]? = some v) : (part t xs i).run P w = .ok v w:=by
 obtain ⟨k,c⟩:=zhW h;have a : ziB P t = some false:=by unfold ziB; rw [c]; rfl
 unfold part;simp only [Sem.run_bind,zhV (w:=w) a,Result.andThen_ok,Bool.false_eq_true,if_false,b];rfl
theorem zmA {e : TypeId} (he : zi2 P e = true) (d : Nat) (xs ys : Array Value) : ∀ (l : List Nat),(∀ i ∈ l,zpm xs ys i) → (Op.eqItems (d + 1) e 1 xs ys l).run P w = .ok (l.all (zkr xs ys)) w
 | [],_ => by simp [Op.eqItems]
 | i :: l,h => by
   obtain ⟨k,a,b,g,f⟩:=h i (by simp);obtain ⟨m,c⟩:=zhW he;have p:=zmA he d xs ys l fun j q => h j (yc _ q);simp only [Op.eqItems,Nat.mul_one,Sem.run_bind,zfo he g,zfo he f,Result.andThen_ok,run_equalIn_int w d e k m a b c,yj];have n : zkr xs ys i = (a == b):=(by unfold zkr; rw [g,f]);rw [n]
   cases o : (a == b) with
   | false => simp
   | true => simpa using p
theorem zlh (d : Nat) (xs ys : Array Value) : ∀ (fs : List Field), (∀ f ∈ fs, f.name ≠ "_" ∧ zi2 P f.type = true ∧ zpm xs ys f.offset) → (Op.eqFields (d + 1) xs ys fs).run P w = .ok ((fs.map (·.offset)).all (zkr xs ys)) w
 | [],_ => by simp [Op.eqFields]
 | f :: fs,h => by
   obtain ⟨hn,he,k,a,b,h1,h2⟩:=h f (by simp)
   obtain ⟨k',hk'⟩:=zhW he
   have ih:=zlh d xs ys fs fun j hj => h j (yc _ hj)
   simp only [Op.eqFields,if_pos hn,Sem.run_bind,zfo he h1,zfo he h2,Result.andThen_ok,run_equalIn_int w d f.type k k' a b hk',ye,yj]
   have hv : zkr xs ys f.offset = (a == b):=by unfold zkr; rw [h1,h2]
   rw [hv]
   cases hab : (a == b) with
   | false => simp
   | true => simpa using ih
def ztx (P : Program) (t : TypeId) : Option Nat:=match P.underlying t with
 | some (.array n e) => if zi2 P e && (P.cellsOf e == 1) && (P.info? e).isSome then some n else none
 | some (.struct fs) => if !P.stoodInHeld t && fs.toList.all (fun f => decide (f.name ≠ "_") && zi2 P f.type) && (fs.toList.map (·.offset) == yo fs.toList.length) && (P.fieldsOf t).toList.length == fs.toList.length then some fs.toList.length else none
 | _ => none
theorem zyx {t : TypeId} {n : Nat} (h : ztx P t = some n) {xs ys : Array Value} (m : ∀ i,i < n → zpm xs ys i) : (Op.equalIn 10000 t (.agg xs) (.agg ys)).run P w = .ok ((yo n).all (zkr xs ys)) w:=by
 unfold ztx at h;split at h
 ·rename_i s e hu
  split at h
  ·rename_i a
   injection h with h;subst h;simp only [ya,beq_iff_eq] at a;obtain ⟨⟨k,d⟩,c⟩:=a;obtain ⟨i,q⟩:=Option.isSome_iff_exists.1 c;rw [run_equalIn_array w 9999 xs ys hu q,d];exact zmA k 9998 xs ys _ fun j r => m j (by simpa using r)
  ·cases h
 ·rename_i g hu
  split at h
  ·rename_i a
   injection h with h;subst h;simp only [ya,Bool.not_eq_true',beq_iff_eq] at a;obtain ⟨⟨⟨k,d⟩,c⟩,u⟩:=a;have o : P.fieldsOf t = g:=(by simp [Program.fieldsOf,hu]);rw [run_equalIn_struct w 9999 t xs ys (by rw [o]; exact hu) k,o];rw [zlh 9998 xs ys g.toList fun f b => ?_,c];have l:=List.all_eq_true.1 d f b;simp only [ya,decide_eq_true_eq] at l;have p : f.offset ∈ g.toList.map (·.offset):=yg.2 ⟨f,b,rfl⟩;rw [c] at p;exact ⟨l.1,l.2,m _ (by simpa using p)⟩
  ·cases h
 ·cases h
theorem zlF {σ : zb} : ∀ {cs ds : List C} {us vs : List Value} {b : Bool},zhs cs ds = some b → zm g w σ cs us → zm g w σ ds vs → us.length = cs.length ∧ vs.length = cs.length ∧ (∀ i,i < cs.length → zpm us.toArray vs.toArray i) ∧ b = (yo cs.length).all (zkr us.toArray vs.toArray)
 | [],[],us,vs,b,h,hu,hv => by
   have s : us = []:=(by simpa only [zm] using hu);have e2 : vs = []:=(by simpa only [zm] using hv);subst s e2;simp only [zhs,Option.some.injEq] at h;subst h;exact ⟨rfl,rfl,fun i p => by simp at p,by simp⟩
 | c :: cs,d :: ds,us,vs,b,h,hu,hv => by
   unfold zhs at h;split at h
   ·rename_i heq _; cases heq
   ·rename_i k a xs I o ys n j
    injection n with s e2;injection j with e3 e4;subst s e2 e3 e4;split at h
    ·rename_i H
     subst H;rw [yb] at h;obtain ⟨b1,D,t⟩:=h;simp only [zm] at hu hv;obtain ⟨u,us',rfl,l,r⟩:=hu;obtain ⟨v,f,rfl,m,q⟩:=hv;obtain ⟨G,z,x,A⟩:=zlF D r q;simp only [zq,rep] at l m;obtain ⟨rfl,_⟩:=l;obtain ⟨rfl,_⟩:=m;have e : ∀ i,zkr (Value.int k a :: us').toArray (Value.int k o :: f).toArray (i + 1) = zkr us'.toArray f.toArray i:=fun i => by simp [zkr]
     refine ⟨by simp [G],by simp [z],fun i p => ?_,?_⟩
     ·cases i with
      | zero => exact ⟨k,a,o,by simp,by simp⟩
      | succ i =>
        obtain ⟨E,a2,b2,r1,y⟩:=x i (by simpa using p);exact ⟨E,a2,b2,by simpa using r1,by simpa using y⟩
     ·rw [← t,A,List.length_cons,List.range_succ_eq_map,yj,List.all_map]
      have B : zkr (Value.int k a :: us').toArray (Value.int k o :: f).toArray 0 = decide (a = o):=(by simp [zkr]; rfl);rw [B]
      congr 2
      funext i
      exact (e i).symm
    ·cases h
   ·cases h
 | [],d :: ds,us,vs,b,h,_,_ => by simp [zhs] at h
 | c :: cs,[],us,vs,b,h,_,_ => by
   unfold zhs at h;split at h <;> simp_all
theorem zws {op : BinOp} {t E : TypeId} {x y : Operand} {neg : Bool} {n : Nat} (A : o.op = .binOp op t x y E) (l : (op = .eql ∧ neg = false) ∨ (op = .neq ∧ neg = true)) (G : ztx P t = some n) (I : P.eqGuardType P.depth t = false)
  {s B v : V} (z : ze g w r.st s (a.eval x)) (p : ze g w r.st B (a.eval y)) (h : zCL n neg s B = some v) :
  ∃ u,(execOp a.eval o).run P w = .ok (.value u) w ∧ ze g w r.st v u:=by
 unfold zCL at h;split at h
 ·rename_i cs ds
  split at h
  ·rename_i D
   rw [yb] at h;obtain ⟨b,H,C⟩:=h;subst C;simp only [ze] at z p;obtain ⟨us,e,k⟩:=z;obtain ⟨vs,f,j⟩:=p;obtain ⟨K,J,m,q⟩:=zlF H k j;rw [D] at m q;have d:=zyx (w:=w) G (xs:=us) (ys:=vs) (by simpa using m);have c:=run_eqGuard_agg (P:=P) w op t x y us vs I;have i : b = (yo n).all (zkr us vs):=(by simpa using q);rcases l with ⟨rfl,rfl⟩ | ⟨rfl,rfl⟩
   ·refine ⟨.bool b,?_,zI (v:=.bool b) rfl⟩
    unfold execOp;simp only [A,e,f];simp [c,run_eql_struct,d,i]
   ·refine ⟨.bool (!b),?_,zI (v:=.bool (!b)) rfl⟩
    unfold execOp;simp only [A,e,f];simp [c,run_neq_struct,d,i]
  ·cases h
 ·cases h
theorem zx3 {op : BinOp} {t l : TypeId} {x y : Operand} {neg : Bool} (d : o.op = .binOp op t x y l) (b : (op = .eql ∧ neg = false) ∨ (op = .neq ∧ neg = true)) (m : P.underlying t = some .bool)
  {c e v : V} (k : ze g w r.st c (a.eval x)) (j : ze g w r.st e (a.eval y)) (h : zCK neg c e = some v) :
  ∃ u,(execOp a.eval o).run P w = .ok (.value u) w ∧ ze g w r.st v u:=by
 unfold zCK at h;split at h
 ·rename_i p q
  obtain ⟨ex,_⟩:=zH k;obtain ⟨f,_⟩:=zH j;injection h with h;subst h;have i:=run_equal_bool (P:=P) w t p q m;rcases b with ⟨rfl,rfl⟩ | ⟨rfl,rfl⟩
  ·refine ⟨.bool (p == q),?_,zI (v:=.bool (p == q)) rfl⟩
   unfold execOp;simp only [d,ex,f];simp [eqGuard,binOp,i]
  ·refine ⟨.bool (!(p == q)),?_,zI (v:=.bool (!(p == q))) rfl⟩
   unfold execOp;simp only [d,ex,f];simp [eqGuard,binOp,i]
 ·cases h
end
def Ow.cut (n : Nat) : Ow → Ow
 | .no => .no
 | .ob id => if id < n then .ob id else .no
 | .tk t k => if t < n then .tk t k else .no
theorem Ow.cut_cut {n m : Nat} (h : n ≤ m) (o : Ow) (a : o.cut n = o) : o.cut m = o:=by
 cases o with
 | no => rfl
 | ob id =>
   simp only [Ow.cut] at a ⊢;split at a
   ·rw [if_pos (by omega)]
   ·cases a
 | tk t k =>
   simp only [Ow.cut] at a ⊢;split at a
   ·rw [if_pos (by omega)]
   ·cases a
theorem Ow.cut_idem (n : Nat) (o : Ow) : (o.cut n).cut n = o.cut n:=by
 cases o with
 | no => rfl
 | ob id => by_cases h : id < n <;> simp [Ow.cut,h]
 | tk t k => by_cases h : t < n <;> simp [Ow.cut,h]
def G.drop (g : G) (n : Nat) (w : World) : G :=
 { g with
   ow:=fun b => (g.ow b).cut n
   N:=fun b o => g.N b o ∨ (b < w.heap.size ∧ ∃ id,n ≤ id ∧ g.ow b = .ob id) }
def Clean (g : G) (n : Nat) : Prop:=∀ b,(g.ow b).cut n = g.ow b
section
variable {g : G} {w : World} {σ : zb} {n : Nat}
theorem zgt {α : Type} {l : List α} {i n : Nat} (h : i < n) : (l.take n)[i]? = l[i]?:=by rw [List.getElem?_take,if_pos h]
theorem zkE {id : Nat} (h : id < n) : shapeOf (σ.take n) id = shapeOf σ id:=by unfold shapeOf; rw [zgt h]
theorem zwp {t k : Nat} (h : t < n) : zkF (σ.take n) t k = zkF σ t k:=by unfold zkF; rw [zgt h]
theorem ztv {t : Nat} (h : t < n) : zlR (σ.take n) t = zlR σ t:=by unfold zlR; rw [zgt h]
theorem zeP : ze5 w w g.N (g.drop n w).N:=fun _ _ h => ⟨.inl h,rfl⟩
mutual
theorem zmM : ∀ (c : C) (u : Value),zq g w σ c u → c.lt n = true → zq (g.drop n w) w (σ.take n) c u
 | .f x,u,h,_ => by
   simp only [zq] at h ⊢;exact zbD zeP x u h
 | .ap t k xs,u,h,hl => by
   have d : t < n:=(by simpa [C.lt] using hl);simp only [zq] at h ⊢;obtain ⟨j,m,e,l,r,sz,p,s⟩:=h;exact ⟨zbD zeP _ u j,m,by rw [zwp d]; exact e,l,r,sz,by rw [ztv d]; exact p,s⟩
 | .ptr id ver i off,u,h,hl => by
   have d : id < n:=(by simpa [C.lt] using hl);simp only [zq] at h ⊢;rw [zkE d];exact h
 | .fp cs off,u,h,_ => by
   simp only [zq] at h ⊢;obtain ⟨b,o,j,e⟩:=h;exact ⟨b,o,j,zc8 zeP cs b o e⟩
 | .own id ver lo m,u,h,hl => by
   have d : id < n:=(by simpa [C.lt] using hl);simp only [zq] at h ⊢;rw [zkE d];exact h
 | .map id,u,h,hl => by
   have d : id < n:=(by simpa [C.lt] using hl);simp only [zq] at h ⊢;rw [zgt d];exact h
 | .fn f a b,u,h,hl => by
   simp only [C.lt,ya] at hl;simp only [zq] at h ⊢;obtain ⟨q,cs,j,e,l⟩:=h;exact ⟨q,cs,j,zij a _ e hl.1,zij b _ l hl.2⟩
 | .un,_,_,_ => by simp only [zq]
theorem zij : ∀ (cs : List C) (us : List Value),zm g w σ cs us → C.lts n cs = true → zm (g.drop n w) w (σ.take n) cs us
 | [],us,h,_ => by simpa only [zm] using h
 | c :: cs,us,h,hl => by
   simp only [C.lts,ya] at hl;simp only [zm] at h ⊢;obtain ⟨v,vs,d,a,b⟩:=h;exact ⟨v,vs,d,zmM c v a hl.1,zij cs vs b hl.2⟩
end
mutual
theorem zhT : ∀ (c : V) (u : Value),ze g w σ c u → c.lt n = true → ze (g.drop n w) w (σ.take n) c u
 | .one c,u,h,hl => by
   simp only [V.lt] at hl;simp only [ze] at h ⊢;exact zmM c u h hl
 | .agg cs,u,h,hl => by
   simp only [V.lt] at hl;simp only [ze] at h ⊢;obtain ⟨us,b,a⟩:=h;exact ⟨us,b,zij cs _ a hl⟩
 | .tup vs,u,h,hl => by
   simp only [V.lt] at hl;simp only [ze] at h ⊢;obtain ⟨us,b,a⟩:=h;exact ⟨us,b,zod vs _ a hl⟩
theorem zod : ∀ (vs : List V) (us : List Value),zv g w σ vs us → V.lts n vs = true → zv (g.drop n w) w (σ.take n) vs us
 | [],us,h,_ => by simpa only [zv] using h
 | c :: cs,us,h,hl => by
   simp only [V.lts,ya] at hl;simp only [zv] at h ⊢;obtain ⟨v,vs,d,a,b⟩:=h;exact ⟨v,vs,d,zhT c v a hl.1,zod cs vs b hl.2⟩
end
theorem zCi {os : List Ob} (h : Obs.lt n os = true) : ∀ {i : Nat} {o : Ob},os[i]? = some o → o.lt n = true:=by
 induction os with
 | nil => intro i o h; simp at h
 | cons x xs ih =>
   simp only [Obs.lt,ya] at h;intro i o a
   cases i with
   | zero => simp at a; subst a; exact h.1
   | succ i => exact ih h.2 (by simpa using a)
theorem zqS : ∀ {es : List (Int × V)} {zB : List MapEntry},zmT g w σ es zB → C.ltm n es = true → zmT (g.drop n w) w (σ.take n) es zB
 | [],_,h,_ => h
 | x :: xs,_,h,hl => by
   simp only [C.ltm,ya] at hl;obtain ⟨e,rest,d,a,c,b⟩:=h;exact ⟨e,rest,d,a,zhT _ _ c hl.1,zqS b hl.2⟩
theorem zsU : ∀ {es : List (Int × V)},C.ltm n es = true ↔ ∀ e ∈ es,e.2.lt n = true
 | [] => by simp [C.ltm]
 | e :: es => by simp [C.ltm,zsU (es:=es)]
theorem zvA {es : List (Int × V)} {zB : List MapEntry} {clock : Nat} (h : zjr g w σ es zB clock) (b : C.ltm n es = true) : zjr (g.drop n w) w (σ.take n) es zB clock:=by
 have:=zlW (g':=g.drop n w) (w':=w) (σ':=σ.take n) h id (fun _ => rfl) (fun es' a h => by
  rw [yk]
  exact zqS h (zsU.2 fun e he => zsU.1 b e (a.mem_iff.1 he)))
 rwa [yk] at this
theorem ztP (R : Rel g w σ) (J : Obs.lt n (σ.take n) = true) : Rel (g.drop n w) w (σ.take n):=by
 refine ⟨fun b o h => h.elim (R.nb b o) fun h => h.1,fun id o z => ?_⟩
 have d : id < n:=by
  have:=za z;rw [yl] at this;omega
 have l:=zCi J z;rw [zgt d] at z;have p:=R.ob id o z;have y : ∀ b i,g.ow b = .ob i → i < n → (g.drop n w).ow b = .ob i:=fun b i h r => by simp [G.drop,Ow.cut,h,r]
 have a : ∀ b i,g.ow b = .ob i → i < n → (∀ o,¬ g.N b o) → ∀ o,¬ (g.drop n w).N b o:=fun b i h r E o a => by
  rcases a with a | ⟨_,j,O,a⟩
  ·exact E o a
  ·rw [h] at a; injection a with a; omega
 cases o with
 | cells ver sz es =>
   intro B;obtain ⟨q,v,arr,t,x,s,A⟩:=p B;refine ⟨y _ _ q d,a _ _ q d v,arr,t,x,s,fun i e r => ⟨(A i e r).1,fun j c C => ?_⟩⟩;obtain ⟨u,L,K,D⟩:=(A i e r).2 j c C;simp only [Ob.lt] at l;exact ⟨u,L,zmM c u K (zwm.1 (zue.1 l e (yd r)) c (yd C)),D⟩
 | mp es =>
   obtain ⟨q,v,zB,clock,x,s⟩:=p;exact ⟨y _ _ q d,a _ _ q d v,zB,clock,x,zvA s (by simpa [Ob.lt] using l)⟩
 | tok sz fr =>
   intro k m hm;rcases p k m hm with h | ⟨b,o,c,arr,t,q,v,x,s,A,M,I⟩
   ·exact .inl h
   ·refine .inr ⟨b,o,c,arr,t,q,v,x,by simp [G.drop,Ow.cut,s,d],A,M,fun H f => ?_⟩
    rcases f with f | ⟨_,j,_,f⟩
    ·exact I H f
    ·rw [s] at f; cases f
theorem ztC {g0 : G} {w0 : World} {σ0 : zb} (H : Ext g0 w0 σ0 g w σ) (j : Clean g0 σ0.length) (i : σ0.length ≤ n) : Ext g0 w0 σ0 (g.drop n w) w (σ.take n) where
 os:=H.os
 tape:=H.tape
 output:=H.output
 size:=H.size
 keeps:=H.keeps.trans zeP
 len:=by have:=H.len; rw [yl]; omega
 shape:=fun id e sz len h => by
  have a : id < n:=by obtain ⟨es,c,_⟩:=zao h; have:=za c; omega
  rw [zkE a];exact H.shape id e sz len h
 map:=fun id es h => by
  have a : id < n:=by have:=za h; omega
  rw [zgt a];exact H.map id es h
 tok:=fun t k m h => by
  have a : t < n:=by obtain ⟨_,_,c,_⟩:=zb7 h; have:=za c; omega
  rw [zwp a];exact H.tok t k m h
 tsz:=fun t sz h => by
  have a : t < n:=by obtain ⟨_,c⟩:=zdh h; have:=za c; omega
  rw [ztv a];exact H.tsz t sz h
 ow:=fun b d => by
  show (g.ow b).cut n = _
  rw [H.ow b d];exact Ow.cut_cut i _ (j b)
 new:=fun b o h d f => by
  rcases h with h | ⟨_,id,_,h⟩
  ·exact H.new b o h d f
  ·rw [H.ow b d,f] at h; cases h
 frame:=H.frame
def G.clean (g : G) (n : Nat) : G :=
 { g with ow:=fun b => (g.ow b).cut n }
theorem zdO (g : G) (n : Nat) : Clean (g.clean n) n:=fun b => Ow.cut_idem n _
mutual
theorem znd {g' : G} (e : g'.ρ = g.ρ) (j : g'.tv = g.tv) (d : g'.N = g.N) : ∀ (c : C) (u : Value),zq g w σ c u → zq g' w σ c u
 | .f x,u,h => by simp only [zq] at h ⊢; rw [d]; exact h
 | .ap t k xs,u,h => by simp only [zq] at h ⊢; rw [d,j]; exact h
 | .ptr id ver i off,u,h => by simp only [zq] at h ⊢; rw [e]; exact h
 | .fp cs off,u,h => by simp only [zq] at h ⊢; rw [d]; exact h
 | .own id ver lo m,u,h => by simp only [zq] at h ⊢; rw [e]; exact h
 | .map id,u,h => by simp only [zq] at h ⊢; rw [e]; exact h
 | .fn f a b,u,h => by
   simp only [zq] at h ⊢;obtain ⟨p,cs,l,n,o⟩:=h;exact ⟨p,cs,l,ziu e j d a _ n,ziu e j d b _ o⟩
 | .un,_,_ => by simp only [zq]
theorem ziu {g' : G} (d : g'.ρ = g.ρ) (a : g'.tv = g.tv) (b : g'.N = g.N) : ∀ (cs : List C) (us : List Value),zm g w σ cs us → zm g' w σ cs us
 | [],us,h => by simpa only [zm] using h
 | c :: cs,us,h => by
   simp only [zm] at h ⊢;obtain ⟨v,vs,e,f,i⟩:=h;exact ⟨v,vs,e,znd d a b c v f,ziu d a b cs vs i⟩
end
mutual
theorem zdA {g' : G} (f : g'.ρ = g.ρ) (a : g'.tv = g.tv) (e : g'.N = g.N) : ∀ (c : V) (u : Value),ze g w σ c u → ze g' w σ c u
 | .one c,u,h => by simp only [ze] at h ⊢; exact znd f a e c u h
 | .agg cs,u,h => by
   simp only [ze] at h ⊢;obtain ⟨us,b,d⟩:=h;exact ⟨us,b,ziu f a e cs _ d⟩
 | .tup vs,u,h => by
   simp only [ze] at h ⊢;obtain ⟨us,b,d⟩:=h;exact ⟨us,b,zot f a e vs _ d⟩
theorem zot {g' : G} (d : g'.ρ = g.ρ) (a : g'.tv = g.tv) (b : g'.N = g.N) : ∀ (vs : List V) (us : List Value),zv g w σ vs us → zv g' w σ vs us
 | [],us,h => by simpa only [zv] using h
 | c :: cs,us,h => by
   simp only [zv] at h ⊢;obtain ⟨v,vs,e,f,i⟩:=h;exact ⟨v,vs,e,zdA d a b c v f,zot d a b cs vs i⟩
end
theorem zrS {g' : G} (c : g'.ρ = g.ρ) (a : g'.tv = g.tv) (b : g'.N = g.N) : ∀ {es : List (Int × V)} {zB : List MapEntry},zmT g w σ es zB → zmT g' w σ es zB
 | [],_,h => h
 | x :: xs,_,h => by
   obtain ⟨e,rest,d,i,j,f⟩:=h;exact ⟨e,rest,d,i,zdA c a b _ _ j,zrS c a b f⟩
theorem zuq {g' : G} (c : g'.ρ = g.ρ) (a : g'.tv = g.tv) (b : g'.N = g.N) {es : List (Int × V)} {zB : List MapEntry} {clock : Nat} (h : zjr g w σ es zB clock) : zjr g' w σ es zB clock:=by
 have:=zlW (g':=g') (w':=w) (σ':=σ) h id (fun _ => rfl) (fun es' d h => by
  rw [yk]
  exact zrS c a b h)
 rwa [yk] at this
theorem zqI {g' : G} (R : Rel g w σ) (v : g'.ρ = g.ρ) (x : g'.tv = g.tv) (f : g'.N = g.N) (n : ∀ b id,id < σ.length → g.ow b = .ob id → g'.ow b = .ob id) (y : ∀ b t k,t < σ.length → g.ow b = .tk t k → g'.ow b = .tk t k) : Rel g' w σ:=by
 refine ⟨by rw [f]; exact R.nb,fun id o B => ?_⟩;have a:=za B;have d:=R.ob id o B
 cases o with
 | cells ver sz es =>
   intro z;obtain ⟨q,p,arr,t,l,r,s⟩:=d z;rw [v,f];refine ⟨n _ _ a q,p,arr,t,l,r,fun i e A => ⟨(s i e A).1,fun j c D => ?_⟩⟩;obtain ⟨u,m1,m2,C⟩:=(s i e A).2 j c D;exact ⟨u,m1,znd v x f c u m2,C⟩
 | mp es =>
   obtain ⟨q,p,zB,clock,l,r⟩:=d;unfold zyl;rw [v,f];exact ⟨n _ _ a q,p,zB,clock,l,zuq v x f r⟩
 | tok sz fr =>
   intro k m hm;rw [x,f];rcases d k m hm with h | ⟨b,o,c,arr,t,q,p,l,r,s⟩
   ·exact .inl h
   ·exact .inr ⟨b,o,c,arr,t,q,p,l,y _ _ _ a r,s⟩
theorem zvW (R : Rel g w σ) : Rel (g.clean σ.length) w σ :=
 zqI R rfl rfl rfl (fun b id a h => by simp [G.clean,Ow.cut,h,a]) (fun b t k c h => by simp [G.clean,Ow.cut,h,c])
def G.under (g0 : G) (w0 : World) (g : G) : G:={ g with ow:=fun b => if b < w0.heap.size then g0.ow b else g.ow b }
theorem zne {w' : World} {σ' : zb} {g' : G} (H : Ext (g.clean σ.length) w σ g' w' σ') : Ext g w σ (g.under w g') w' σ' where
 os:=H.os
 tape:=H.tape
 output:=H.output
 size:=H.size
 keeps:=H.keeps
 len:=H.len
 shape:=H.shape
 map:=H.map
 tok:=H.tok
 tsz:=H.tsz
 ow:=fun b a => by
  show (if b < w.heap.size then g.ow b else g'.ow b) = _
  rw [if_pos a]
 new:=fun b o h a c => H.new b o h a (by simp [G.clean,Ow.cut,c])
 frame:=fun b a c => H.frame b a (by simp [G.clean,Ow.cut,c])
theorem zmi {w' : World} {σ' : zb} {g' : G} (H : Ext (g.clean σ.length) w σ g' w' σ') (R : Rel g' w' σ') : Rel (g.under w g') w' σ':=by
 have key : ∀ b,b < w.heap.size → g'.ow b ≠ .no → g.ow b = g'.ow b:=fun b e a => by
  have:=H.ow b e;change g'.ow b = (g.ow b).cut σ.length at this;rw [this] at a ⊢
  cases h : g.ow b with
  | no => rfl
  | ob id =>
    rw [h] at a;simp only [Ow.cut] at a ⊢;split
    ·rfl
    ·rename_i c; rw [if_neg c] at a; exact absurd rfl a
  | tk t k =>
    rw [h] at a;simp only [Ow.cut] at a ⊢;split
    ·rfl
    ·rename_i c; rw [if_neg c] at a; exact absurd rfl a
 refine zqI (g':=g.under w g') R rfl rfl rfl (fun b id d h => ?_) (fun b t k f h => ?_)
 ·show (if b < w.heap.size then g.ow b else g'.ow b) = _
  split
  ·rw [key b (by assumption) (by rw [h]; simp),h]
  ·exact h
 ·show (if b < w.heap.size then g.ow b else g'.ow b) = _
  split
  ·rw [key b (by assumption) (by rw [h]; simp),h]
  ·exact h
end
end Go.A
