/- A part of the proof of SchedFlat. Conditions: none. -/
import Derived.Test.YtmkncmffaaninaaGreatFAF
import Derived.Laws.StructEq
import Derived.ChangeKeysEq
set_option linter.all false
open Bool renaming and_eq_true → ya
open Option renaming map_eq_some_iff → yb
open List renaming mem_cons_of_mem → yc,mem_of_getElem? → yd,map_cons → ye,getElem?_modify → yf,mem_map → yg,nodup_append → yh,getElem?_map → yi,all_cons → yj,map_id → yk,length_take → yl,nodup_cons → ym,map_append → yn,range → yo,mem_cons → yp
namespace Go.A
section
variable {P : Program} {κ : List Tmp} {loc : List (Option Tmp)} {nt : Nat} {g : G} {w : World} {r r' : R} {a : Act} {o : Go.Oper} {d : D} {next : Act → World → Prop} {Q : Exit → Act → World → Prop}
theorem run_checkKey {b : Bool} {t : TypeId} {k : IntKind} {v : Value} (h : P.underlying t = some (.int k)) : (Instr.checkKey b 10000 t v).run P w = .ok () w:=by
 show (Instr.checkKey b (9999 + 1) t v).run P w = _
 unfold Instr.checkKey;rw [Sem.run_bind,run_underlying h];cases v <;> rfl
theorem ze4 {σ : zd} {k : Int} : ∀ {es : List (Int × V)} {zbn : List MapEntry} {i : Nat},zqc g w σ es zbn → zhj k es = none → Instr.findNow (.int .i64) (.int .i64 k) zbn i = some none
 | [],zbn,i,hm,_ => by
   have : zbn = []:=hm;subst this;rfl
 | x :: es,zbn,i,hm,h => by
   obtain ⟨e,rest,rfl,c,_,d⟩:=hm;simp only [zhj] at h;split at h
   ·cases h
   ·rename_i b
    unfold Instr.findNow;have a : ¬ (k = x.1):=fun e => b e.symm;simp only [c,Instr.sameNow,if_pos];have : (k == x.1) = false:=(by simpa using a);rw [this];exact ze4 d h
theorem zeY {σ : zd} {k : Int} : ∀ {es : List (Int × V)} {zbn : List MapEntry} {i : Nat} {v : V},zqc g w σ es zbn → zhj k es = some v →
  ∃ j e,Instr.findNow (.int .i64) (.int .i64 k) zbn i = some (some (i + j,e.val)) ∧ zbn[j]? = some e ∧ e.key = .int .i64 k ∧ zf g w σ v e.val ∧
    ∀ {g' : G} {w' : World} {σ' : zd} {v' : V} {l : Value},Ext g w σ g' w' σ' → zf g' w' σ' v' l → zqc g' w' σ' (zlV k v' es) (zbn.modify j fun e => { e with key:=.int .i64 k,val:=l })
 | [],_,_,_,_,h => by simp [zhj] at h
 | x :: es,zbn,i,v,hm,h => by
   obtain ⟨e,rest,rfl,b,f,m⟩:=hm;simp only [zhj] at h;split at h
   ·rename_i c
    injection h with h;subst h;refine ⟨0,e,?_,by simp,by rw [b,c],f,fun H d => ?_⟩
    ·unfold Instr.findNow
     simp [b,Instr.sameNow,c]
    ·simp only [zlV,if_pos c,List.modify_zero_cons]
     exact ⟨_,_,rfl,rfl,d,H.zqc m⟩
   ·rename_i a
    obtain ⟨j,q,p,n,r,o,s⟩:=zeY (i:=i + 1) m h;refine ⟨j + 1,q,?_,by simpa using n,r,o,fun H d => ?_⟩
    ·unfold Instr.findNow
     have : (k == x.1) = false:=by simpa using fun e : k = x.1 => a e.symm
     simp only [b,Instr.sameNow,if_pos,this];rw [p,show i + 1 + j = i + (j + 1) from by omega]
    ·simp only [zlV,if_neg a,List.modify_succ_cons]
     exact ⟨_,_,rfl,b,H.zf _ _ f,s H d⟩
theorem zvH {σ : zd} {k : Int} : ∀ {es : List (Int × V)} {zbn : List MapEntry},zqc g w σ es zbn → zhj k es = none → ∀ {g' : G} {w' : World} {σ' : zd} {v' : V} {a : MapEntry},Ext g w σ g' w' σ' → a.key = .int .i64 k → zf g' w' σ' v' a.val → zqc g' w' σ' (zlV k v' es) (zbn ++ [a])
 | [],zbn,hm,_,_,_,_,_,a,H,hk,hv => by
   have : zbn = []:=hm;subst this;exact ⟨a,[],rfl,hk,hv,rfl⟩
 | x :: es,zbn,hm,h,_,_,_,_,a,H,hk,hv => by
   obtain ⟨e,rest,rfl,c,f,d⟩:=hm;simp only [zhj] at h;split at h
   ·cases h
   ·rename_i b
    simp only [zlV,if_neg b];exact ⟨e,rest ++ [a],rfl,c,H.zf _ _ f,zvH d h H hk hv⟩
theorem zjN {k : Int} : ∀ {es : List (Int × V)},zhj k es = none ↔ ∀ e ∈ es,e.1 ≠ k
 | [] => by simp [zhj]
 | e :: es => by
   simp only [zhj];split
   ·rename_i h
    simp [h]
   ·rename_i h
    rw [zjN (es:=es)];simp [h]
theorem zpd {k : Int} {v : V} : ∀ {es : List (Int × V)},(es.map (·.1)).Nodup → (zhj k es = some v ↔ (k,v) ∈ es)
 | [],_ => by simp [zhj]
 | e :: es,hn => by
   simp only [ye,ym] at hn;simp only [zhj];split
   ·rename_i h
    subst h;constructor
    ·intro h; injection h with h; subst h; simp
    ·intro h
     rcases yp.1 h with h | h
     ·rw [← h]
     ·exact absurd (yg.2 ⟨_,h,rfl⟩) hn.1
   ·rename_i h
    rw [zpd hn.2];constructor
    ·exact fun h => yc _ h
    ·intro a
     rcases yp.1 a with a | a
     ·exact absurd (by rw [← a]) h
     ·exact a
theorem zo4 {k : Int} {es es' : List (Int × V)} (c : (es'.map (·.1)).Nodup) (h : es'.Perm es) : zhj k es' = zhj k es:=by
 have a : (es.map (·.1)).Nodup:=(h.map _).nodup_iff.1 c
 cases b : zhj k es' with
 | none =>
   refine (zjN.2 fun e he => zjN.1 b e (h.mem_iff.2 he)).symm
 | some v => exact ((zpd a).2 (h.mem_iff.1 ((zpd c).1 b))).symm
theorem zik {k : Int} {v : V} : ∀ {es : List (Int × V)},zhj k es = none → zlV k v es = es ++ [(k,v)]
 | [],_ => rfl
 | e :: es,h => by
   simp only [zhj] at h;split at h
   ·cases h
   ·rename_i a
    simp only [zlV,if_neg a,zik h,List.cons_append]
theorem zt2 {k : Int} {v v0 : V} : ∀ {es : List (Int × V)},zhj k es = some v0 → (zlV k v es).map (·.1) = es.map (·.1)
 | [],h => by simp [zhj] at h
 | e :: es,h => by
   simp only [zhj] at h;split at h
   ·rename_i b
    simp [zlV,b]
   ·rename_i a
    simp only [zlV,if_neg a,ye,zt2 h]
theorem zo1 {k : Int} {v v0 : V} : ∀ {es : List (Int × V)},(es.map (·.1)).Nodup → zhj k es = some v0 → ((k,v0) :: zlV k v es).Perm ((k,v) :: es)
 | [],_,h => by simp [zhj] at h
 | e :: es,hn,h => by
   simp only [ye,ym] at hn;simp only [zhj] at h;split at h
   ·rename_i b
    injection h with h;simp only [zlV,if_pos b];have : e = (k,v0):=(by rw [← b,← h]);rw [this];exact List.Perm.swap _ _ _
   ·rename_i a
    simp only [zlV,if_neg a];exact (List.Perm.swap _ _ _).trans (((zo1 hn.2 h).cons e).trans (List.Perm.swap _ _ _))
theorem zzM {k : Int} {v : V} {es es' : List (Int × V)} (b : (es'.map (·.1)).Nodup) (h : es'.Perm es) : (zlV k v es').Perm (zlV k v es):=by
 have c : (es.map (·.1)).Nodup:=(h.map _).nodup_iff.1 b
 cases a : zhj k es' with
 | none =>
   rw [zik a,zik (by rw [← zo4 b h]; exact a)];exact h.append_right _
 | some v0 =>
   have d:=zo1 (v:=v) b a;have e:=zo1 (v:=v) c (by rw [← zo4 b h]; exact a);exact (List.perm_cons _).1 (d.trans ((h.cons _).trans e.symm))
theorem zq6 {k : Int} {v : V} {es : List (Int × V)} (f : (es.map (·.1)).Nodup) : ((zlV k v es).map (·.1)).Nodup:=by
 cases c : zhj k es with
 | none =>
   rw [zik c,yn];refine yh.2 ⟨f,by simp,fun a g b d => ?_⟩;simp at d;subst d;obtain ⟨e,he,rfl⟩:=yg.1 g;exact zjN.1 c e he
 | some v0 => rw [zt2 c]; exact f
theorem zzb {σ : zd} {id : Nat} {es : List (Int × V)} (h : (σ[id]?).bind Ob.entries = some es) : σ[id]? = some (.mp es):=by
 rw [Option.bind_eq_some_iff] at h;obtain ⟨c,b,a⟩:=h;unfold Ob.entries at a;split at a
 ·injection a with a; subst a; exact b
 ·cases a
theorem zA3 (N : Rel g w r.st) {t key elem : TypeId} {x k : Operand} {ok : Bool} {z : Value} {i : TypeInfo} {zero : V} (M : o.op = .lookup t x k ok) (l : P.underlying t = some (.map key elem)) (d : P.underlying key = some (.int .i64)) (s : P.info? elem = some i) (q : i.zero = some z) (hzero : zph z zero = true)
  {I H v : V} (B : zf g w r.st I (a.eval x)) (n : zf g w r.st H (a.eval k)) (h : alk r.st zero ok I H = some v) :
  ∃ u,(execOp a.eval o).run P w = .ok (.value u) w ∧ zf g w r.st v u:=by
 have c : ∀ u,(∀ b,Instr.checkKey b 10000 key (a.eval k) = Instr.checkKey b 10000 key (a.eval k)) → (Instr.lookup t (a.eval x) (a.eval k) ok).run P w = .ok u w → (execOp a.eval o).run P w = .ok (.value u) w:=fun u _ K => by
  unfold execOp;simp only [M,Sem.run_bind,K,Result.andThen_ok,Sem.run_pure]
 have E : zf g w r.st (zjm true) (.bool true):=zT rfl;have p : zf g w r.st (zjm false) (.bool false):=zT rfl
 have pair : ∀ {v1 : V} {u1 : Value} {b : Bool},zf g w r.st v1 u1 → zf g w r.st (.tup [v1,zjm b]) (.tuple #[u1,.bool b]):=fun {v1 u1 b} D => by
  simp only [zf];exact ⟨_,rfl,by simp only [zz]; exact ⟨_,_,rfl,D,_,_,rfl,zT rfl,rfl⟩⟩
 unfold alk at h;split at h
 ·rename_i id L
  obtain ⟨ek,_⟩:=zM n;rw [yb] at h;obtain ⟨es,D,rfl⟩:=h;have A:=zzb D;obtain ⟨_,_,zbn,clock,y,⟨es',f,C,hm⟩,_,_⟩:=N.ob id _ A;simp only [zf,zy] at B;have ex:=B.2;rw [← zo4 C f]
  cases G : zhj L es' with
  | none =>
    have m:=ze4 (i:=0) hm G;cases ok
    ·refine ⟨z,c z (fun _ => rfl) ?_,zfD hzero⟩
     rw [ex,ek];simp [Instr.lookup,run_underlying l,MapKept.run_getObj_map y,run_checkKey (P:=P) (w:=w) d,Instr.findKey,run_underlying d,m,zdh (w:=w) s q]
    ·refine ⟨.tuple #[z,.bool false],c _ (fun _ => rfl) ?_,pair (zfD hzero)⟩
     rw [ex,ek];simp [Instr.lookup,run_underlying l,MapKept.run_getObj_map y,run_checkKey (P:=P) (w:=w) d,Instr.findKey,run_underlying d,m,zdh (w:=w) s q]
  | some v0 =>
    obtain ⟨j,e,m,_,_,J,_⟩:=zeY (i:=0) hm G;cases ok
    ·refine ⟨e.val,c _ (fun _ => rfl) ?_,J⟩
     rw [ex,ek];simp [Instr.lookup,run_underlying l,MapKept.run_getObj_map y,run_checkKey (P:=P) (w:=w) d,Instr.findKey,run_underlying d,m]
    ·refine ⟨.tuple #[e.val,.bool true],c _ (fun _ => rfl) ?_,pair J⟩
     rw [ex,ek];simp [Instr.lookup,run_underlying l,MapKept.run_getObj_map y,run_checkKey (P:=P) (w:=w) d,Instr.findKey,run_underlying d,m]
 ·obtain ⟨ek,_⟩:=zM n
  obtain ⟨ex,_⟩:=zM B;injection h with h;subst h;cases ok
  ·refine ⟨z,c z (fun _ => rfl) ?_,zfD hzero⟩
   rw [ex,ek];simp [Instr.lookup,run_underlying l,run_checkKey (P:=P) (w:=w) d,Instr.findKey,run_underlying d,Instr.findNow,zdh (w:=w) s q]
  ·refine ⟨.tuple #[z,.bool false],c _ (fun _ => rfl) ?_,pair (zfD hzero)⟩
   rw [ex,ek];simp [Instr.lookup,run_underlying l,run_checkKey (P:=P) (w:=w) d,Instr.findKey,run_underlying d,Instr.findNow,zdh (w:=w) s q]
 ·cases h
theorem zB7 (S : Rel g w r.st) (L : Low r.base r.lim r.st) (F : Fr κ loc nt g w r a) {t key elem : TypeId} {x k y : Operand} (f : o.op = .mapUpdate t x k y ∨ o.op = .insert t x k y) (hd : okD κ nt o.dst d = true) (B : d = .no) (ht : P.underlying t = some (.map key elem)) (G : P.underlying key = some (.int .i64))
  {Z Y l : V} (U : zf g w r.st Z (a.eval x)) (M : zf g w r.st Y (a.eval k)) (hy : zf g w r.st l (a.eval y)) {r1 : R} (h : amu r l Z Y = some r1) (X : zpE κ (za5 o.dst d :: loc) nt g w r (r1.put d vun) (a.put o.dst) next) : o.wp P a w next Q:=by
 unfold amu at h;split at h
 ·rename_i id n
  obtain ⟨ek,_⟩:=zM M
  ·rw [yb] at h
   obtain ⟨es,h1,rfl⟩:=h;have m:=zzb h1;obtain ⟨_,_,zbn,clock,z,⟨es',s,p,hm⟩,D,q⟩:=S.ob id _ m;simp only [zf,zy] at U;have ex:=U.2;have C:=zzM (k:=n) (v:=l) p s;have c : Low r.base r.lim (r.setOb id (.mp (zlV n l es))).st:=L.set
   cases J : zhj n es' with
   | none =>
     have I:=ze4 (i:=0) hm J
     obtain ⟨H,K⟩:=map_set (clock':=clock + 1) (es':=zlV n l es) (ents':=zbn.push { key:=.int .i64 n,val:=a.eval y,born:=clock }) S m z fun H => by
      rw [Array.toList_push];refine ⟨⟨_,C,zq6 p,zvH hm J H rfl (H.zf _ _ hy)⟩,?_,?_⟩
      ·rw [yn]
       refine yh.2 ⟨D,by simp,fun a ha b W => ?_⟩;simp at W;subst W;obtain ⟨e,he,rfl⟩:=yg.1 ha;have:=q e he;omega
      ·intro e he
       rcases List.mem_append.1 he with he | he
       ·have:=q e he
        omega
       ·simp at he
        subst he;simp
     refine zsk (r1:=r.setOb id (.mp (zlV n l es))) F hd B H K c rfl rfl ?_ X;rcases f with f | f <;> (unfold execOp; simp only [f,ex,ek]; simp [Instr.mapUpdate,run_underlying ht,MapKept.run_getObj_map z,run_checkKey (P:=P) (w:=w) G,Instr.findKey,run_underlying G,I,MapKept.run_setObj_map _ z])
   | some v0 =>
     obtain ⟨j,e,I,hj,E,_,A⟩:=zeY (i:=0) hm J
     obtain ⟨H,K⟩:=map_set (clock':=clock) (es':=zlV n l es) (ents':=zbn.modify j fun e => { e with key:=.int .i64 n,val:=a.eval y }) S m z fun H => by
      rw [Array.toList_modify];refine ⟨⟨_,C,zq6 p,A H (H.zf _ _ hy)⟩,?_,?_⟩
      ·have e1 : ((zbn.toList.modify j fun e => { e with key:=.int .i64 n,val:=a.eval y }).map (·.born)) = zbn.toList.map (·.born):=by
        refine List.ext_getElem? fun i => ?_;rw [yi,yi,yf];cases zbn.toList[i]? <;> simp;split <;> rfl
       rw [e1];exact D
      ·intro e he
       obtain ⟨i,u⟩:=List.mem_iff_getElem?.1 he;rw [yf] at u
       cases O : zbn.toList[i]? with
       | none => rw [O] at u; simp at u
       | some e0 =>
         have:=q e0 (yd O);rw [O] at u;simp at u;rw [← u];split <;> exact this
     refine zsk (r1:=r.setOb id (.mp (zlV n l es))) F hd B H K c rfl rfl ?_ X;have N : zbn[j]? = some e:=(by simpa using hj);rcases f with f | f <;> (unfold execOp; simp only [f,ex,ek]; simp [Instr.mapUpdate,run_underlying ht,MapKept.run_getObj_map z,run_checkKey (P:=P) (w:=w) G,Instr.findKey,run_underlying G,I,N,E,Instr.keyThatStays,Instr.sameBits,MapKept.run_setObj_map _ z])
 ·cases h
def zmx (xs ys : Array Value) (i : Nat) : Bool:=match xs[i]?,ys[i]? with
 | some (.int _ a),some (.int _ b) => a == b
 | _,_ => false
def zsA (xs ys : Array Value) (i : Nat) : Prop:=∃ k a b,xs[i]? = some (.int k a) ∧ ys[i]? = some (.int k b)
def zle (P : Program) (t : TypeId) : Bool:=match P.underlying t with
 | some (.int _) => true
 | _ => false
theorem zjt {t : TypeId} (h : zle P t = true) : ∃ k,P.underlying t = some (.int k):=by
 unfold zle at h;split at h
 ·exact ⟨_,by assumption⟩
 ·cases h
theorem zhv {t : TypeId} (h : zle P t = true) {xs : Array Value} {i : Nat} {v : Value} (b : xs[i]? = some v) : (part t xs i).run P w = .ok v w:=by
 obtain ⟨k,c⟩:=zjt h;have a : zlD P t = some false:=by unfold zlD; rw [c]; rfl
 unfold part;simp only [Sem.run_bind,zjO (w:=w) a,Result.andThen_ok,Bool.false_eq_true,if_false,b];rfl
theorem zpo {e : TypeId} (he : zle P e = true) (d : Nat) (xs ys : Array Value) : ∀ (l : List Nat),(∀ i ∈ l,zsA xs ys i) → (Op.eqItems (d + 1) e 1 xs ys l).run P w = .ok (l.all (zmx xs ys)) w
 | [],_ => by simp [Op.eqItems]
 | i :: l,h => by
   obtain ⟨k,a,b,f,g⟩:=h i (by simp);obtain ⟨p,c⟩:=zjt he;have n:=zpo he d xs ys l fun j q => h j (yc _ q);simp only [Op.eqItems,Nat.mul_one,Sem.run_bind,zhv he f,zhv he g,Result.andThen_ok,run_equalIn_int w d e k p a b c,yj];have o : zmx xs ys i = (a == b):=(by unfold zmx; rw [f,g]);rw [o]
   cases m : (a == b) with
   | false => simp
   | true => simpa using n
theorem znS (d : Nat) (xs ys : Array Value) : ∀ (fs : List Field), (∀ f ∈ fs, f.name ≠ "_" ∧ zle P f.type = true ∧ zsA xs ys f.offset) → (Op.eqFields (d + 1) xs ys fs).run P w = .ok ((fs.map (·.offset)).all (zmx xs ys)) w
 | [],_ => by simp [Op.eqFields]
 | f :: fs,h => by
   obtain ⟨hn,he,k,a,b,h1,h2⟩:=h f (by simp)
   obtain ⟨k',hk'⟩:=zjt he
   have ih:=znS d xs ys fs fun j hj => h j (yc _ hj)
   simp only [Op.eqFields,if_pos hn,Sem.run_bind,zhv he h1,zhv he h2,Result.andThen_ok,run_equalIn_int w d f.type k k' a b hk',ye,yj]
   have hv : zmx xs ys f.offset = (a == b):=by unfold zmx; rw [h1,h2]
   rw [hv]
   cases hab : (a == b) with
   | false => simp
   | true => simpa using ih
def zvp (P : Program) (t : TypeId) : Option Nat:=match P.underlying t with
 | some (.array n e) => if zle P e && (P.cellsOf e == 1) && (P.info? e).isSome then some n else none
 | some (.struct fs) => if !P.stoodInHeld t && fs.toList.all (fun f => decide (f.name ≠ "_") && zle P f.type) && (fs.toList.map (·.offset) == yo fs.toList.length) && (P.fieldsOf t).toList.length == fs.toList.length then some fs.toList.length else none
 | _ => none
theorem zBc {t : TypeId} {n : Nat} (h : zvp P t = some n) {xs ys : Array Value} (o : ∀ i,i < n → zsA xs ys i) : (Op.equalIn 10000 t (.agg xs) (.agg ys)).run P w = .ok ((yo n).all (zmx xs ys)) w:=by
 unfold zvp at h;split at h
 ·rename_i s e hu
  split at h
  ·rename_i a
   injection h with h;subst h;simp only [ya,beq_iff_eq] at a;obtain ⟨⟨k,d⟩,c⟩:=a;obtain ⟨i,q⟩:=Option.isSome_iff_exists.1 c;rw [run_equalIn_array w 9999 xs ys hu q,d];exact zpo k 9998 xs ys _ fun j r => o j (by simpa using r)
  ·cases h
 ·rename_i l hu
  split at h
  ·rename_i a
   injection h with h;subst h;simp only [ya,Bool.not_eq_true',beq_iff_eq] at a;obtain ⟨⟨⟨k,d⟩,c⟩,u⟩:=a;have m : P.fieldsOf t = l:=(by simp [Program.fieldsOf,hu]);rw [run_equalIn_struct w 9999 t xs ys (by rw [m]; exact hu) k,m];rw [znS 9998 xs ys l.toList fun f b => ?_,c];have g:=List.all_eq_true.1 d f b;simp only [ya,decide_eq_true_eq] at g;have p : f.offset ∈ l.toList.map (·.offset):=yg.2 ⟨f,b,rfl⟩;rw [c] at p;exact ⟨g.1,g.2,o _ (by simpa using p)⟩
  ·cases h
 ·cases h
theorem znz {σ : zd} : ∀ {cs ds : List C} {us vs : List Value} {b : Bool},zkh cs ds = some b → zv g w σ cs us → zv g w σ ds vs → us.length = cs.length ∧ vs.length = cs.length ∧ (∀ i,i < cs.length → zsA us.toArray vs.toArray i) ∧ b = (yo cs.length).all (zmx us.toArray vs.toArray)
 | [],[],us,vs,b,h,hu,hv => by
   have e1 : us = []:=(by simpa only [zv] using hu);have e2 : vs = []:=(by simpa only [zv] using hv);subst e1 e2;simp only [zkh,Option.some.injEq] at h;subst h;exact ⟨rfl,rfl,fun i p => by simp at p,by simp⟩
 | c :: cs,d :: ds,us,vs,b,h,hu,hv => by
   unfold zkh at h;split at h
   ·rename_i heq _; cases heq
   ·rename_i k a xs H o ys l n
    injection l with e1 e2;injection n with e3 e4;subst e1 e2 e3 e4;split at h
    ·rename_i t
     subst t;rw [yb] at h;obtain ⟨b1,z,s⟩:=h;simp only [zv] at hu hv;obtain ⟨u,us',rfl,m,r⟩:=hu;obtain ⟨v,e,rfl,j,q⟩:=hv;obtain ⟨B,y,E,D⟩:=znz z r q;simp only [zy,rep] at m j;obtain ⟨rfl,_⟩:=m;obtain ⟨rfl,_⟩:=j;have f : ∀ i,zmx (Value.int k a :: us').toArray (Value.int k o :: e).toArray (i + 1) = zmx us'.toArray e.toArray i:=fun i => by simp [zmx]
     refine ⟨by simp [B],by simp [y],fun i p => ?_,?_⟩
     ·cases i with
      | zero => exact ⟨k,a,o,by simp,by simp⟩
      | succ i =>
        obtain ⟨A,a2,b2,r1,G⟩:=E i (by simpa using p);exact ⟨A,a2,b2,by simpa using r1,by simpa using G⟩
     ·rw [← s,D,List.length_cons,List.range_succ_eq_map,yj,List.all_map]
      have x : zmx (Value.int k a :: us').toArray (Value.int k o :: e).toArray 0 = decide (a = o):=(by simp [zmx]; rfl);rw [x]
      congr 2
      funext i
      exact (f i).symm
    ·cases h
   ·cases h
 | [],d :: ds,us,vs,b,h,_,_ => by simp [zkh] at h
 | c :: cs,[],us,vs,b,h,_,_ => by
   unfold zkh at h;split at h <;> simp_all
theorem zy3 {op : BinOp} {t H : TypeId} {x y : Operand} {neg : Bool} {n : Nat} (q : o.op = .binOp op t x y H) (l : (op = .eql ∧ neg = false) ∨ (op = .neq ∧ neg = true)) (C : zvp P t = some n) (D : P.eqGuardType P.depth t = false)
  {p A v : V} (m : zf g w r.st p (a.eval x)) (B : zf g w r.st A (a.eval y)) (h : zFs n neg p A = some v) :
  ∃ u,(execOp a.eval o).run P w = .ok (.value u) w ∧ zf g w r.st v u:=by
 unfold zFs at h;split at h
 ·rename_i cs ds
  split at h
  ·rename_i I
   rw [yb] at h;obtain ⟨b,G,E⟩:=h;subst E;simp only [zf] at m B;obtain ⟨us,f,k⟩:=m;obtain ⟨vs,i,j⟩:=B;obtain ⟨K,J,z,s⟩:=znz G k j;rw [I] at z s;have d:=zBc (w:=w) C (xs:=us) (ys:=vs) (by simpa using z);have c:=run_eqGuard_agg (P:=P) w op t x y us vs D;have e : b = (yo n).all (zmx us vs):=(by simpa using s);rcases l with ⟨rfl,rfl⟩ | ⟨rfl,rfl⟩
   ·refine ⟨.bool b,?_,zT (v:=.bool b) rfl⟩
    unfold execOp;simp only [q,f,i];simp [c,run_eql_struct,d,e]
   ·refine ⟨.bool (!b),?_,zT (v:=.bool (!b)) rfl⟩
    unfold execOp;simp only [q,f,i];simp [c,run_neq_struct,d,e]
  ·cases h
 ·cases h
theorem zAk {op : BinOp} {t j : TypeId} {x y : Operand} {neg : Bool} (e : o.op = .binOp op t x y j) (b : (op = .eql ∧ neg = false) ∨ (op = .neq ∧ neg = true)) (k : P.underlying t = some .bool)
  {d f v : V} (i : zf g w r.st d (a.eval x)) (l : zf g w r.st f (a.eval y)) (h : zFu neg d f = some v) :
  ∃ u,(execOp a.eval o).run P w = .ok (.value u) w ∧ zf g w r.st v u:=by
 unfold zFu at h;split at h
 ·rename_i p q
  obtain ⟨ex,_⟩:=zM i;obtain ⟨ey,_⟩:=zM l;injection h with h;subst h;have c:=run_equal_bool (P:=P) w t p q k;rcases b with ⟨rfl,rfl⟩ | ⟨rfl,rfl⟩
  ·refine ⟨.bool (p == q),?_,zT (v:=.bool (p == q)) rfl⟩
   unfold execOp;simp only [e,ex,ey];simp [eqGuard,binOp,c]
  ·refine ⟨.bool (!(p == q)),?_,zT (v:=.bool (!(p == q))) rfl⟩
   unfold execOp;simp only [e,ex,ey];simp [eqGuard,binOp,c]
 ·cases h
end
def Ow.cut (n : Nat) : Ow → Ow
 | .no => .no
 | .ob id => if id < n then .ob id else .no
 | .tk t k => if t < n then .tk t k else .no
theorem Ow.cut_cut {n m : Nat} (h : n ≤ m) (o : Ow) (a : o.cut n = o) : o.cut m = o:=by
 cases o with
 | no => rfl
 | ob id =>
   simp only [Ow.cut] at a ⊢;split at a
   ·rw [if_pos (by omega)]
   ·cases a
 | tk t k =>
   simp only [Ow.cut] at a ⊢;split at a
   ·rw [if_pos (by omega)]
   ·cases a
theorem Ow.cut_idem (n : Nat) (o : Ow) : (o.cut n).cut n = o.cut n:=by
 cases o with
 | no => rfl
 | ob id => by_cases h : id < n <;> simp [Ow.cut,h]
 | tk t k => by_cases h : t < n <;> simp [Ow.cut,h]
def G.drop (g : G) (n : Nat) (w : World) : G :=
 { g with
   ow:=fun b => (g.ow b).cut n
   N:=fun b o => g.N b o ∨ (b < w.heap.size ∧ ∃ id,n ≤ id ∧ g.ow b = .ob id) }
def Clean (g : G) (n : Nat) : Prop:=∀ b,(g.ow b).cut n = g.ow b
section
variable {g : G} {w : World} {σ : zd} {n : Nat}
theorem ziS {α : Type} {l : List α} {i n : Nat} (h : i < n) : (l.take n)[i]? = l[i]?:=by rw [List.getElem?_take,if_pos h]
theorem zns {id : Nat} (h : id < n) : shapeOf (σ.take n) id = shapeOf σ id:=by unfold shapeOf; rw [ziS h]
theorem zyT {t k : Nat} (h : t < n) : zmP (σ.take n) t k = zmP σ t k:=by unfold zmP; rw [ziS h]
theorem zv5 {t : Nat} (h : t < n) : zog (σ.take n) t = zog σ t:=by unfold zog; rw [ziS h]
theorem zgN : zhd w w g.N (g.drop n w).N:=fun _ _ h => ⟨.inl h,rfl⟩
mutual
theorem zpu : ∀ (c : C) (u : Value),zy g w σ c u → c.lt n = true → zy (g.drop n w) w (σ.take n) c u
 | .f x,u,h,_ => by
   simp only [zy] at h ⊢;exact zcM zgN x u h
 | .ap t k xs,u,h,hl => by
   have d : t < n:=(by simpa [C.lt] using hl);simp only [zy] at h ⊢;obtain ⟨e,m,j,l,q,sz,p,r⟩:=h;exact ⟨zcM zgN _ u e,m,by rw [zyT d]; exact j,l,q,sz,by rw [zv5 d]; exact p,r⟩
 | .ptr id ver i off,u,h,hl => by
   have d : id < n:=(by simpa [C.lt] using hl);simp only [zy] at h ⊢;rw [zns d];exact h
 | .fp cs off,u,h,_ => by
   simp only [zy] at h ⊢;obtain ⟨b,o,e,j⟩:=h;exact ⟨b,o,e,zff zgN cs b o j⟩
 | .own id ver lo m,u,h,hl => by
   have d : id < n:=(by simpa [C.lt] using hl);simp only [zy] at h ⊢;rw [zns d];exact h
 | .map id,u,h,hl => by
   have d : id < n:=(by simpa [C.lt] using hl);simp only [zy] at h ⊢;rw [ziS d];exact h
 | .fn f a b,u,h,hl => by
   simp only [C.lt,ya] at hl;simp only [zy] at h ⊢;obtain ⟨s,cs,e,j,l⟩:=h;exact ⟨s,cs,e,zkv a _ j hl.1,zkv b _ l hl.2⟩
 | .un,_,_,_ => by simp only [zy]
theorem zkv : ∀ (cs : List C) (us : List Value),zv g w σ cs us → C.lts n cs = true → zv (g.drop n w) w (σ.take n) cs us
 | [],us,h,_ => by simpa only [zv] using h
 | c :: cs,us,h,hl => by
   simp only [C.lts,ya] at hl;simp only [zv] at h ⊢;obtain ⟨v,vs,a,d,b⟩:=h;exact ⟨v,vs,a,zpu c v d hl.1,zkv cs vs b hl.2⟩
end
mutual
theorem zjW : ∀ (c : V) (u : Value),zf g w σ c u → c.lt n = true → zf (g.drop n w) w (σ.take n) c u
 | .one c,u,h,hl => by
   simp only [V.lt] at hl;simp only [zf] at h ⊢;exact zpu c u h hl
 | .agg cs,u,h,hl => by
   simp only [V.lt] at hl;simp only [zf] at h ⊢;obtain ⟨us,a,b⟩:=h;exact ⟨us,a,zkv cs _ b hl⟩
 | .tup vs,u,h,hl => by
   simp only [V.lt] at hl;simp only [zf] at h ⊢;obtain ⟨us,a,b⟩:=h;exact ⟨us,a,zqC vs _ b hl⟩
theorem zqC : ∀ (vs : List V) (us : List Value),zz g w σ vs us → V.lts n vs = true → zz (g.drop n w) w (σ.take n) vs us
 | [],us,h,_ => by simpa only [zz] using h
 | c :: cs,us,h,hl => by
   simp only [V.lts,ya] at hl;simp only [zz] at h ⊢;obtain ⟨v,vs,a,d,b⟩:=h;exact ⟨v,vs,a,zjW c v d hl.1,zqC cs vs b hl.2⟩
end
theorem zEw {os : List Ob} (h : Obs.lt n os = true) : ∀ {i : Nat} {o : Ob},os[i]? = some o → o.lt n = true:=by
 induction os with
 | nil => intro i o h; simp at h
 | cons x xs ih =>
   simp only [Obs.lt,ya] at h;intro i o a
   cases i with
   | zero => simp at a; subst a; exact h.1
   | succ i => exact ih h.2 (by simpa using a)
theorem ztD : ∀ {es : List (Int × V)} {zbn : List MapEntry},zqc g w σ es zbn → C.ltm n es = true → zqc (g.drop n w) w (σ.take n) es zbn
 | [],_,h,_ => h
 | x :: xs,_,h,hl => by
   simp only [C.ltm,ya] at hl;obtain ⟨e,rest,a,d,b,c⟩:=h;exact ⟨e,rest,a,d,zjW _ _ b hl.1,ztD c hl.2⟩
theorem zuO : ∀ {es : List (Int × V)},C.ltm n es = true ↔ ∀ e ∈ es,e.2.lt n = true
 | [] => by simp [C.ltm]
 | e :: es => by simp [C.ltm,zuO (es:=es)]
theorem zxv {es : List (Int × V)} {zbn : List MapEntry} {clock : Nat} (h : zlB g w σ es zbn clock) (b : C.ltm n es = true) : zlB (g.drop n w) w (σ.take n) es zbn clock:=by
 have:=zos (g':=g.drop n w) (w':=w) (σ':=σ.take n) h id (fun _ => rfl) (fun es' a h => by
  rw [yk]
  exact ztD h (zuO.2 fun e he => zuO.1 b e (a.mem_iff.1 he)))
 rwa [yk] at this
theorem zvF (R : Rel g w σ) (D : Obs.lt n (σ.take n) = true) : Rel (g.drop n w) w (σ.take n):=by
 refine ⟨fun b o h => h.elim (R.nb b o) fun h => h.1,fun id o A => ?_⟩
 have f : id < n:=by
  have:=zb A;rw [yl] at this;omega
 have l:=zEw D A;rw [ziS f] at A;have q:=R.ob id o A;have y : ∀ b i,g.ow b = .ob i → i < n → (g.drop n w).ow b = .ob i:=fun b i h r => by simp [G.drop,Ow.cut,h,r]
 have a : ∀ b i,g.ow b = .ob i → i < n → (∀ o,¬ g.N b o) → ∀ o,¬ (g.drop n w).N b o:=fun b i h r H o a => by
  rcases a with a | ⟨_,j,O,a⟩
  ·exact H o a
  ·rw [h] at a; injection a with a; omega
 cases o with
 | cells ver sz es =>
   intro B;obtain ⟨p,v,arr,t,x,s,z⟩:=q B;refine ⟨y _ _ p f,a _ _ p f v,arr,t,x,s,fun i e r => ⟨(z i e r).1,fun j c C => ?_⟩⟩;obtain ⟨u,I,K,L⟩:=(z i e r).2 j c C;simp only [Ob.lt] at l;exact ⟨u,I,zpu c u K (zAq.1 (zvM.1 l e (yd r)) c (yd C)),L⟩
 | mp es =>
   obtain ⟨p,v,zbn,clock,x,s⟩:=q;exact ⟨y _ _ p f,a _ _ p f v,zbn,clock,x,zxv s (by simpa [Ob.lt] using l)⟩
 | tok sz fr =>
   intro k m hm;rcases q k m hm with h | ⟨b,o,c,arr,t,p,v,x,s,z,M,E⟩
   ·exact .inl h
   ·refine .inr ⟨b,o,c,arr,t,p,v,x,by simp [G.drop,Ow.cut,s,f],z,M,fun J d => ?_⟩
    rcases d with d | ⟨_,j,_,d⟩
    ·exact E J d
    ·rw [s] at d; cases d
theorem zvJ {g0 : G} {w0 : World} {σ0 : zd} (H : Ext g0 w0 σ0 g w σ) (i : Clean g0 σ0.length) (j : σ0.length ≤ n) : Ext g0 w0 σ0 (g.drop n w) w (σ.take n) where
 os:=H.os
 tape:=H.tape
 output:=H.output
 size:=H.size
 keeps:=H.keeps.trans zgN
 len:=by have:=H.len; rw [yl]; omega
 shape:=fun id e sz len h => by
  have a : id < n:=by obtain ⟨es,c,_⟩:=zaM h; have:=zb c; omega
  rw [zns a];exact H.shape id e sz len h
 map:=fun id es h => by
  have a : id < n:=by have:=zb h; omega
  rw [ziS a];exact H.map id es h
 tok:=fun t k m h => by
  have a : t < n:=by obtain ⟨_,_,c,_⟩:=zcR h; have:=zb c; omega
  rw [zyT a];exact H.tok t k m h
 tsz:=fun t sz h => by
  have a : t < n:=by obtain ⟨_,c⟩:=zeD h; have:=zb c; omega
  rw [zv5 a];exact H.tsz t sz h
 ow:=fun b d => by
  show (g.ow b).cut n = _
  rw [H.ow b d];exact Ow.cut_cut j _ (i b)
 new:=fun b o h d f => by
  rcases h with h | ⟨_,id,_,h⟩
  ·exact H.new b o h d f
  ·rw [H.ow b d,f] at h; cases h
 frame:=H.frame
def G.clean (g : G) (n : Nat) : G :=
 { g with ow:=fun b => (g.ow b).cut n }
theorem zfW (g : G) (n : Nat) : Clean (g.clean n) n:=fun b => Ow.cut_idem n _
mutual
theorem zpm {g' : G} (d : g'.ρ = g.ρ) (j : g'.tv = g.tv) (e : g'.N = g.N) : ∀ (c : C) (u : Value),zy g w σ c u → zy g' w σ c u
 | .f x,u,h => by simp only [zy] at h ⊢; rw [e]; exact h
 | .ap t k xs,u,h => by simp only [zy] at h ⊢; rw [e,j]; exact h
 | .ptr id ver i off,u,h => by simp only [zy] at h ⊢; rw [d]; exact h
 | .fp cs off,u,h => by simp only [zy] at h ⊢; rw [e]; exact h
 | .own id ver lo m,u,h => by simp only [zy] at h ⊢; rw [d]; exact h
 | .map id,u,h => by simp only [zy] at h ⊢; rw [d]; exact h
 | .fn f a b,u,h => by
   simp only [zy] at h ⊢;obtain ⟨o,cs,p,n,l⟩:=h;exact ⟨o,cs,p,zkr d j e a _ n,zkr d j e b _ l⟩
 | .un,_,_ => by simp only [zy]
theorem zkr {g' : G} (a : g'.ρ = g.ρ) (d : g'.tv = g.tv) (b : g'.N = g.N) : ∀ (cs : List C) (us : List Value),zv g w σ cs us → zv g' w σ cs us
 | [],us,h => by simpa only [zv] using h
 | c :: cs,us,h => by
   simp only [zv] at h ⊢;obtain ⟨v,vs,i,f,e⟩:=h;exact ⟨v,vs,i,zpm a d b c v f,zkr a d b cs vs e⟩
end
mutual
theorem zgW {g' : G} (a : g'.ρ = g.ρ) (e : g'.tv = g.tv) (b : g'.N = g.N) : ∀ (c : V) (u : Value),zf g w σ c u → zf g' w σ c u
 | .one c,u,h => by simp only [zf] at h ⊢; exact zpm a e b c u h
 | .agg cs,u,h => by
   simp only [zf] at h ⊢;obtain ⟨us,f,d⟩:=h;exact ⟨us,f,zkr a e b cs _ d⟩
 | .tup vs,u,h => by
   simp only [zf] at h ⊢;obtain ⟨us,f,d⟩:=h;exact ⟨us,f,zrf a e b vs _ d⟩
theorem zrf {g' : G} (a : g'.ρ = g.ρ) (d : g'.tv = g.tv) (b : g'.N = g.N) : ∀ (vs : List V) (us : List Value),zz g w σ vs us → zz g' w σ vs us
 | [],us,h => by simpa only [zz] using h
 | c :: cs,us,h => by
   simp only [zz] at h ⊢;obtain ⟨v,vs,i,f,e⟩:=h;exact ⟨v,vs,i,zgW a d b c v f,zrf a d b cs vs e⟩
end
theorem ztG {g' : G} (a : g'.ρ = g.ρ) (c : g'.tv = g.tv) (b : g'.N = g.N) : ∀ {es : List (Int × V)} {zbn : List MapEntry},zqc g w σ es zbn → zqc g' w σ es zbn
 | [],_,h => h
 | x :: xs,_,h => by
   obtain ⟨e,rest,j,f,d,i⟩:=h;exact ⟨e,rest,j,f,zgW a c b _ _ d,ztG a c b i⟩
theorem zxd {g' : G} (a : g'.ρ = g.ρ) (c : g'.tv = g.tv) (b : g'.N = g.N) {es : List (Int × V)} {zbn : List MapEntry} {clock : Nat} (h : zlB g w σ es zbn clock) : zlB g' w σ es zbn clock:=by
 have:=zos (g':=g') (w':=w) (σ':=σ) h id (fun _ => rfl) (fun es' d h => by
  rw [yk]
  exact ztG a c b h)
 rwa [yk] at this
theorem zz6 {g' : G} (R : Rel g w σ) (s : g'.ρ = g.ρ) (x : g'.tv = g.tv) (f : g'.N = g.N) (q : ∀ b id,id < σ.length → g.ow b = .ob id → g'.ow b = .ob id) (y : ∀ b t k,t < σ.length → g.ow b = .tk t k → g'.ow b = .tk t k) : Rel g' w σ:=by
 refine ⟨by rw [f]; exact R.nb,fun id o B => ?_⟩;have a:=zb B;have d:=R.ob id o B
 cases o with
 | cells ver sz es =>
   intro z;obtain ⟨n,p,arr,t,r,l,v⟩:=d z;rw [s,f];refine ⟨q _ _ a n,p,arr,t,r,l,fun i e A => ⟨(v i e A).1,fun j c D => ?_⟩⟩;obtain ⟨u,m1,m2,C⟩:=(v i e A).2 j c D;exact ⟨u,m1,zpm s x f c u m2,C⟩
 | mp es =>
   obtain ⟨n,p,zbn,clock,r,l⟩:=d;unfold zAO;rw [s,f];exact ⟨q _ _ a n,p,zbn,clock,r,zxd s x f l⟩
 | tok sz fr =>
   intro k m hm;rw [x,f];rcases d k m hm with h | ⟨b,o,c,arr,t,n,p,r,l,v⟩
   ·exact .inl h
   ·exact .inr ⟨b,o,c,arr,t,n,p,r,y _ _ _ a l,v⟩
theorem zyW (R : Rel g w σ) : Rel (g.clean σ.length) w σ :=
 zz6 R rfl rfl rfl (fun b id a h => by simp [G.clean,Ow.cut,h,a]) (fun b t k c h => by simp [G.clean,Ow.cut,h,c])
def G.under (g0 : G) (w0 : World) (g : G) : G:={ g with ow:=fun b => if b < w0.heap.size then g0.ow b else g.ow b }
theorem zpN {w' : World} {σ' : zd} {g' : G} (H : Ext (g.clean σ.length) w σ g' w' σ') : Ext g w σ (g.under w g') w' σ' where
 os:=H.os
 tape:=H.tape
 output:=H.output
 size:=H.size
 keeps:=H.keeps
 len:=H.len
 shape:=H.shape
 map:=H.map
 tok:=H.tok
 tsz:=H.tsz
 ow:=fun b a => by
  show (if b < w.heap.size then g.ow b else g'.ow b) = _
  rw [if_pos a]
 new:=fun b o h a c => H.new b o h a (by simp [G.clean,Ow.cut,c])
 frame:=fun b a c => H.frame b a (by simp [G.clean,Ow.cut,c])
theorem zo8 {w' : World} {σ' : zd} {g' : G} (H : Ext (g.clean σ.length) w σ g' w' σ') (R : Rel g' w' σ') : Rel (g.under w g') w' σ':=by
 have key : ∀ b,b < w.heap.size → g'.ow b ≠ .no → g.ow b = g'.ow b:=fun b e a => by
  have:=H.ow b e;change g'.ow b = (g.ow b).cut σ.length at this;rw [this] at a ⊢
  cases h : g.ow b with
  | no => rfl
  | ob id =>
    rw [h] at a;simp only [Ow.cut] at a ⊢;split
    ·rfl
    ·rename_i c; rw [if_neg c] at a; exact absurd rfl a
  | tk t k =>
    rw [h] at a;simp only [Ow.cut] at a ⊢;split
    ·rfl
    ·rename_i c; rw [if_neg c] at a; exact absurd rfl a
 refine zz6 (g':=g.under w g') R rfl rfl rfl (fun b id d h => ?_) (fun b t k f h => ?_)
 ·show (if b < w.heap.size then g.ow b else g'.ow b) = _
  split
  ·rw [key b (by assumption) (by rw [h]; simp),h]
  ·exact h
 ·show (if b < w.heap.size then g.ow b else g'.ow b) = _
  split
  ·rw [key b (by assumption) (by rw [h]; simp),h]
  ·exact h
end
end Go.A
