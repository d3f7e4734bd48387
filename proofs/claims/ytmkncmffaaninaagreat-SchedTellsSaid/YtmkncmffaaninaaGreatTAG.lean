/- A part of the proof of SchedTells. Conditions: none. -/
import Derived.Test.YtmkncmffaaninaaGreatTAF
import Derived.Laws.StructEq
import Derived.ChangeKeysEq
set_option linter.all false
open Bool renaming and_eq_true → ya
open Option renaming map_eq_some_iff → yb
open List renaming mem_cons_of_mem → yc,mem_of_getElem? → yd,map_cons → ye,getElem?_modify → yf,mem_map → yg,nodup_append → yh,getElem?_map → yi,all_cons → yj,map_id → yk,length_take → yl,nodup_cons → ym,map_append → yn,range → yo,mem_cons → yp
namespace Go.A
section
variable {P : Program} {κ : List Tmp} {loc : List (Option Tmp)} {nt : Nat} {g : G} {w : World} {r r' : R} {a : Act} {o : Go.Oper} {d : D} {next : Act → World → Prop} {Q : Exit → Act → World → Prop}
theorem run_checkKey {b : Bool} {t : TypeId} {k : IntKind} {v : Value} (h : P.underlying t = some (.int k)) : (Instr.checkKey b 10000 t v).run P w = .ok () w:=by
 show (Instr.checkKey b (9999 + 1) t v).run P w = _
 unfold Instr.checkKey;rw [Sem.run_bind,run_underlying h];cases v <;> rfl
theorem zfB {σ : zd} {k : Int} : ∀ {es : List (Int × V)} {zbC : List MapEntry} {i : Nat},zrw g w σ es zbC → zh6 k es = none → Instr.findNow (.int .i64) (.int .i64 k) zbC i = some none
 | [],zbC,i,hm,_ => by
   have : zbC = []:=hm;subst this;rfl
 | x :: es,zbC,i,hm,h => by
   obtain ⟨e,rest,rfl,d,_,c⟩:=hm;simp only [zh6] at h;split at h
   ·cases h
   ·rename_i b
    unfold Instr.findNow;have a : ¬ (k = x.1):=fun e => b e.symm;simp only [d,Instr.sameNow,if_pos];have : (k == x.1) = false:=(by simpa using a);rw [this];exact zfB c h
theorem zfy {σ : zd} {k : Int} : ∀ {es : List (Int × V)} {zbC : List MapEntry} {i : Nat} {v : V},zrw g w σ es zbC → zh6 k es = some v →
  ∃ j e,Instr.findNow (.int .i64) (.int .i64 k) zbC i = some (some (i + j,e.val)) ∧ zbC[j]? = some e ∧ e.key = .int .i64 k ∧ zf g w σ v e.val ∧
    ∀ {g' : G} {w' : World} {σ' : zd} {v' : V} {f : Value},Ext g w σ g' w' σ' → zf g' w' σ' v' f → zrw g' w' σ' (zmP k v' es) (zbC.modify j fun e => { e with key:=.int .i64 k,val:=f })
 | [],_,_,_,_,h => by simp [zh6] at h
 | x :: es,zbC,i,v,hm,h => by
   obtain ⟨e,rest,rfl,b,m,l⟩:=hm;simp only [zh6] at h;split at h
   ·rename_i d
    injection h with h;subst h;refine ⟨0,e,?_,by simp,by rw [b,d],m,fun H c => ?_⟩
    ·unfold Instr.findNow
     simp [b,Instr.sameNow,d]
    ·simp only [zmP,if_pos d,List.modify_zero_cons]
     exact ⟨_,_,rfl,rfl,c,H.zrw l⟩
   ·rename_i a
    obtain ⟨j,r,q,n,s,o,p⟩:=zfy (i:=i + 1) l h;refine ⟨j + 1,r,?_,by simpa using n,s,o,fun H c => ?_⟩
    ·unfold Instr.findNow
     have : (k == x.1) = false:=by simpa using fun e : k = x.1 => a e.symm
     simp only [b,Instr.sameNow,if_pos,this];rw [q,show i + 1 + j = i + (j + 1) from by omega]
    ·simp only [zmP,if_neg a,List.modify_succ_cons]
     exact ⟨_,_,rfl,b,H.zf _ _ m,p H c⟩
theorem zxf {σ : zd} {k : Int} : ∀ {es : List (Int × V)} {zbC : List MapEntry},zrw g w σ es zbC → zh6 k es = none → ∀ {g' : G} {w' : World} {σ' : zd} {v' : V} {a : MapEntry},Ext g w σ g' w' σ' → a.key = .int .i64 k → zf g' w' σ' v' a.val → zrw g' w' σ' (zmP k v' es) (zbC ++ [a])
 | [],zbC,hm,_,_,_,_,_,a,H,hk,hv => by
   have : zbC = []:=hm;subst this;exact ⟨a,[],rfl,hk,hv,rfl⟩
 | x :: es,zbC,hm,h,_,_,_,_,a,H,hk,hv => by
   obtain ⟨e,rest,rfl,f,c,d⟩:=hm;simp only [zh6] at h;split at h
   ·cases h
   ·rename_i b
    simp only [zmP,if_neg b];exact ⟨e,rest ++ [a],rfl,f,H.zf _ _ c,zxf d h H hk hv⟩
theorem zkn {k : Int} : ∀ {es : List (Int × V)},zh6 k es = none ↔ ∀ e ∈ es,e.1 ≠ k
 | [] => by simp [zh6]
 | e :: es => by
   simp only [zh6];split
   ·rename_i h
    simp [h]
   ·rename_i h
    rw [zkn (es:=es)];simp [h]
theorem zqi {k : Int} {v : V} : ∀ {es : List (Int × V)},(es.map (·.1)).Nodup → (zh6 k es = some v ↔ (k,v) ∈ es)
 | [],_ => by simp [zh6]
 | e :: es,hn => by
   simp only [ye,ym] at hn;simp only [zh6];split
   ·rename_i h
    subst h;constructor
    ·intro h; injection h with h; subst h; simp
    ·intro h
     rcases yp.1 h with h | h
     ·rw [← h]
     ·exact absurd (yg.2 ⟨_,h,rfl⟩) hn.1
   ·rename_i h
    rw [zqi hn.2];constructor
    ·exact fun h => yc _ h
    ·intro a
     rcases yp.1 a with a | a
     ·exact absurd (by rw [← a]) h
     ·exact a
theorem zrc {k : Int} {es es' : List (Int × V)} (b : (es'.map (·.1)).Nodup) (h : es'.Perm es) : zh6 k es' = zh6 k es:=by
 have a : (es.map (·.1)).Nodup:=(h.map _).nodup_iff.1 b
 cases c : zh6 k es' with
 | none =>
   refine (zkn.2 fun e he => zkn.1 c e (h.mem_iff.2 he)).symm
 | some v => exact ((zqi a).2 (h.mem_iff.1 ((zqi b).1 c))).symm
theorem zje {k : Int} {v : V} : ∀ {es : List (Int × V)},zh6 k es = none → zmP k v es = es ++ [(k,v)]
 | [],_ => rfl
 | e :: es,h => by
   simp only [zh6] at h;split at h
   ·cases h
   ·rename_i a
    simp only [zmP,if_neg a,zje h,List.cons_append]
theorem zu1 {k : Int} {v v0 : V} : ∀ {es : List (Int × V)},zh6 k es = some v0 → (zmP k v es).map (·.1) = es.map (·.1)
 | [],h => by simp [zh6] at h
 | e :: es,h => by
   simp only [zh6] at h;split at h
   ·rename_i b
    simp [zmP,b]
   ·rename_i a
    simp only [zmP,if_neg a,ye,zu1 h]
theorem zqt {k : Int} {v v0 : V} : ∀ {es : List (Int × V)},(es.map (·.1)).Nodup → zh6 k es = some v0 → ((k,v0) :: zmP k v es).Perm ((k,v) :: es)
 | [],_,h => by simp [zh6] at h
 | e :: es,hn,h => by
   simp only [ye,ym] at hn;simp only [zh6] at h;split at h
   ·rename_i b
    injection h with h;simp only [zmP,if_pos b];have : e = (k,v0):=(by rw [← b,← h]);rw [this];exact List.Perm.swap _ _ _
   ·rename_i a
    simp only [zmP,if_neg a];exact (List.Perm.swap _ _ _).trans (((zqt hn.2 h).cons e).trans (List.Perm.swap _ _ _))
theorem zBl {k : Int} {v : V} {es es' : List (Int × V)} (a : (es'.map (·.1)).Nodup) (h : es'.Perm es) : (zmP k v es').Perm (zmP k v es):=by
 have c : (es.map (·.1)).Nodup:=(h.map _).nodup_iff.1 a
 cases b : zh6 k es' with
 | none =>
   rw [zje b,zje (by rw [← zrc a h]; exact b)];exact h.append_right _
 | some v0 =>
   have e:=zqt (v:=v) a b;have d:=zqt (v:=v) c (by rw [← zrc a h]; exact b);exact (List.perm_cons _).1 (e.trans ((h.cons _).trans d.symm))
theorem zsx {k : Int} {v : V} {es : List (Int × V)} (d : (es.map (·.1)).Nodup) : ((zmP k v es).map (·.1)).Nodup:=by
 cases c : zh6 k es with
 | none =>
   rw [zje c,yn];refine yh.2 ⟨d,by simp,fun a g b f => ?_⟩;simp at f;subst f;obtain ⟨e,he,rfl⟩:=yg.1 g;exact zkn.1 c e he
 | some v0 => rw [zu1 c]; exact d
theorem zzt {σ : zd} {id : Nat} {es : List (Int × V)} (h : (σ[id]?).bind Ob.entries = some es) : σ[id]? = some (.mp es):=by
 rw [Option.bind_eq_some_iff] at h;obtain ⟨c,b,a⟩:=h;unfold Ob.entries at a;split at a
 ·injection a with a; subst a; exact b
 ·cases a
theorem zDK (L : Rel g w r.st) {t key elem : TypeId} {x k : Operand} {ok : Bool} {z : Value} {i : TypeInfo} {zero : V} (K : o.op = .lookup t x k ok) (l : P.underlying t = some (.map key elem)) (d : P.underlying key = some (.int .i64)) (q : P.info? elem = some i) (p : i.zero = some z) (hzero : zq6 z zero = true)
  {J I v : V} (C : zf g w r.st J (a.eval x)) (n : zf g w r.st I (a.eval k)) (h : alk r.st zero ok J I = some v) :
  ∃ u,(execOp a.eval o).run P w = .ok (.value u) w ∧ zf g w r.st v u:=by
 have c : ∀ u,(∀ b,Instr.checkKey b 10000 key (a.eval k) = Instr.checkKey b 10000 key (a.eval k)) → (Instr.lookup t (a.eval x) (a.eval k) ok).run P w = .ok u w → (execOp a.eval o).run P w = .ok (.value u) w:=fun u _ M => by
  unfold execOp;simp only [K,Sem.run_bind,M,Result.andThen_ok,Sem.run_pure]
 have D : zf g w r.st (zkh true) (.bool true):=zY rfl;have y : zf g w r.st (zkh false) (.bool false):=zY rfl
 have pair : ∀ {v1 : V} {u1 : Value} {b : Bool},zf g w r.st v1 u1 → zf g w r.st (.tup [v1,zkh b]) (.tuple #[u1,.bool b]):=fun {v1 u1 b} B => by
  simp only [zf];exact ⟨_,rfl,by simp only [zA]; exact ⟨_,_,rfl,B,_,_,rfl,zY rfl,rfl⟩⟩
 unfold alk at h;split at h
 ·rename_i id N
  obtain ⟨ek,_⟩:=zQ n;rw [yb] at h;obtain ⟨es,B,rfl⟩:=h;have A:=zzt B;obtain ⟨_,_,zbC,clock,s,⟨es',f,E,hm⟩,_,_⟩:=L.ob id _ A;simp only [zf,zz] at C;have ex:=C.2;rw [← zrc E f]
  cases G : zh6 N es' with
  | none =>
    have m:=zfB (i:=0) hm G;cases ok
    ·refine ⟨z,c z (fun _ => rfl) ?_,zge hzero⟩
     rw [ex,ek];simp [Instr.lookup,run_underlying l,MapKept.run_getObj_map s,run_checkKey (P:=P) (w:=w) d,Instr.findKey,run_underlying d,m,zdF (w:=w) q p]
    ·refine ⟨.tuple #[z,.bool false],c _ (fun _ => rfl) ?_,pair (zge hzero)⟩
     rw [ex,ek];simp [Instr.lookup,run_underlying l,MapKept.run_getObj_map s,run_checkKey (P:=P) (w:=w) d,Instr.findKey,run_underlying d,m,zdF (w:=w) q p]
  | some v0 =>
    obtain ⟨j,e,m,_,_,H,_⟩:=zfy (i:=0) hm G;cases ok
    ·refine ⟨e.val,c _ (fun _ => rfl) ?_,H⟩
     rw [ex,ek];simp [Instr.lookup,run_underlying l,MapKept.run_getObj_map s,run_checkKey (P:=P) (w:=w) d,Instr.findKey,run_underlying d,m]
    ·refine ⟨.tuple #[e.val,.bool true],c _ (fun _ => rfl) ?_,pair H⟩
     rw [ex,ek];simp [Instr.lookup,run_underlying l,MapKept.run_getObj_map s,run_checkKey (P:=P) (w:=w) d,Instr.findKey,run_underlying d,m]
 ·obtain ⟨ek,_⟩:=zQ n
  obtain ⟨ex,_⟩:=zQ C;injection h with h;subst h;cases ok
  ·refine ⟨z,c z (fun _ => rfl) ?_,zge hzero⟩
   rw [ex,ek];simp [Instr.lookup,run_underlying l,run_checkKey (P:=P) (w:=w) d,Instr.findKey,run_underlying d,Instr.findNow,zdF (w:=w) q p]
  ·refine ⟨.tuple #[z,.bool false],c _ (fun _ => rfl) ?_,pair (zge hzero)⟩
   rw [ex,ek];simp [Instr.lookup,run_underlying l,run_checkKey (P:=P) (w:=w) d,Instr.findKey,run_underlying d,Instr.findNow,zdF (w:=w) q p]
 ·cases h
theorem zCH (M : Rel g w r.st) (L : Low r.base r.lim r.st) (F : Fr κ loc nt g w r a) {t key elem : TypeId} {x k y : Operand} (c : o.op = .mapUpdate t x k y ∨ o.op = .insert t x k y) (hd : okD κ nt o.dst d = true) (A : d = .no) (U : P.underlying t = some (.map key elem)) (G : P.underlying key = some (.int .i64))
  {vx Z f : V} (Y : zf g w r.st vx (a.eval x)) (O : zf g w r.st Z (a.eval k)) (W : zf g w r.st f (a.eval y)) {r1 : R} (h : amu r f vx Z = some r1) (kk : zpJ κ (zbg o.dst d :: loc) nt g w r (r1.put d vun) (a.put o.dst) next) : o.wp P a w next Q:=by
 unfold amu at h;split at h
 ·rename_i id n
  obtain ⟨ek,_⟩:=zQ O
  ·rw [yb] at h
   obtain ⟨es,h1,rfl⟩:=h;have m:=zzt h1;obtain ⟨_,_,zbC,clock,z,⟨es',p,s,hm⟩,C,q⟩:=M.ob id _ m;simp only [zf,zz] at Y;have ex:=Y.2;have E:=zBl (k:=n) (v:=f) s p;have l : Low r.base r.lim (r.setOb id (.mp (zmP n f es))).st:=L.set
   cases J : zh6 n es' with
   | none =>
     have N:=zfB (i:=0) hm J
     obtain ⟨H,S⟩:=map_set (clock':=clock + 1) (es':=zmP n f es) (ents':=zbC.push { key:=.int .i64 n,val:=a.eval y,born:=clock }) M m z fun H => by
      rw [Array.toList_push];refine ⟨⟨_,E,zsx s,zxf hm J H rfl (H.zf _ _ W)⟩,?_,?_⟩
      ·rw [yn]
       refine yh.2 ⟨C,by simp,fun a ha b X => ?_⟩;simp at X;subst X;obtain ⟨e,he,rfl⟩:=yg.1 ha;have:=q e he;omega
      ·intro e he
       rcases List.mem_append.1 he with he | he
       ·have:=q e he
        omega
       ·simp at he
        subst he;simp
     refine ztt (r1:=r.setOb id (.mp (zmP n f es))) F hd A H S l rfl rfl ?_ kk;rcases c with c | c <;> (unfold execOp; simp only [c,ex,ek]; simp [Instr.mapUpdate,run_underlying U,MapKept.run_getObj_map z,run_checkKey (P:=P) (w:=w) G,Instr.findKey,run_underlying G,N,MapKept.run_setObj_map _ z])
   | some v0 =>
     obtain ⟨j,e,N,hj,B,_,D⟩:=zfy (i:=0) hm J
     obtain ⟨H,S⟩:=map_set (clock':=clock) (es':=zmP n f es) (ents':=zbC.modify j fun e => { e with key:=.int .i64 n,val:=a.eval y }) M m z fun H => by
      rw [Array.toList_modify];refine ⟨⟨_,E,zsx s,D H (H.zf _ _ W)⟩,?_,?_⟩
      ·have e1 : ((zbC.toList.modify j fun e => { e with key:=.int .i64 n,val:=a.eval y }).map (·.born)) = zbC.toList.map (·.born):=by
        refine List.ext_getElem? fun i => ?_;rw [yi,yi,yf];cases zbC.toList[i]? <;> simp;split <;> rfl
       rw [e1];exact C
      ·intro e he
       obtain ⟨i,u⟩:=List.mem_iff_getElem?.1 he;rw [yf] at u
       cases I : zbC.toList[i]? with
       | none => rw [I] at u; simp at u
       | some e0 =>
         have:=q e0 (yd I);rw [I] at u;simp at u;rw [← u];split <;> exact this
     refine ztt (r1:=r.setOb id (.mp (zmP n f es))) F hd A H S l rfl rfl ?_ kk;have K : zbC[j]? = some e:=(by simpa using hj);rcases c with c | c <;> (unfold execOp; simp only [c,ex,ek]; simp [Instr.mapUpdate,run_underlying U,MapKept.run_getObj_map z,run_checkKey (P:=P) (w:=w) G,Instr.findKey,run_underlying G,N,K,B,Instr.keyThatStays,Instr.sameBits,MapKept.run_setObj_map _ z])
 ·cases h
def znp (xs ys : Array Value) (i : Nat) : Bool:=match xs[i]?,ys[i]? with
 | some (.int _ a),some (.int _ b) => a == b
 | _,_ => false
def zsG (xs ys : Array Value) (i : Nat) : Prop:=∃ k a b,xs[i]? = some (.int k a) ∧ ys[i]? = some (.int k b)
def zmx (P : Program) (t : TypeId) : Bool:=match P.underlying t with
 | some (.int _) => true
 | _ => false
theorem zkC {t : TypeId} (h : zmx P t = true) : ∃ k,P.underlying t = some (.int k):=by
 unfold zmx at h;split at h
 ·exact ⟨_,by assumption⟩
 ·cases h
theorem zin {t : TypeId} (h : zmx P t = true) {xs : Array Value} {i : Nat} {v : Value} (b : xs[i]? = some v) : (part t xs i).run P w = .ok v w:=by
 obtain ⟨k,a⟩:=zkC h;have c : zmv P t = some false:=by unfold zmv; rw [a]; rfl
 unfold part;simp only [Sem.run_bind,zkw (w:=w) c,Result.andThen_ok,Bool.false_eq_true,if_false,b];rfl
theorem zq5 {e : TypeId} (he : zmx P e = true) (d : Nat) (xs ys : Array Value) : ∀ (l : List Nat),(∀ i ∈ l,zsG xs ys i) → (Op.eqItems (d + 1) e 1 xs ys l).run P w = .ok (l.all (znp xs ys)) w
 | [],_ => by simp [Op.eqItems]
 | i :: l,h => by
   obtain ⟨k,a,b,g,f⟩:=h i (by simp);obtain ⟨q,c⟩:=zkC he;have n:=zq5 he d xs ys l fun j m => h j (yc _ m);simp only [Op.eqItems,Nat.mul_one,Sem.run_bind,zin he g,zin he f,Result.andThen_ok,run_equalIn_int w d e k q a b c,yj];have o : znp xs ys i = (a == b):=(by unfold znp; rw [g,f]);rw [o]
   cases p : (a == b) with
   | false => simp
   | true => simpa using n
theorem zpc (d : Nat) (xs ys : Array Value) : ∀ (fs : List Field), (∀ f ∈ fs, f.name ≠ "_" ∧ zmx P f.type = true ∧ zsG xs ys f.offset) → (Op.eqFields (d + 1) xs ys fs).run P w = .ok ((fs.map (·.offset)).all (znp xs ys)) w
 | [],_ => by simp [Op.eqFields]
 | f :: fs,h => by
   obtain ⟨hn,he,k,a,b,h1,h2⟩:=h f (by simp)
   obtain ⟨k',hk'⟩:=zkC he
   have ih:=zpc d xs ys fs fun j hj => h j (yc _ hj)
   simp only [Op.eqFields,if_pos hn,Sem.run_bind,zin he h1,zin he h2,Result.andThen_ok,run_equalIn_int w d f.type k k' a b hk',ye,yj]
   have hv : znp xs ys f.offset = (a == b):=by unfold znp; rw [h1,h2]
   rw [hv]
   cases hab : (a == b) with
   | false => simp
   | true => simpa using ih
def zxH (P : Program) (t : TypeId) : Option Nat:=match P.underlying t with
 | some (.array n e) => if zmx P e && (P.cellsOf e == 1) && (P.info? e).isSome then some n else none
 | some (.struct fs) => if !P.stoodInHeld t && fs.toList.all (fun f => decide (f.name ≠ "_") && zmx P f.type) && (fs.toList.map (·.offset) == yo fs.toList.length) && (P.fieldsOf t).toList.length == fs.toList.length then some fs.toList.length else none
 | _ => none
theorem zEh {t : TypeId} {n : Nat} (h : zxH P t = some n) {xs ys : Array Value} (l : ∀ i,i < n → zsG xs ys i) : (Op.equalIn 10000 t (.agg xs) (.agg ys)).run P w = .ok ((yo n).all (znp xs ys)) w:=by
 unfold zxH at h;split at h
 ·rename_i r e hu
  split at h
  ·rename_i a
   injection h with h;subst h;simp only [ya,beq_iff_eq] at a;obtain ⟨⟨d,k⟩,c⟩:=a;obtain ⟨i,q⟩:=Option.isSome_iff_exists.1 c;rw [run_equalIn_array w 9999 xs ys hu q,k];exact zq5 d 9998 xs ys _ fun j p => l j (by simpa using p)
  ·cases h
 ·rename_i fs hu
  split at h
  ·rename_i a
   injection h with h;subst h;simp only [ya,Bool.not_eq_true',beq_iff_eq] at a;obtain ⟨⟨⟨d,k⟩,c⟩,s⟩:=a;have m : P.fieldsOf t = fs:=(by simp [Program.fieldsOf,hu]);rw [run_equalIn_struct w 9999 t xs ys (by rw [m]; exact hu) d,m];rw [zpc 9998 xs ys fs.toList fun f b => ?_,c];have g:=List.all_eq_true.1 k f b;simp only [ya,decide_eq_true_eq] at g;have o : f.offset ∈ fs.toList.map (·.offset):=yg.2 ⟨f,b,rfl⟩;rw [c] at o;exact ⟨g.1,g.2,l _ (by simpa using o)⟩
  ·cases h
 ·cases h
theorem zoU {σ : zd} : ∀ {cs ds : List C} {us vs : List Value} {b : Bool},zko cs ds = some b → zw g w σ cs us → zw g w σ ds vs → us.length = cs.length ∧ vs.length = cs.length ∧ (∀ i,i < cs.length → zsG us.toArray vs.toArray i) ∧ b = (yo cs.length).all (znp us.toArray vs.toArray)
 | [],[],us,vs,b,h,hu,hv => by
   have e1 : us = []:=(by simpa only [zw] using hu);have e2 : vs = []:=(by simpa only [zw] using hv);subst e1 e2;simp only [zko,Option.some.injEq] at h;subst h;exact ⟨rfl,rfl,fun i q => by simp at q,by simp⟩
 | c :: cs,d :: ds,us,vs,b,h,hu,hv => by
   unfold zko at h;split at h
   ·rename_i heq _; cases heq
   ·rename_i k a xs H o ys j l
    injection j with e1 e2;injection l with e3 e4;subst e1 e2 e3 e4;split at h
    ·rename_i z
     subst z;rw [yb] at h;obtain ⟨b1,t,A⟩:=h;simp only [zw] at hu hv;obtain ⟨u,us',rfl,n,p⟩:=hu;obtain ⟨v,f,rfl,m,r⟩:=hv;obtain ⟨E,y,D,x⟩:=zoU t p r;simp only [zz,rep] at n m;obtain ⟨rfl,_⟩:=n;obtain ⟨rfl,_⟩:=m;have e : ∀ i,znp (Value.int k a :: us').toArray (Value.int k o :: f).toArray (i + 1) = znp us'.toArray f.toArray i:=fun i => by simp [znp]
     refine ⟨by simp [E],by simp [y],fun i q => ?_,?_⟩
     ·cases i with
      | zero => exact ⟨k,a,o,by simp,by simp⟩
      | succ i =>
        obtain ⟨s,a2,b2,r1,B⟩:=D i (by simpa using q);exact ⟨s,a2,b2,by simpa using r1,by simpa using B⟩
     ·rw [← A,x,List.length_cons,List.range_succ_eq_map,yj,List.all_map]
      have G : znp (Value.int k a :: us').toArray (Value.int k o :: f).toArray 0 = decide (a = o):=(by simp [znp]; rfl);rw [G]
      congr 2
      funext i
      exact (e i).symm
    ·cases h
   ·cases h
 | [],d :: ds,us,vs,b,h,_,_ => by simp [zko] at h
 | c :: cs,[],us,vs,b,h,_,_ => by
   unfold zko at h;split at h <;> simp_all
theorem zzA {op : BinOp} {t C : TypeId} {x y : Operand} {neg : Bool} {n : Nat} (m : o.op = .binOp op t x y C) (j : (op = .eql ∧ neg = false) ∨ (op = .neq ∧ neg = true)) (G : zxH P t = some n) (E : P.eqGuardType P.depth t = false)
  {A p v : V} (z : zf g w r.st A (a.eval x)) (s : zf g w r.st p (a.eval y)) (h : zHi n neg A p = some v) :
  ∃ u,(execOp a.eval o).run P w = .ok (.value u) w ∧ zf g w r.st v u:=by
 unfold zHi at h;split at h
 ·rename_i cs ds
  split at h
  ·rename_i H
   rw [yb] at h;obtain ⟨b,D,I⟩:=h;subst I;simp only [zf] at z s;obtain ⟨us,f,l⟩:=z;obtain ⟨vs,i,k⟩:=s;obtain ⟨K,J,B,q⟩:=zoU D l k;rw [H] at B q;have d:=zEh (w:=w) G (xs:=us) (ys:=vs) (by simpa using B);have c:=run_eqGuard_agg (P:=P) w op t x y us vs E;have e : b = (yo n).all (znp us vs):=(by simpa using q);rcases j with ⟨rfl,rfl⟩ | ⟨rfl,rfl⟩
   ·refine ⟨.bool b,?_,zY (v:=.bool b) rfl⟩
    unfold execOp;simp only [m,f,i];simp [c,run_eql_struct,d,e]
   ·refine ⟨.bool (!b),?_,zY (v:=.bool (!b)) rfl⟩
    unfold execOp;simp only [m,f,i];simp [c,run_neq_struct,d,e]
  ·cases h
 ·cases h
theorem zzZ {op : BinOp} {t i : TypeId} {x y : Operand} {neg : Bool} (c : o.op = .binOp op t x y i) (b : (op = .eql ∧ neg = false) ∨ (op = .neq ∧ neg = true)) (j : P.underlying t = some .bool)
  {f d v : V} (l : zf g w r.st f (a.eval x)) (k : zf g w r.st d (a.eval y)) (h : zHa neg f d = some v) :
  ∃ u,(execOp a.eval o).run P w = .ok (.value u) w ∧ zf g w r.st v u:=by
 unfold zHa at h;split at h
 ·rename_i p q
  obtain ⟨ex,_⟩:=zQ l;obtain ⟨ey,_⟩:=zQ k;injection h with h;subst h;have e:=run_equal_bool (P:=P) w t p q j;rcases b with ⟨rfl,rfl⟩ | ⟨rfl,rfl⟩
  ·refine ⟨.bool (p == q),?_,zY (v:=.bool (p == q)) rfl⟩
   unfold execOp;simp only [c,ex,ey];simp [eqGuard,binOp,e]
  ·refine ⟨.bool (!(p == q)),?_,zY (v:=.bool (!(p == q))) rfl⟩
   unfold execOp;simp only [c,ex,ey];simp [eqGuard,binOp,e]
 ·cases h
end
def Ow.cut (n : Nat) : Ow → Ow
 | .no => .no
 | .ob id => if id < n then .ob id else .no
 | .tk t k => if t < n then .tk t k else .no
theorem Ow.cut_cut {n m : Nat} (h : n ≤ m) (o : Ow) (a : o.cut n = o) : o.cut m = o:=by
 cases o with
 | no => rfl
 | ob id =>
   simp only [Ow.cut] at a ⊢;split at a
   ·rw [if_pos (by omega)]
   ·cases a
 | tk t k =>
   simp only [Ow.cut] at a ⊢;split at a
   ·rw [if_pos (by omega)]
   ·cases a
theorem Ow.cut_idem (n : Nat) (o : Ow) : (o.cut n).cut n = o.cut n:=by
 cases o with
 | no => rfl
 | ob id => by_cases h : id < n <;> simp [Ow.cut,h]
 | tk t k => by_cases h : t < n <;> simp [Ow.cut,h]
def G.drop (g : G) (n : Nat) (w : World) : G :=
 { g with
   ow:=fun b => (g.ow b).cut n
   N:=fun b o => g.N b o ∨ (b < w.heap.size ∧ ∃ id,n ≤ id ∧ g.ow b = .ob id) }
def Clean (g : G) (n : Nat) : Prop:=∀ b,(g.ow b).cut n = g.ow b
section
variable {g : G} {w : World} {σ : zd} {n : Nat}
theorem zjI {α : Type} {l : List α} {i n : Nat} (h : i < n) : (l.take n)[i]? = l[i]?:=by rw [List.getElem?_take,if_pos h]
theorem zop {id : Nat} (h : id < n) : shapeOf (σ.take n) id = shapeOf σ id:=by unfold shapeOf; rw [zjI h]
theorem zzs {t k : Nat} (h : t < n) : znR (σ.take n) t k = znR σ t k:=by unfold znR; rw [zjI h]
theorem zxa {t : Nat} (h : t < n) : zpe (σ.take n) t = zpe σ t:=by unfold zpe; rw [zjI h]
theorem zhy : zhS w w g.N (g.drop n w).N:=fun _ _ h => ⟨.inl h,rfl⟩
mutual
theorem zqh : ∀ (c : C) (u : Value),zz g w σ c u → c.lt n = true → zz (g.drop n w) w (σ.take n) c u
 | .f x,u,h,_ => by
   simp only [zz] at h ⊢;exact zdb zhy x u h
 | .ap t k xs,u,h,hl => by
   have d : t < n:=(by simpa [C.lt] using hl);simp only [zz] at h ⊢;obtain ⟨j,m,e,l,q,sz,p,r⟩:=h;exact ⟨zdb zhy _ u j,m,by rw [zzs d]; exact e,l,q,sz,by rw [zxa d]; exact p,r⟩
 | .ptr id ver i off,u,h,hl => by
   have d : id < n:=(by simpa [C.lt] using hl);simp only [zz] at h ⊢;rw [zop d];exact h
 | .fp cs off,u,h,_ => by
   simp only [zz] at h ⊢;obtain ⟨b,o,j,e⟩:=h;exact ⟨b,o,j,zfT zhy cs b o e⟩
 | .own id ver lo m,u,h,hl => by
   have d : id < n:=(by simpa [C.lt] using hl);simp only [zz] at h ⊢;rw [zop d];exact h
 | .map id,u,h,hl => by
   have d : id < n:=(by simpa [C.lt] using hl);simp only [zz] at h ⊢;rw [zjI d];exact h
 | .fn f a b,u,h,hl => by
   simp only [C.lt,ya] at hl;simp only [zz] at h ⊢;obtain ⟨fs,cs,j,e,l⟩:=h;exact ⟨fs,cs,j,zli a _ e hl.1,zli b _ l hl.2⟩
 | .un,_,_,_ => by simp only [zz]
theorem zli : ∀ (cs : List C) (us : List Value),zw g w σ cs us → C.lts n cs = true → zw (g.drop n w) w (σ.take n) cs us
 | [],us,h,_ => by simpa only [zw] using h
 | c :: cs,us,h,hl => by
   simp only [C.lts,ya] at hl;simp only [zw] at h ⊢;obtain ⟨v,vs,d,a,b⟩:=h;exact ⟨v,vs,d,zqh c v a hl.1,zli cs vs b hl.2⟩
end
mutual
theorem zk7 : ∀ (c : V) (u : Value),zf g w σ c u → c.lt n = true → zf (g.drop n w) w (σ.take n) c u
 | .one c,u,h,hl => by
   simp only [V.lt] at hl;simp only [zf] at h ⊢;exact zqh c u h hl
 | .agg cs,u,h,hl => by
   simp only [V.lt] at hl;simp only [zf] at h ⊢;obtain ⟨us,b,a⟩:=h;exact ⟨us,b,zli cs _ a hl⟩
 | .tup vs,u,h,hl => by
   simp only [V.lt] at hl;simp only [zf] at h ⊢;obtain ⟨us,b,a⟩:=h;exact ⟨us,b,zrV vs _ a hl⟩
theorem zrV : ∀ (vs : List V) (us : List Value),zA g w σ vs us → V.lts n vs = true → zA (g.drop n w) w (σ.take n) vs us
 | [],us,h,_ => by simpa only [zA] using h
 | c :: cs,us,h,hl => by
   simp only [V.lts,ya] at hl;simp only [zA] at h ⊢;obtain ⟨v,vs,d,a,b⟩:=h;exact ⟨v,vs,d,zk7 c v a hl.1,zrV cs vs b hl.2⟩
end
theorem zGX {os : List Ob} (h : Obs.lt n os = true) : ∀ {i : Nat} {o : Ob},os[i]? = some o → o.lt n = true:=by
 induction os with
 | nil => intro i o h; simp at h
 | cons x xs ih =>
   simp only [Obs.lt,ya] at h;intro i o a
   cases i with
   | zero => simp at a; subst a; exact h.1
   | succ i => exact ih h.2 (by simpa using a)
theorem zus : ∀ {es : List (Int × V)} {zbC : List MapEntry},zrw g w σ es zbC → C.ltm n es = true → zrw (g.drop n w) w (σ.take n) es zbC
 | [],_,h,_ => h
 | x :: xs,_,h,hl => by
   simp only [C.ltm,ya] at hl;obtain ⟨e,rest,c,a,b,d⟩:=h;exact ⟨e,rest,c,a,zk7 _ _ b hl.1,zus d hl.2⟩
theorem zwD : ∀ {es : List (Int × V)},C.ltm n es = true ↔ ∀ e ∈ es,e.2.lt n = true
 | [] => by simp [C.ltm]
 | e :: es => by simp [C.ltm,zwD (es:=es)]
theorem zyt {es : List (Int × V)} {zbC : List MapEntry} {clock : Nat} (h : zmq g w σ es zbC clock) (a : C.ltm n es = true) : zmq (g.drop n w) w (σ.take n) es zbC clock:=by
 have:=zpo (g':=g.drop n w) (w':=w) (σ':=σ.take n) h id (fun _ => rfl) (fun es' b h => by
  rw [yk]
  exact zus h (zwD.2 fun e he => zwD.1 a e (b.mem_iff.1 he)))
 rwa [yk] at this
theorem zxv (R : Rel g w σ) (D : Obs.lt n (σ.take n) = true) : Rel (g.drop n w) w (σ.take n):=by
 refine ⟨fun b o h => h.elim (R.nb b o) fun h => h.1,fun id o z => ?_⟩
 have d : id < n:=by
  have:=zb z;rw [yl] at this;omega
 have p:=zGX D z;rw [zjI d] at z;have q:=R.ob id o z;have x : ∀ b i,g.ow b = .ob i → i < n → (g.drop n w).ow b = .ob i:=fun b i h s => by simp [G.drop,Ow.cut,h,s]
 have a : ∀ b i,g.ow b = .ob i → i < n → (∀ o,¬ g.N b o) → ∀ o,¬ (g.drop n w).N b o:=fun b i h s J o a => by
  rcases a with a | ⟨_,j,O,a⟩
  ·exact J o a
  ·rw [h] at a; injection a with a; omega
 cases o with
 | cells ver sz es =>
   intro B;obtain ⟨l,y,arr,t,v,r,A⟩:=q B;refine ⟨x _ _ l d,a _ _ l d y,arr,t,v,r,fun i e s => ⟨(A i e s).1,fun j c C => ?_⟩⟩;obtain ⟨u,H,E,I⟩:=(A i e s).2 j c C;simp only [Ob.lt] at p;exact ⟨u,H,zqh c u E (zBR.1 (zwP.1 p e (yd s)) c (yd C)),I⟩
 | mp es =>
   obtain ⟨l,y,zbC,clock,v,r⟩:=q;exact ⟨x _ _ l d,a _ _ l d y,zbC,clock,v,zyt r (by simpa [Ob.lt] using p)⟩
 | tok sz fr =>
   intro k m hm;rcases q k m hm with h | ⟨b,o,c,arr,t,l,y,v,r,A,M,L⟩
   ·exact .inl h
   ·refine .inr ⟨b,o,c,arr,t,l,y,v,by simp [G.drop,Ow.cut,r,d],A,M,fun K f => ?_⟩
    rcases f with f | ⟨_,j,_,f⟩
    ·exact L K f
    ·rw [r] at f; cases f
theorem zxw {g0 : G} {w0 : World} {σ0 : zd} (H : Ext g0 w0 σ0 g w σ) (i : Clean g0 σ0.length) (j : σ0.length ≤ n) : Ext g0 w0 σ0 (g.drop n w) w (σ.take n) where
 os:=H.os
 tape:=H.tape
 output:=H.output
 size:=H.size
 keeps:=H.keeps.trans zhy
 len:=by have:=H.len; rw [yl]; omega
 shape:=fun id e sz len h => by
  have a : id < n:=by obtain ⟨es,c,_⟩:=za2 h; have:=zb c; omega
  rw [zop a];exact H.shape id e sz len h
 map:=fun id es h => by
  have a : id < n:=by have:=zb h; omega
  rw [zjI a];exact H.map id es h
 tok:=fun t k m h => by
  have a : t < n:=by obtain ⟨_,_,c,_⟩:=zdi h; have:=zb c; omega
  rw [zzs a];exact H.tok t k m h
 tsz:=fun t sz h => by
  have a : t < n:=by obtain ⟨_,c⟩:=zfc h; have:=zb c; omega
  rw [zxa a];exact H.tsz t sz h
 ow:=fun b d => by
  show (g.ow b).cut n = _
  rw [H.ow b d];exact Ow.cut_cut j _ (i b)
 new:=fun b o h d f => by
  rcases h with h | ⟨_,id,_,h⟩
  ·exact H.new b o h d f
  ·rw [H.ow b d,f] at h; cases h
 frame:=H.frame
def G.clean (g : G) (n : Nat) : G :=
 { g with ow:=fun b => (g.ow b).cut n }
theorem zgy (g : G) (n : Nat) : Clean (g.clean n) n:=fun b => Ow.cut_idem n _
mutual
theorem zpT {g' : G} (e : g'.ρ = g.ρ) (j : g'.tv = g.tv) (d : g'.N = g.N) : ∀ (c : C) (u : Value),zz g w σ c u → zz g' w σ c u
 | .f x,u,h => by simp only [zz] at h ⊢; rw [d]; exact h
 | .ap t k xs,u,h => by simp only [zz] at h ⊢; rw [d,j]; exact h
 | .ptr id ver i off,u,h => by simp only [zz] at h ⊢; rw [e]; exact h
 | .fp cs off,u,h => by simp only [zz] at h ⊢; rw [d]; exact h
 | .own id ver lo m,u,h => by simp only [zz] at h ⊢; rw [e]; exact h
 | .map id,u,h => by simp only [zz] at h ⊢; rw [e]; exact h
 | .fn f a b,u,h => by
   simp only [zz] at h ⊢;obtain ⟨fs,cs,l,o,n⟩:=h;exact ⟨fs,cs,l,zlh e j d a _ o,zlh e j d b _ n⟩
 | .un,_,_ => by simp only [zz]
theorem zlh {g' : G} (d : g'.ρ = g.ρ) (a : g'.tv = g.tv) (b : g'.N = g.N) : ∀ (cs : List C) (us : List Value),zw g w σ cs us → zw g' w σ cs us
 | [],us,h => by simpa only [zw] using h
 | c :: cs,us,h => by
   simp only [zw] at h ⊢;obtain ⟨v,vs,e,i,f⟩:=h;exact ⟨v,vs,e,zpT d a b c v i,zlh d a b cs vs f⟩
end
mutual
theorem zhZ {g' : G} (f : g'.ρ = g.ρ) (b : g'.tv = g.tv) (d : g'.N = g.N) : ∀ (c : V) (u : Value),zf g w σ c u → zf g' w σ c u
 | .one c,u,h => by simp only [zf] at h ⊢; exact zpT f b d c u h
 | .agg cs,u,h => by
   simp only [zf] at h ⊢;obtain ⟨us,a,e⟩:=h;exact ⟨us,a,zlh f b d cs _ e⟩
 | .tup vs,u,h => by
   simp only [zf] at h ⊢;obtain ⟨us,a,e⟩:=h;exact ⟨us,a,zr0 f b d vs _ e⟩
theorem zr0 {g' : G} (d : g'.ρ = g.ρ) (a : g'.tv = g.tv) (b : g'.N = g.N) : ∀ (vs : List V) (us : List Value),zA g w σ vs us → zA g' w σ vs us
 | [],us,h => by simpa only [zA] using h
 | c :: cs,us,h => by
   simp only [zA] at h ⊢;obtain ⟨v,vs,e,i,f⟩:=h;exact ⟨v,vs,e,zhZ d a b c v i,zr0 d a b cs vs f⟩
end
theorem zuu {g' : G} (c : g'.ρ = g.ρ) (a : g'.tv = g.tv) (b : g'.N = g.N) : ∀ {es : List (Int × V)} {zbC : List MapEntry},zrw g w σ es zbC → zrw g' w σ es zbC
 | [],_,h => h
 | x :: xs,_,h => by
   obtain ⟨e,rest,d,i,f,j⟩:=h;exact ⟨e,rest,d,i,zhZ c a b _ _ f,zuu c a b j⟩
theorem zyj {g' : G} (c : g'.ρ = g.ρ) (a : g'.tv = g.tv) (b : g'.N = g.N) {es : List (Int × V)} {zbC : List MapEntry} {clock : Nat} (h : zmq g w σ es zbC clock) : zmq g' w σ es zbC clock:=by
 have:=zpo (g':=g') (w':=w) (σ':=σ) h id (fun _ => rfl) (fun es' d h => by
  rw [yk]
  exact zuu c a b h)
 rwa [yk] at this
theorem zAw {g' : G} (R : Rel g w σ) (s : g'.ρ = g.ρ) (z : g'.tv = g.tv) (f : g'.N = g.N) (q : ∀ b id,id < σ.length → g.ow b = .ob id → g'.ow b = .ob id) (x : ∀ b t k,t < σ.length → g.ow b = .tk t k → g'.ow b = .tk t k) : Rel g' w σ:=by
 refine ⟨by rw [f]; exact R.nb,fun id o A => ?_⟩;have a:=zb A;have d:=R.ob id o A
 cases o with
 | cells ver sz es =>
   intro y;obtain ⟨n,l,arr,t,p,r,v⟩:=d y;rw [s,f];refine ⟨q _ _ a n,l,arr,t,p,r,fun i e B => ⟨(v i e B).1,fun j c C => ?_⟩⟩;obtain ⟨u,m1,m2,D⟩:=(v i e B).2 j c C;exact ⟨u,m1,zpT s z f c u m2,D⟩
 | mp es =>
   obtain ⟨n,l,zbC,clock,p,r⟩:=d;unfold zCe;rw [s,f];exact ⟨q _ _ a n,l,zbC,clock,p,zyj s z f r⟩
 | tok sz fr =>
   intro k m hm;rw [z,f];rcases d k m hm with h | ⟨b,o,c,arr,t,n,l,p,r,v⟩
   ·exact .inl h
   ·exact .inr ⟨b,o,c,arr,t,n,l,p,x _ _ _ a r,v⟩
theorem zAJ (R : Rel g w σ) : Rel (g.clean σ.length) w σ :=
 zAw R rfl rfl rfl (fun b id a h => by simp [G.clean,Ow.cut,h,a]) (fun b t k c h => by simp [G.clean,Ow.cut,h,c])
def G.under (g0 : G) (w0 : World) (g : G) : G:={ g with ow:=fun b => if b < w0.heap.size then g0.ow b else g.ow b }
theorem zqE {w' : World} {σ' : zd} {g' : G} (H : Ext (g.clean σ.length) w σ g' w' σ') : Ext g w σ (g.under w g') w' σ' where
 os:=H.os
 tape:=H.tape
 output:=H.output
 size:=H.size
 keeps:=H.keeps
 len:=H.len
 shape:=H.shape
 map:=H.map
 tok:=H.tok
 tsz:=H.tsz
 ow:=fun b a => by
  show (if b < w.heap.size then g.ow b else g'.ow b) = _
  rw [if_pos a]
 new:=fun b o h a c => H.new b o h a (by simp [G.clean,Ow.cut,c])
 frame:=fun b a c => H.frame b a (by simp [G.clean,Ow.cut,c])
theorem zqV {w' : World} {σ' : zd} {g' : G} (H : Ext (g.clean σ.length) w σ g' w' σ') (R : Rel g' w' σ') : Rel (g.under w g') w' σ':=by
 have key : ∀ b,b < w.heap.size → g'.ow b ≠ .no → g.ow b = g'.ow b:=fun b e a => by
  have:=H.ow b e;change g'.ow b = (g.ow b).cut σ.length at this;rw [this] at a ⊢
  cases h : g.ow b with
  | no => rfl
  | ob id =>
    rw [h] at a;simp only [Ow.cut] at a ⊢;split
    ·rfl
    ·rename_i c; rw [if_neg c] at a; exact absurd rfl a
  | tk t k =>
    rw [h] at a;simp only [Ow.cut] at a ⊢;split
    ·rfl
    ·rename_i c; rw [if_neg c] at a; exact absurd rfl a
 refine zAw (g':=g.under w g') R rfl rfl rfl (fun b id d h => ?_) (fun b t k f h => ?_)
 ·show (if b < w.heap.size then g.ow b else g'.ow b) = _
  split
  ·rw [key b (by assumption) (by rw [h]; simp),h]
  ·exact h
 ·show (if b < w.heap.size then g.ow b else g'.ow b) = _
  split
  ·rw [key b (by assumption) (by rw [h]; simp),h]
  ·exact h
end
end Go.A
