/- A part of the proof of AffineFinds. Conditions: none. -/
import Derived.Test.YtmkncmffaaninaaGreatXAF
import Derived.Laws.StructEq
import Derived.ChangeKeysEq
set_option linter.all false
open Bool renaming and_eq_true → ya
open Option renaming map_eq_some_iff → yb
open List renaming mem_cons_of_mem → yc,mem_of_getElem? → yd,map_cons → ye,getElem?_modify → yf,mem_map → yg,nodup_append → yh,getElem?_map → yi,all_cons → yj,map_id → yk,length_take → yl,nodup_cons → ym,map_append → yn,range → yo,mem_cons → yp
namespace Go.A
section
variable {P : Program} {κ : List Tmp} {loc : List (Option Tmp)} {nt : Nat} {g : G} {w : World} {r r' : R} {a : Act} {o : Go.Oper} {d : D} {next : Act → World → Prop} {Q : Exit → Act → World → Prop}
theorem run_checkKey {b : Bool} {t : TypeId} {k : IntKind} {v : Value} (h : P.underlying t = some (.int k)) : (Instr.checkKey b 10000 t v).run P w = .ok () w:=by
 show (Instr.checkKey b (9999 + 1) t v).run P w = _
 unfold Instr.checkKey;rw [Sem.run_bind,run_underlying h];cases v <;> rfl
theorem zeW {σ : zd} {k : Int} : ∀ {es : List (Int × V)} {zX : List MapEntry} {i : Nat},zp8 g w σ es zX → zhb k es = none → Instr.findNow (.int .i64) (.int .i64 k) zX i = some none
 | [],zX,i,hm,_ => by
   have : zX = []:=hm;subst this;rfl
 | x :: es,zX,i,hm,h => by
   obtain ⟨e,rest,rfl,d,_,c⟩:=hm;simp only [zhb] at h;split at h
   ·cases h
   ·rename_i b
    unfold Instr.findNow;have a : ¬ (k = x.1):=fun e => b e.symm;simp only [d,Instr.sameNow,if_pos];have : (k == x.1) = false:=(by simpa using a);rw [this];exact zeW c h
theorem zeY {σ : zd} {k : Int} : ∀ {es : List (Int × V)} {zX : List MapEntry} {i : Nat} {v : V},zp8 g w σ es zX → zhb k es = some v →
  ∃ j e,Instr.findNow (.int .i64) (.int .i64 k) zX i = some (some (i + j,e.val)) ∧ zX[j]? = some e ∧ e.key = .int .i64 k ∧ zh g w σ v e.val ∧
    ∀ {g' : G} {w' : World} {σ' : zd} {v' : V} {l : Value},Ext g w σ g' w' σ' → zh g' w' σ' v' l → zp8 g' w' σ' (zgq k v' es) (zX.modify j fun e => { e with key:=.int .i64 k,val:=l })
 | [],_,_,_,_,h => by simp [zhb] at h
 | x :: es,zX,i,v,hm,h => by
   obtain ⟨e,rest,rfl,b,m,f⟩:=hm;simp only [zhb] at h;split at h
   ·rename_i d
    injection h with h;subst h;refine ⟨0,e,?_,by simp,by rw [b,d],m,fun H c => ?_⟩
    ·unfold Instr.findNow
     simp [b,Instr.sameNow,d]
    ·simp only [zgq,if_pos d,List.modify_zero_cons]
     exact ⟨_,_,rfl,rfl,c,H.zp8 f⟩
   ·rename_i a
    obtain ⟨j,q,s,r,o,n,p⟩:=zeY (i:=i + 1) f h;refine ⟨j + 1,q,?_,by simpa using r,o,n,fun H c => ?_⟩
    ·unfold Instr.findNow
     have : (k == x.1) = false:=by simpa using fun e : k = x.1 => a e.symm
     simp only [b,Instr.sameNow,if_pos,this];rw [s,show i + 1 + j = i + (j + 1) from by omega]
    ·simp only [zgq,if_neg a,List.modify_succ_cons]
     exact ⟨_,_,rfl,b,H.zh _ _ m,p H c⟩
theorem ztL {σ : zd} {k : Int} : ∀ {es : List (Int × V)} {zX : List MapEntry},zp8 g w σ es zX → zhb k es = none → ∀ {g' : G} {w' : World} {σ' : zd} {v' : V} {a : MapEntry},Ext g w σ g' w' σ' → a.key = .int .i64 k → zh g' w' σ' v' a.val → zp8 g' w' σ' (zgq k v' es) (zX ++ [a])
 | [],zX,hm,_,_,_,_,_,a,H,hk,hv => by
   have : zX = []:=hm;subst this;exact ⟨a,[],rfl,hk,hv,rfl⟩
 | x :: es,zX,hm,h,_,_,_,_,a,H,hk,hv => by
   obtain ⟨e,rest,rfl,d,f,c⟩:=hm;simp only [zhb] at h;split at h
   ·cases h
   ·rename_i b
    simp only [zgq,if_neg b];exact ⟨e,rest ++ [a],rfl,d,H.zh _ _ f,ztL c h H hk hv⟩
theorem zky {k : Int} : ∀ {es : List (Int × V)},zhb k es = none ↔ ∀ e ∈ es,e.1 ≠ k
 | [] => by simp [zhb]
 | e :: es => by
   simp only [zhb];split
   ·rename_i h
    simp [h]
   ·rename_i h
    rw [zky (es:=es)];simp [h]
theorem zrd {k : Int} {v : V} : ∀ {es : List (Int × V)},(es.map (·.1)).Nodup → (zhb k es = some v ↔ (k,v) ∈ es)
 | [],_ => by simp [zhb]
 | e :: es,hn => by
   simp only [ye,ym] at hn;simp only [zhb];split
   ·rename_i h
    subst h;constructor
    ·intro h; injection h with h; subst h; simp
    ·intro h
     rcases yp.1 h with h | h
     ·rw [← h]
     ·exact absurd (yg.2 ⟨_,h,rfl⟩) hn.1
   ·rename_i h
    rw [zrd hn.2];constructor
    ·exact fun h => yc _ h
    ·intro a
     rcases yp.1 a with a | a
     ·exact absurd (by rw [← a]) h
     ·exact a
theorem zpX {k : Int} {es es' : List (Int × V)} (c : (es'.map (·.1)).Nodup) (h : es'.Perm es) : zhb k es' = zhb k es:=by
 have a : (es.map (·.1)).Nodup:=(h.map _).nodup_iff.1 c
 cases b : zhb k es' with
 | none =>
   refine (zky.2 fun e he => zky.1 b e (h.mem_iff.2 he)).symm
 | some v => exact ((zrd a).2 (h.mem_iff.1 ((zrd c).1 b))).symm
theorem zbt {k : Int} {v : V} : ∀ {es : List (Int × V)},zhb k es = none → zgq k v es = es ++ [(k,v)]
 | [],_ => rfl
 | e :: es,h => by
   simp only [zhb] at h;split at h
   ·cases h
   ·rename_i a
    simp only [zgq,if_neg a,zbt h,List.cons_append]
theorem zuU {k : Int} {v v0 : V} : ∀ {es : List (Int × V)},zhb k es = some v0 → (zgq k v es).map (·.1) = es.map (·.1)
 | [],h => by simp [zhb] at h
 | e :: es,h => by
   simp only [zhb] at h;split at h
   ·rename_i b
    simp [zgq,b]
   ·rename_i a
    simp only [zgq,if_neg a,ye,zuU h]
theorem zgg {k : Int} {v v0 : V} : ∀ {es : List (Int × V)},(es.map (·.1)).Nodup → zhb k es = some v0 → ((k,v0) :: zgq k v es).Perm ((k,v) :: es)
 | [],_,h => by simp [zhb] at h
 | e :: es,hn,h => by
   simp only [ye,ym] at hn;simp only [zhb] at h;split at h
   ·rename_i b
    injection h with h;simp only [zgq,if_pos b];have : e = (k,v0):=(by rw [← b,← h]);rw [this];exact List.Perm.swap _ _ _
   ·rename_i a
    simp only [zgq,if_neg a];exact (List.Perm.swap _ _ _).trans (((zgg hn.2 h).cons e).trans (List.Perm.swap _ _ _))
theorem zpL {k : Int} {v : V} {es es' : List (Int × V)} (b : (es'.map (·.1)).Nodup) (h : es'.Perm es) : (zgq k v es').Perm (zgq k v es):=by
 have c : (es.map (·.1)).Nodup:=(h.map _).nodup_iff.1 b
 cases a : zhb k es' with
 | none =>
   rw [zbt a,zbt (by rw [← zpX b h]; exact a)];exact h.append_right _
 | some v0 =>
   have d:=zgg (v:=v) b a;have e:=zgg (v:=v) c (by rw [← zpX b h]; exact a);exact (List.perm_cons _).1 (d.trans ((h.cons _).trans e.symm))
theorem zdW {k : Int} {v : V} {es : List (Int × V)} (f : (es.map (·.1)).Nodup) : ((zgq k v es).map (·.1)).Nodup:=by
 cases c : zhb k es with
 | none =>
   rw [zbt c,yn];refine yh.2 ⟨f,by simp,fun a g b d => ?_⟩;simp at d;subst d;obtain ⟨e,he,rfl⟩:=yg.1 g;exact zky.1 c e he
 | some v0 => rw [zuU c]; exact f
theorem zsG {σ : zd} {id : Nat} {es : List (Int × V)} (h : (σ[id]?).bind Ob.entries = some es) : σ[id]? = some (.mp es):=by
 rw [Option.bind_eq_some_iff] at h;obtain ⟨c,b,a⟩:=h;unfold Ob.entries at a;split at a
 ·injection a with a; subst a; exact b
 ·cases a
theorem zEu (N : Rel g w r.st) {t key elem : TypeId} {x k : Operand} {ok : Bool} {z : Value} {i : TypeInfo} {zero : V} (L : o.op = .lookup t x k ok) (l : P.underlying t = some (.map key elem)) (d : P.underlying key = some (.int .i64)) (s : P.info? elem = some i) (p : i.zero = some z) (hzero : zqG z zero = true)
  {J I v : V} (D : zh g w r.st J (a.eval x)) (n : zh g w r.st I (a.eval k)) (h : alk r.st zero ok J I = some v) :
  ∃ u,(execOp a.eval o).run P w = .ok (.value u) w ∧ zh g w r.st v u:=by
 have c : ∀ u,(∀ b,Instr.checkKey b 10000 key (a.eval k) = Instr.checkKey b 10000 key (a.eval k)) → (Instr.lookup t (a.eval x) (a.eval k) ok).run P w = .ok u w → (execOp a.eval o).run P w = .ok (.value u) w:=fun u _ K => by
  unfold execOp;simp only [L,Sem.run_bind,K,Result.andThen_ok,Sem.run_pure]
 have E : zh g w r.st (zi4 true) (.bool true):=zae rfl;have q : zh g w r.st (zi4 false) (.bool false):=zae rfl
 have pair : ∀ {v1 : V} {u1 : Value} {b : Bool},zh g w r.st v1 u1 → zh g w r.st (.tup [v1,zi4 b]) (.tuple #[u1,.bool b]):=fun {v1 u1 b} C => by
  simp only [zh];exact ⟨_,rfl,by simp only [zO]; exact ⟨_,_,rfl,C,_,_,rfl,zae rfl,rfl⟩⟩
 unfold alk at h;split at h
 ·rename_i id M
  obtain ⟨ek,_⟩:=z7 n;rw [yb] at h;obtain ⟨es,C,rfl⟩:=h;have A:=zsG C;obtain ⟨_,_,zX,clock,y,⟨es',f,B,hm⟩,_,_⟩:=N.ob id _ A;simp only [zh,zF] at D;have ex:=D.2;rw [← zpX B f]
  cases H : zhb M es' with
  | none =>
    have m:=zeW (i:=0) hm H;cases ok
    ·refine ⟨z,c z (fun _ => rfl) ?_,zge hzero⟩
     rw [ex,ek];simp [Instr.lookup,run_underlying l,MapKept.run_getObj_map y,run_checkKey (P:=P) (w:=w) d,Instr.findKey,run_underlying d,m,zco (w:=w) s p]
    ·refine ⟨.tuple #[z,.bool false],c _ (fun _ => rfl) ?_,pair (zge hzero)⟩
     rw [ex,ek];simp [Instr.lookup,run_underlying l,MapKept.run_getObj_map y,run_checkKey (P:=P) (w:=w) d,Instr.findKey,run_underlying d,m,zco (w:=w) s p]
  | some v0 =>
    obtain ⟨j,e,m,_,_,G,_⟩:=zeY (i:=0) hm H;cases ok
    ·refine ⟨e.val,c _ (fun _ => rfl) ?_,G⟩
     rw [ex,ek];simp [Instr.lookup,run_underlying l,MapKept.run_getObj_map y,run_checkKey (P:=P) (w:=w) d,Instr.findKey,run_underlying d,m]
    ·refine ⟨.tuple #[e.val,.bool true],c _ (fun _ => rfl) ?_,pair G⟩
     rw [ex,ek];simp [Instr.lookup,run_underlying l,MapKept.run_getObj_map y,run_checkKey (P:=P) (w:=w) d,Instr.findKey,run_underlying d,m]
 ·obtain ⟨ek,_⟩:=z7 n
  obtain ⟨ex,_⟩:=z7 D;injection h with h;subst h;cases ok
  ·refine ⟨z,c z (fun _ => rfl) ?_,zge hzero⟩
   rw [ex,ek];simp [Instr.lookup,run_underlying l,run_checkKey (P:=P) (w:=w) d,Instr.findKey,run_underlying d,Instr.findNow,zco (w:=w) s p]
  ·refine ⟨.tuple #[z,.bool false],c _ (fun _ => rfl) ?_,pair (zge hzero)⟩
   rw [ex,ek];simp [Instr.lookup,run_underlying l,run_checkKey (P:=P) (w:=w) d,Instr.findKey,run_underlying d,Instr.findNow,zco (w:=w) s p]
 ·cases h
theorem zDZ (O : Rel g w r.st) (L : Low r.base r.lim r.st) (F : Fr κ loc nt g w r a) {t key elem : TypeId} {x k y : Operand} (l : o.op = .mapUpdate t x k y ∨ o.op = .insert t x k y) (hd : okD κ nt o.dst d = true) (D : d = .no) (W : P.underlying t = some (.map key elem)) (G : P.underlying key = some (.int .i64))
  {vx Y c : V} (hx : zh g w r.st vx (a.eval x)) (M : zh g w r.st Y (a.eval k)) (U : zh g w r.st c (a.eval y)) {r1 : R} (h : amu r c vx Y = some r1) (Z : zrj κ (zbp o.dst d :: loc) nt g w r (r1.put d vun) (a.put o.dst) next) : o.wp P a w next Q:=by
 unfold amu at h;split at h
 ·rename_i id n
  obtain ⟨ek,_⟩:=z7 M
  ·rw [yb] at h
   obtain ⟨es,h1,rfl⟩:=h;have p:=zsG h1;obtain ⟨_,_,zX,clock,z,⟨es',m,q,hm⟩,B,s⟩:=O.ob id _ p;simp only [zh,zF] at hx;have ex:=hx.2;have C:=zpL (k:=n) (v:=c) q m;have f : Low r.base r.lim (r.setOb id (.mp (zgq n c es))).st:=L.set
   cases J : zhb n es' with
   | none =>
     have I:=zeW (i:=0) hm J
     obtain ⟨H,S⟩:=map_set (clock':=clock + 1) (es':=zgq n c es) (ents':=zX.push { key:=.int .i64 n,val:=a.eval y,born:=clock }) O p z fun H => by
      rw [Array.toList_push];refine ⟨⟨_,C,zdW q,ztL hm J H rfl (H.zh _ _ U)⟩,?_,?_⟩
      ·rw [yn]
       refine yh.2 ⟨B,by simp,fun a ha b X => ?_⟩;simp at X;subst X;obtain ⟨e,he,rfl⟩:=yg.1 ha;have:=s e he;omega
      ·intro e he
       rcases List.mem_append.1 he with he | he
       ·have:=s e he
        omega
       ·simp at he
        subst he;simp
     refine ztW (r1:=r.setOb id (.mp (zgq n c es))) F hd D H S f rfl rfl ?_ Z;rcases l with l | l <;> (unfold execOp; simp only [l,ex,ek]; simp [Instr.mapUpdate,run_underlying W,MapKept.run_getObj_map z,run_checkKey (P:=P) (w:=w) G,Instr.findKey,run_underlying G,I,MapKept.run_setObj_map _ z])
   | some v0 =>
     obtain ⟨j,e,I,hj,A,_,E⟩:=zeY (i:=0) hm J
     obtain ⟨H,S⟩:=map_set (clock':=clock) (es':=zgq n c es) (ents':=zX.modify j fun e => { e with key:=.int .i64 n,val:=a.eval y }) O p z fun H => by
      rw [Array.toList_modify];refine ⟨⟨_,C,zdW q,E H (H.zh _ _ U)⟩,?_,?_⟩
      ·have e1 : ((zX.toList.modify j fun e => { e with key:=.int .i64 n,val:=a.eval y }).map (·.born)) = zX.toList.map (·.born):=by
        refine List.ext_getElem? fun i => ?_;rw [yi,yi,yf];cases zX.toList[i]? <;> simp;split <;> rfl
       rw [e1];exact B
      ·intro e he
       obtain ⟨i,u⟩:=List.mem_iff_getElem?.1 he;rw [yf] at u
       cases N : zX.toList[i]? with
       | none => rw [N] at u; simp at u
       | some e0 =>
         have:=s e0 (yd N);rw [N] at u;simp at u;rw [← u];split <;> exact this
     refine ztW (r1:=r.setOb id (.mp (zgq n c es))) F hd D H S f rfl rfl ?_ Z;have K : zX[j]? = some e:=(by simpa using hj);rcases l with l | l <;> (unfold execOp; simp only [l,ex,ek]; simp [Instr.mapUpdate,run_underlying W,MapKept.run_getObj_map z,run_checkKey (P:=P) (w:=w) G,Instr.findKey,run_underlying G,I,K,A,Instr.keyThatStays,Instr.sameBits,MapKept.run_setObj_map _ z])
 ·cases h
def znT (xs ys : Array Value) (i : Nat) : Bool:=match xs[i]?,ys[i]? with
 | some (.int _ a),some (.int _ b) => a == b
 | _,_ => false
def zsW (xs ys : Array Value) (i : Nat) : Prop:=∃ k a b,xs[i]? = some (.int k a) ∧ ys[i]? = some (.int k b)
def zmj (P : Program) (t : TypeId) : Bool:=match P.underlying t with
 | some (.int _) => true
 | _ => false
theorem zkF {t : TypeId} (h : zmj P t = true) : ∃ k,P.underlying t = some (.int k):=by
 unfold zmj at h;split at h
 ·exact ⟨_,by assumption⟩
 ·cases h
theorem zis {t : TypeId} (h : zmj P t = true) {xs : Array Value} {i : Nat} {v : Value} (b : xs[i]? = some v) : (part t xs i).run P w = .ok v w:=by
 obtain ⟨k,c⟩:=zkF h;have a : zlM P t = some false:=by unfold zlM; rw [c]; rfl
 unfold part;simp only [Sem.run_bind,zlh (w:=w) a,Result.andThen_ok,Bool.false_eq_true,if_false,b];rfl
theorem zpS {e : TypeId} (he : zmj P e = true) (d : Nat) (xs ys : Array Value) : ∀ (l : List Nat),(∀ i ∈ l,zsW xs ys i) → (Op.eqItems (d + 1) e 1 xs ys l).run P w = .ok (l.all (znT xs ys)) w
 | [],_ => by simp [Op.eqItems]
 | i :: l,h => by
   obtain ⟨k,a,b,f,g⟩:=h i (by simp);obtain ⟨o,c⟩:=zkF he;have q:=zpS he d xs ys l fun j p => h j (yc _ p);simp only [Op.eqItems,Nat.mul_one,Sem.run_bind,zis he f,zis he g,Result.andThen_ok,run_equalIn_int w d e k o a b c,yj];have m : znT xs ys i = (a == b):=(by unfold znT; rw [f,g]);rw [m]
   cases n : (a == b) with
   | false => simp
   | true => simpa using q
theorem zoZ (d : Nat) (xs ys : Array Value) : ∀ (fs : List Field), (∀ f ∈ fs, f.name ≠ "_" ∧ zmj P f.type = true ∧ zsW xs ys f.offset) → (Op.eqFields (d + 1) xs ys fs).run P w = .ok ((fs.map (·.offset)).all (znT xs ys)) w
 | [],_ => by simp [Op.eqFields]
 | f :: fs,h => by
   obtain ⟨hn,he,k,a,b,h1,h2⟩:=h f (by simp)
   obtain ⟨k',hk'⟩:=zkF he
   have ih:=zoZ d xs ys fs fun j hj => h j (yc _ hj)
   simp only [Op.eqFields,if_pos hn,Sem.run_bind,zis he h1,zis he h2,Result.andThen_ok,run_equalIn_int w d f.type k k' a b hk',ye,yj]
   have hv : znT xs ys f.offset = (a == b):=by unfold znT; rw [h1,h2]
   rw [hv]
   cases hab : (a == b) with
   | false => simp
   | true => simpa using ih
def zxI (P : Program) (t : TypeId) : Option Nat:=match P.underlying t with
 | some (.array n e) => if zmj P e && (P.cellsOf e == 1) && (P.info? e).isSome then some n else none
 | some (.struct fs) => if !P.stoodInHeld t && fs.toList.all (fun f => decide (f.name ≠ "_") && zmj P f.type) && (fs.toList.map (·.offset) == yo fs.toList.length) && (P.fieldsOf t).toList.length == fs.toList.length then some fs.toList.length else none
 | _ => none
theorem zDD {t : TypeId} {n : Nat} (h : zxI P t = some n) {xs ys : Array Value} (o : ∀ i,i < n → zsW xs ys i) : (Op.equalIn 10000 t (.agg xs) (.agg ys)).run P w = .ok ((yo n).all (znT xs ys)) w:=by
 unfold zxI at h;split at h
 ·rename_i r e hu
  split at h
  ·rename_i b
   injection h with h;subst h;simp only [ya,beq_iff_eq] at b;obtain ⟨⟨g,k⟩,c⟩:=b;obtain ⟨i,q⟩:=Option.isSome_iff_exists.1 c;rw [run_equalIn_array w 9999 xs ys hu q,k];exact zpS g 9998 xs ys _ fun j p => o j (by simpa using p)
  ·cases h
 ·rename_i fs hu
  split at h
  ·rename_i b
   injection h with h;subst h;simp only [ya,Bool.not_eq_true',beq_iff_eq] at b;obtain ⟨⟨⟨g,k⟩,c⟩,s⟩:=b;have l : P.fieldsOf t = fs:=(by simp [Program.fieldsOf,hu]);rw [run_equalIn_struct w 9999 t xs ys (by rw [l]; exact hu) g,l];rw [zoZ 9998 xs ys fs.toList fun f a => ?_,c];have d:=List.all_eq_true.1 k f a;simp only [ya,decide_eq_true_eq] at d;have m : f.offset ∈ fs.toList.map (·.offset):=yg.2 ⟨f,a,rfl⟩;rw [c] at m;exact ⟨d.1,d.2,o _ (by simpa using m)⟩
  ·cases h
 ·cases h
theorem zoP {σ : zd} : ∀ {cs ds : List C} {us vs : List Value} {b : Bool},zkw cs ds = some b → zA g w σ cs us → zA g w σ ds vs → us.length = cs.length ∧ vs.length = cs.length ∧ (∀ i,i < cs.length → zsW us.toArray vs.toArray i) ∧ b = (yo cs.length).all (znT us.toArray vs.toArray)
 | [],[],us,vs,b,h,hu,hv => by
   have e1 : us = []:=(by simpa only [zA] using hu);have e2 : vs = []:=(by simpa only [zA] using hv);subst e1 e2;simp only [zkw,Option.some.injEq] at h;subst h;exact ⟨rfl,rfl,fun i q => by simp at q,by simp⟩
 | c :: cs,d :: ds,us,vs,b,h,hu,hv => by
   unfold zkw at h;split at h
   ·rename_i heq _; cases heq
   ·rename_i k a xs H o ys m l
    injection m with e1 e2;injection l with e3 e4;subst e1 e2 e3 e4;split at h
    ·rename_i x
     subst x;rw [yb] at h;obtain ⟨b1,G,s⟩:=h;simp only [zA] at hu hv;obtain ⟨u,us',rfl,n,p⟩:=hu;obtain ⟨v,e,rfl,j,r⟩:=hv;obtain ⟨A,z,E,D⟩:=zoP G p r;simp only [zF,rep] at n j;obtain ⟨rfl,_⟩:=n;obtain ⟨rfl,_⟩:=j;have f : ∀ i,znT (Value.int k a :: us').toArray (Value.int k o :: e).toArray (i + 1) = znT us'.toArray e.toArray i:=fun i => by simp [znT]
     refine ⟨by simp [A],by simp [z],fun i q => ?_,?_⟩
     ·cases i with
      | zero => exact ⟨k,a,o,by simp,by simp⟩
      | succ i =>
        obtain ⟨y,a2,b2,r1,t⟩:=E i (by simpa using q);exact ⟨y,a2,b2,by simpa using r1,by simpa using t⟩
     ·rw [← s,D,List.length_cons,List.range_succ_eq_map,yj,List.all_map]
      have B : znT (Value.int k a :: us').toArray (Value.int k o :: e).toArray 0 = decide (a = o):=(by simp [znT]; rfl);rw [B]
      congr 2
      funext i
      exact (f i).symm
    ·cases h
   ·cases h
 | [],d :: ds,us,vs,b,h,_,_ => by simp [zkw] at h
 | c :: cs,[],us,vs,b,h,_,_ => by
   unfold zkw at h;split at h <;> simp_all
theorem zBW {op : BinOp} {t G : TypeId} {x y : Operand} {neg : Bool} {n : Nat} (q : o.op = .binOp op t x y G) (l : (op = .eql ∧ neg = false) ∨ (op = .neq ∧ neg = true)) (C : zxI P t = some n) (D : P.eqGuardType P.depth t = false)
  {z p v : V} (s : zh g w r.st z (a.eval x)) (m : zh g w r.st p (a.eval y)) (h : zIy n neg z p = some v) :
  ∃ u,(execOp a.eval o).run P w = .ok (.value u) w ∧ zh g w r.st v u:=by
 unfold zIy at h;split at h
 ·rename_i cs ds
  split at h
  ·rename_i E
   rw [yb] at h;obtain ⟨b,H,I⟩:=h;subst I;simp only [zh] at s m;obtain ⟨us,e,k⟩:=s;obtain ⟨vs,i,j⟩:=m;obtain ⟨K,J,B,A⟩:=zoP H k j;rw [E] at B A;have d:=zDD (w:=w) C (xs:=us) (ys:=vs) (by simpa using B);have c:=run_eqGuard_agg (P:=P) w op t x y us vs D;have f : b = (yo n).all (znT us vs):=(by simpa using A);rcases l with ⟨rfl,rfl⟩ | ⟨rfl,rfl⟩
   ·refine ⟨.bool b,?_,zae (v:=.bool b) rfl⟩
    unfold execOp;simp only [q,e,i];simp [c,run_eql_struct,d,f]
   ·refine ⟨.bool (!b),?_,zae (v:=.bool (!b)) rfl⟩
    unfold execOp;simp only [q,e,i];simp [c,run_neq_struct,d,f]
  ·cases h
 ·cases h
theorem zCn {op : BinOp} {t l : TypeId} {x y : Operand} {neg : Bool} (e : o.op = .binOp op t x y l) (b : (op = .eql ∧ neg = false) ∨ (op = .neq ∧ neg = true)) (j : P.underlying t = some .bool)
  {f d v : V} (k : zh g w r.st f (a.eval x)) (i : zh g w r.st d (a.eval y)) (h : zIt neg f d = some v) :
  ∃ u,(execOp a.eval o).run P w = .ok (.value u) w ∧ zh g w r.st v u:=by
 unfold zIt at h;split at h
 ·rename_i p q
  obtain ⟨ex,_⟩:=z7 k;obtain ⟨ey,_⟩:=z7 i;injection h with h;subst h;have c:=run_equal_bool (P:=P) w t p q j;rcases b with ⟨rfl,rfl⟩ | ⟨rfl,rfl⟩
  ·refine ⟨.bool (p == q),?_,zae (v:=.bool (p == q)) rfl⟩
   unfold execOp;simp only [e,ex,ey];simp [eqGuard,binOp,c]
  ·refine ⟨.bool (!(p == q)),?_,zae (v:=.bool (!(p == q))) rfl⟩
   unfold execOp;simp only [e,ex,ey];simp [eqGuard,binOp,c]
 ·cases h
end
def Ow.cut (n : Nat) : Ow → Ow
 | .no => .no
 | .ob id => if id < n then .ob id else .no
 | .tk t k => if t < n then .tk t k else .no
theorem Ow.cut_cut {n m : Nat} (h : n ≤ m) (o : Ow) (a : o.cut n = o) : o.cut m = o:=by
 cases o with
 | no => rfl
 | ob id =>
   simp only [Ow.cut] at a ⊢;split at a
   ·rw [if_pos (by omega)]
   ·cases a
 | tk t k =>
   simp only [Ow.cut] at a ⊢;split at a
   ·rw [if_pos (by omega)]
   ·cases a
theorem Ow.cut_idem (n : Nat) (o : Ow) : (o.cut n).cut n = o.cut n:=by
 cases o with
 | no => rfl
 | ob id => by_cases h : id < n <;> simp [Ow.cut,h]
 | tk t k => by_cases h : t < n <;> simp [Ow.cut,h]
def G.drop (g : G) (n : Nat) (w : World) : G :=
 { g with
   ow:=fun b => (g.ow b).cut n
   N:=fun b o => g.N b o ∨ (b < w.heap.size ∧ ∃ id,n ≤ id ∧ g.ow b = .ob id) }
def Clean (g : G) (n : Nat) : Prop:=∀ b,(g.ow b).cut n = g.ow b
section
variable {g : G} {w : World} {σ : zd} {n : Nat}
theorem zjx {α : Type} {l : List α} {i n : Nat} (h : i < n) : (l.take n)[i]? = l[i]?:=by rw [List.getElem?_take,if_pos h]
theorem zof {id : Nat} (h : id < n) : shapeOf (σ.take n) id = shapeOf σ id:=by unfold shapeOf; rw [zjx h]
theorem zAO {t k : Nat} (h : t < n) : zow (σ.take n) t k = zow σ t k:=by unfold zow; rw [zjx h]
theorem zxJ {t : Nat} (h : t < n) : zph (σ.take n) t = zph σ t:=by unfold zph; rw [zjx h]
theorem zht : zhV w w g.N (g.drop n w).N:=fun _ _ h => ⟨.inl h,rfl⟩
mutual
theorem zqN : ∀ (c : C) (u : Value),zF g w σ c u → c.lt n = true → zF (g.drop n w) w (σ.take n) c u
 | .f x,u,h,_ => by
   simp only [zF] at h ⊢;exact zc8 zht x u h
 | .ap t k xs,u,h,hl => by
   have d : t < n:=(by simpa [C.lt] using hl);simp only [zF] at h ⊢;obtain ⟨e,m,j,l,r,sz,q,p⟩:=h;exact ⟨zc8 zht _ u e,m,by rw [zAO d]; exact j,l,r,sz,by rw [zxJ d]; exact q,p⟩
 | .ptr id ver i off,u,h,hl => by
   have d : id < n:=(by simpa [C.lt] using hl);simp only [zF] at h ⊢;rw [zof d];exact h
 | .fp cs off,u,h,_ => by
   simp only [zF] at h ⊢;obtain ⟨b,o,e,j⟩:=h;exact ⟨b,o,e,zfL zht cs b o j⟩
 | .own id ver lo m,u,h,hl => by
   have d : id < n:=(by simpa [C.lt] using hl);simp only [zF] at h ⊢;rw [zof d];exact h
 | .map id,u,h,hl => by
   have d : id < n:=(by simpa [C.lt] using hl);simp only [zF] at h ⊢;rw [zjx d];exact h
 | .fn f a b,u,h,hl => by
   simp only [C.lt,ya] at hl;simp only [zF] at h ⊢;obtain ⟨fs,cs,e,j,l⟩:=h;exact ⟨fs,cs,e,zlJ a _ j hl.1,zlJ b _ l hl.2⟩
 | .un,_,_,_ => by simp only [zF]
theorem zlJ : ∀ (cs : List C) (us : List Value),zA g w σ cs us → C.lts n cs = true → zA (g.drop n w) w (σ.take n) cs us
 | [],us,h,_ => by simpa only [zA] using h
 | c :: cs,us,h,hl => by
   simp only [C.lts,ya] at hl;simp only [zA] at h ⊢;obtain ⟨v,vs,b,d,a⟩:=h;exact ⟨v,vs,b,zqN c v d hl.1,zlJ cs vs a hl.2⟩
end
mutual
theorem zkD : ∀ (c : V) (u : Value),zh g w σ c u → c.lt n = true → zh (g.drop n w) w (σ.take n) c u
 | .one c,u,h,hl => by
   simp only [V.lt] at hl;simp only [zh] at h ⊢;exact zqN c u h hl
 | .agg cs,u,h,hl => by
   simp only [V.lt] at hl;simp only [zh] at h ⊢;obtain ⟨us,a,b⟩:=h;exact ⟨us,a,zlJ cs _ b hl⟩
 | .tup vs,u,h,hl => by
   simp only [V.lt] at hl;simp only [zh] at h ⊢;obtain ⟨us,a,b⟩:=h;exact ⟨us,a,zrD vs _ b hl⟩
theorem zrD : ∀ (vs : List V) (us : List Value),zO g w σ vs us → V.lts n vs = true → zO (g.drop n w) w (σ.take n) vs us
 | [],us,h,_ => by simpa only [zO] using h
 | c :: cs,us,h,hl => by
   simp only [V.lts,ya] at hl;simp only [zO] at h ⊢;obtain ⟨v,vs,b,d,a⟩:=h;exact ⟨v,vs,b,zkD c v d hl.1,zrD cs vs a hl.2⟩
end
theorem zG9 {os : List Ob} (h : Obs.lt n os = true) : ∀ {i : Nat} {o : Ob},os[i]? = some o → o.lt n = true:=by
 induction os with
 | nil => intro i o h; simp at h
 | cons x xs ih =>
   simp only [Obs.lt,ya] at h;intro i o a
   cases i with
   | zero => simp at a; subst a; exact h.1
   | succ i => exact ih h.2 (by simpa using a)
theorem zuj : ∀ {es : List (Int × V)} {zX : List MapEntry},zp8 g w σ es zX → C.ltm n es = true → zp8 (g.drop n w) w (σ.take n) es zX
 | [],_,h,_ => h
 | x :: xs,_,h,hl => by
   simp only [C.ltm,ya] at hl;obtain ⟨e,rest,b,d,a,c⟩:=h;exact ⟨e,rest,b,d,zkD _ _ a hl.1,zuj c hl.2⟩
theorem zww : ∀ {es : List (Int × V)},C.ltm n es = true ↔ ∀ e ∈ es,e.2.lt n = true
 | [] => by simp [C.ltm]
 | e :: es => by simp [C.ltm,zww (es:=es)]
theorem zzA {es : List (Int × V)} {zX : List MapEntry} {clock : Nat} (h : zmq g w σ es zX clock) (a : C.ltm n es = true) : zmq (g.drop n w) w (σ.take n) es zX clock:=by
 have:=zpr (g':=g.drop n w) (w':=w) (σ':=σ.take n) h id (fun _ => rfl) (fun es' b h => by
  rw [yk]
  exact zuj h (zww.2 fun e he => zww.1 a e (b.mem_iff.1 he)))
 rwa [yk] at this
theorem zx4 (R : Rel g w σ) (L : Obs.lt n (σ.take n) = true) : Rel (g.drop n w) w (σ.take n):=by
 refine ⟨fun b o h => h.elim (R.nb b o) fun h => h.1,fun id o A => ?_⟩
 have d : id < n:=by
  have:=zb A;rw [yl] at this;omega
 have l:=zG9 L A;rw [zjx d] at A;have p:=R.ob id o A;have v : ∀ b i,g.ow b = .ob i → i < n → (g.drop n w).ow b = .ob i:=fun b i h s => by simp [G.drop,Ow.cut,h,s]
 have a : ∀ b i,g.ow b = .ob i → i < n → (∀ o,¬ g.N b o) → ∀ o,¬ (g.drop n w).N b o:=fun b i h s J o a => by
  rcases a with a | ⟨_,j,O,a⟩
  ·exact J o a
  ·rw [h] at a; injection a with a; omega
 cases o with
 | cells ver sz es =>
   intro B;obtain ⟨q,y,arr,t,x,r,z⟩:=p B;refine ⟨v _ _ q d,a _ _ q d y,arr,t,x,r,fun i e s => ⟨(z i e s).1,fun j c C => ?_⟩⟩;obtain ⟨u,M,K,E⟩:=(z i e s).2 j c C;simp only [Ob.lt] at l;exact ⟨u,M,zqN c u K (zCo.1 (zxZ.1 l e (yd s)) c (yd C)),E⟩
 | mp es =>
   obtain ⟨q,y,zX,clock,x,r⟩:=p;exact ⟨v _ _ q d,a _ _ q d y,zX,clock,x,zzA r (by simpa [Ob.lt] using l)⟩
 | tok sz fr =>
   intro k m hm;rcases p k m hm with h | ⟨b,o,c,arr,t,q,y,x,r,z,H,D⟩
   ·exact .inl h
   ·refine .inr ⟨b,o,c,arr,t,q,y,x,by simp [G.drop,Ow.cut,r,d],z,H,fun I f => ?_⟩
    rcases f with f | ⟨_,j,_,f⟩
    ·exact D I f
    ·rw [r] at f; cases f
theorem zxG {g0 : G} {w0 : World} {σ0 : zd} (H : Ext g0 w0 σ0 g w σ) (i : Clean g0 σ0.length) (j : σ0.length ≤ n) : Ext g0 w0 σ0 (g.drop n w) w (σ.take n) where
 os:=H.os
 tape:=H.tape
 output:=H.output
 size:=H.size
 keeps:=H.keeps.trans zht
 len:=by have:=H.len; rw [yl]; omega
 shape:=fun id e sz len h => by
  have a : id < n:=by obtain ⟨es,c,_⟩:=za9 h; have:=zb c; omega
  rw [zof a];exact H.shape id e sz len h
 map:=fun id es h => by
  have a : id < n:=by have:=zb h; omega
  rw [zjx a];exact H.map id es h
 tok:=fun t k m h => by
  have a : t < n:=by obtain ⟨_,_,c,_⟩:=zdR h; have:=zb c; omega
  rw [zAO a];exact H.tok t k m h
 tsz:=fun t sz h => by
  have a : t < n:=by obtain ⟨_,c⟩:=zfS h; have:=zb c; omega
  rw [zxJ a];exact H.tsz t sz h
 ow:=fun b d => by
  show (g.ow b).cut n = _
  rw [H.ow b d];exact Ow.cut_cut j _ (i b)
 new:=fun b o h d f => by
  rcases h with h | ⟨_,id,_,h⟩
  ·exact H.new b o h d f
  ·rw [H.ow b d,f] at h; cases h
 frame:=H.frame
def G.clean (g : G) (n : Nat) : G :=
 { g with ow:=fun b => (g.ow b).cut n }
theorem zgs (g : G) (n : Nat) : Clean (g.clean n) n:=fun b => Ow.cut_idem n _
mutual
theorem zp7 {g' : G} (e : g'.ρ = g.ρ) (j : g'.tv = g.tv) (d : g'.N = g.N) : ∀ (c : C) (u : Value),zF g w σ c u → zF g' w σ c u
 | .f x,u,h => by simp only [zF] at h ⊢; rw [d]; exact h
 | .ap t k xs,u,h => by simp only [zF] at h ⊢; rw [d,j]; exact h
 | .ptr id ver i off,u,h => by simp only [zF] at h ⊢; rw [e]; exact h
 | .fp cs off,u,h => by simp only [zF] at h ⊢; rw [d]; exact h
 | .own id ver lo m,u,h => by simp only [zF] at h ⊢; rw [e]; exact h
 | .map id,u,h => by simp only [zF] at h ⊢; rw [e]; exact h
 | .fn f a b,u,h => by
   simp only [zF] at h ⊢;obtain ⟨fs,cs,n,l,o⟩:=h;exact ⟨fs,cs,n,zlB e j d a _ l,zlB e j d b _ o⟩
 | .un,_,_ => by simp only [zF]
theorem zlB {g' : G} (b : g'.ρ = g.ρ) (d : g'.tv = g.tv) (a : g'.N = g.N) : ∀ (cs : List C) (us : List Value),zA g w σ cs us → zA g' w σ cs us
 | [],us,h => by simpa only [zA] using h
 | c :: cs,us,h => by
   simp only [zA] at h ⊢;obtain ⟨v,vs,f,e,i⟩:=h;exact ⟨v,vs,f,zp7 b d a c v e,zlB b d a cs vs i⟩
end
mutual
theorem zgf {g' : G} (e : g'.ρ = g.ρ) (f : g'.tv = g.tv) (d : g'.N = g.N) : ∀ (c : V) (u : Value),zh g w σ c u → zh g' w σ c u
 | .one c,u,h => by simp only [zh] at h ⊢; exact zp7 e f d c u h
 | .agg cs,u,h => by
   simp only [zh] at h ⊢;obtain ⟨us,b,a⟩:=h;exact ⟨us,b,zlB e f d cs _ a⟩
 | .tup vs,u,h => by
   simp only [zh] at h ⊢;obtain ⟨us,b,a⟩:=h;exact ⟨us,b,zse e f d vs _ a⟩
theorem zse {g' : G} (b : g'.ρ = g.ρ) (d : g'.tv = g.tv) (a : g'.N = g.N) : ∀ (vs : List V) (us : List Value),zO g w σ vs us → zO g' w σ vs us
 | [],us,h => by simpa only [zO] using h
 | c :: cs,us,h => by
   simp only [zO] at h ⊢;obtain ⟨v,vs,f,e,i⟩:=h;exact ⟨v,vs,f,zgf b d a c v e,zse b d a cs vs i⟩
end
theorem zuF {g' : G} (b : g'.ρ = g.ρ) (c : g'.tv = g.tv) (a : g'.N = g.N) : ∀ {es : List (Int × V)} {zX : List MapEntry},zp8 g w σ es zX → zp8 g' w σ es zX
 | [],_,h => h
 | x :: xs,_,h => by
   obtain ⟨e,rest,i,f,j,d⟩:=h;exact ⟨e,rest,i,f,zgf b c a _ _ j,zuF b c a d⟩
theorem zzd {g' : G} (b : g'.ρ = g.ρ) (c : g'.tv = g.tv) (a : g'.N = g.N) {es : List (Int × V)} {zX : List MapEntry} {clock : Nat} (h : zmq g w σ es zX clock) : zmq g' w σ es zX clock:=by
 have:=zpr (g':=g') (w':=w) (σ':=σ) h id (fun _ => rfl) (fun es' d h => by
  rw [yk]
  exact zuF b c a h)
 rwa [yk] at this
theorem zvl {g' : G} (R : Rel g w σ) (s : g'.ρ = g.ρ) (x : g'.tv = g.tv) (f : g'.N = g.N) (p : ∀ b id,id < σ.length → g.ow b = .ob id → g'.ow b = .ob id) (z : ∀ b t k,t < σ.length → g.ow b = .tk t k → g'.ow b = .tk t k) : Rel g' w σ:=by
 refine ⟨by rw [f]; exact R.nb,fun id o A => ?_⟩;have a:=zb A;have d:=R.ob id o A
 cases o with
 | cells ver sz es =>
   intro y;obtain ⟨r,q,arr,t,l,n,v⟩:=d y;rw [s,f];refine ⟨p _ _ a r,q,arr,t,l,n,fun i e B => ⟨(v i e B).1,fun j c C => ?_⟩⟩;obtain ⟨u,m1,m2,D⟩:=(v i e B).2 j c C;exact ⟨u,m1,zp7 s x f c u m2,D⟩
 | mp es =>
   obtain ⟨r,q,zX,clock,l,n⟩:=d;unfold zDd;rw [s,f];exact ⟨p _ _ a r,q,zX,clock,l,zzd s x f n⟩
 | tok sz fr =>
   intro k m hm;rw [x,f];rcases d k m hm with h | ⟨b,o,c,arr,t,r,q,l,n,v⟩
   ·exact .inl h
   ·exact .inr ⟨b,o,c,arr,t,r,q,l,z _ _ _ a n,v⟩
theorem zAk (R : Rel g w σ) : Rel (g.clean σ.length) w σ :=
 zvl R rfl rfl rfl (fun b id a h => by simp [G.clean,Ow.cut,h,a]) (fun b t k c h => by simp [G.clean,Ow.cut,h,c])
def G.under (g0 : G) (w0 : World) (g : G) : G:={ g with ow:=fun b => if b < w0.heap.size then g0.ow b else g.ow b }
theorem zqa {w' : World} {σ' : zd} {g' : G} (H : Ext (g.clean σ.length) w σ g' w' σ') : Ext g w σ (g.under w g') w' σ' where
 os:=H.os
 tape:=H.tape
 output:=H.output
 size:=H.size
 keeps:=H.keeps
 len:=H.len
 shape:=H.shape
 map:=H.map
 tok:=H.tok
 tsz:=H.tsz
 ow:=fun b a => by
  show (if b < w.heap.size then g.ow b else g'.ow b) = _
  rw [if_pos a]
 new:=fun b o h a c => H.new b o h a (by simp [G.clean,Ow.cut,c])
 frame:=fun b a c => H.frame b a (by simp [G.clean,Ow.cut,c])
theorem zqO {w' : World} {σ' : zd} {g' : G} (H : Ext (g.clean σ.length) w σ g' w' σ') (R : Rel g' w' σ') : Rel (g.under w g') w' σ':=by
 have key : ∀ b,b < w.heap.size → g'.ow b ≠ .no → g.ow b = g'.ow b:=fun b d a => by
  have:=H.ow b d;change g'.ow b = (g.ow b).cut σ.length at this;rw [this] at a ⊢
  cases h : g.ow b with
  | no => rfl
  | ob id =>
    rw [h] at a;simp only [Ow.cut] at a ⊢;split
    ·rfl
    ·rename_i c; rw [if_neg c] at a; exact absurd rfl a
  | tk t k =>
    rw [h] at a;simp only [Ow.cut] at a ⊢;split
    ·rfl
    ·rename_i c; rw [if_neg c] at a; exact absurd rfl a
 refine zvl (g':=g.under w g') R rfl rfl rfl (fun b id e h => ?_) (fun b t k f h => ?_)
 ·show (if b < w.heap.size then g.ow b else g'.ow b) = _
  split
  ·rw [key b (by assumption) (by rw [h]; simp),h]
  ·exact h
 ·show (if b < w.heap.size then g.ow b else g'.ow b) = _
  split
  ·rw [key b (by assumption) (by rw [h]; simp),h]
  ·exact h
end
end Go.A
