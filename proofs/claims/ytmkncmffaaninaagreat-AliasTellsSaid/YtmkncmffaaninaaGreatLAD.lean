/- A part of the proof of AliasTells. Conditions: none. -/
import Derived.Test.YtmkncmffaaninaaGreatLAC
import Derived.Laws.StructEq
import Derived.ChangeKeysEq
import Derived.Laws.BytesArg
import Derived.Laws.Strings
set_option linter.all false
open Bool renaming and_eq_true → ya,not_eq_true' → yv
open Option renaming map_eq_some_iff → yb,bind_eq_some_iff → ye,isSome_iff_exists → ym,map_some → yD
open List renaming getElem?_append_left → yc,eq_nil_of_length_eq_zero → yd,getElem?_map → yf,map_cons → yh,mem_cons_of_mem → yi,mem_of_getElem? → yj,getElem?_append_right → yk,mem_iff_getElem? → yn,all_cons → yo,getElem?_modify → yp,mem_map → yq,getElem?_take → yr,nodup_append → yu,map_id → yw,cons_append → yx,length_take → yy,nodup_cons → yz,map_append → yA,range → yB,mem_cons → yC,map_nil → yE
open Nat renaming add_sub_cancel → yg
open Array renaming getElem?_eq_some_iff → yl
namespace Go.A
section
variable {P : Program} {κ : List Tmp} {loc : List (Option Tmp)} {nt : Nat} {g : G} {w : World} {r r' : R} {a : Act} {o : Go.Oper} {d : D} {next : Act → World → Prop} {Q : Exit → Act → World → Prop}
theorem run_checkKey {b : Bool} {t : TypeId} {k : IntKind} {v : Value} (h : P.underlying t = some (.int k)) : (Instr.checkKey b 10000 t v).run P w = .ok () w:=by
 show (Instr.checkKey b (9999 + 1) t v).run P w = _
 unfold Instr.checkKey;rw [Sem.run_bind,run_underlying h];cases v <;> rfl
theorem ze4 {σ : zd} {k : Int} : ∀ {es : List (Int × V)} {z8 : List MapEntry} {i : Nat},zqR g w σ es z8 → zhM k es = none → Instr.findNow (.int .i64) (.int .i64 k) z8 i = some none
 | [],z8,i,hm,_ => by
   have : z8 = []:=hm;subst this;rfl
 | x :: es,z8,i,hm,h => by
   obtain ⟨e,rest,rfl,c,_,d⟩:=hm;simp only [zhM] at h;split at h
   ·cases h
   ·rename_i b
    unfold Instr.findNow;have a : ¬ (k = x.1):=fun e => b e.symm;simp only [c,Instr.sameNow,if_pos];have : (k == x.1) = false:=(by simpa using a);rw [this];exact ze4 d h
theorem zfp {σ : zd} {k : Int} : ∀ {es : List (Int × V)} {z8 : List MapEntry} {i : Nat} {v : V},zqR g w σ es z8 → zhM k es = some v →
  ∃ j e,Instr.findNow (.int .i64) (.int .i64 k) z8 i = some (some (i + j,e.val)) ∧ z8[j]? = some e ∧ e.key = .int .i64 k ∧ zh g w σ v e.val ∧
    ∀ {g' : G} {w' : World} {σ' : zd} {v' : V} {m : Value},Ext g w σ g' w' σ' → zh g' w' σ' v' m → zqR g' w' σ' (zg5 k v' es) (z8.modify j fun e => { e with key:=.int .i64 k,val:=m })
 | [],_,_,_,_,h => by simp [zhM] at h
 | x :: es,z8,i,v,hm,h => by
   obtain ⟨e,rest,rfl,b,f,l⟩:=hm;simp only [zhM] at h;split at h
   ·rename_i c
    injection h with h;subst h;refine ⟨0,e,?_,by simp,by rw [b,c],f,fun H d => ?_⟩
    ·unfold Instr.findNow
     simp [b,Instr.sameNow,c]
    ·simp only [zg5,if_pos c,List.modify_zero_cons]
     exact ⟨_,_,rfl,rfl,d,H.zqR l⟩
   ·rename_i a
    obtain ⟨j,r,s,n,p,o,q⟩:=zfp (i:=i + 1) l h;refine ⟨j + 1,r,?_,by simpa using n,p,o,fun H d => ?_⟩
    ·unfold Instr.findNow
     have : (k == x.1) = false:=by simpa using fun e : k = x.1 => a e.symm
     simp only [b,Instr.sameNow,if_pos,this];rw [s,show i + 1 + j = i + (j + 1) from by omega]
    ·simp only [zg5,if_neg a,List.modify_succ_cons]
     exact ⟨_,_,rfl,b,H.zh _ _ f,q H d⟩
theorem zuZ {σ : zd} {k : Int} : ∀ {es : List (Int × V)} {z8 : List MapEntry},zqR g w σ es z8 → zhM k es = none → ∀ {g' : G} {w' : World} {σ' : zd} {v' : V} {a : MapEntry},Ext g w σ g' w' σ' → a.key = .int .i64 k → zh g' w' σ' v' a.val → zqR g' w' σ' (zg5 k v' es) (z8 ++ [a])
 | [],z8,hm,_,_,_,_,_,a,H,hk,hv => by
   have : z8 = []:=hm;subst this;exact ⟨a,[],rfl,hk,hv,rfl⟩
 | x :: es,z8,hm,h,_,_,_,_,a,H,hk,hv => by
   obtain ⟨e,rest,rfl,c,f,d⟩:=hm;simp only [zhM] at h;split at h
   ·cases h
   ·rename_i b
    simp only [zg5,if_neg b];exact ⟨e,rest ++ [a],rfl,c,H.zh _ _ f,zuZ d h H hk hv⟩
theorem zl7 {k : Int} : ∀ {es : List (Int × V)},zhM k es = none ↔ ∀ e ∈ es,e.1 ≠ k
 | [] => by simp [zhM]
 | e :: es => by
   simp only [zhM];split
   ·rename_i h
    simp [h]
   ·rename_i h
    rw [zl7 (es:=es)];simp [h]
theorem zqM {k : Int} {v : V} : ∀ {es : List (Int × V)},(es.map (·.1)).Nodup → (zhM k es = some v ↔ (k,v) ∈ es)
 | [],_ => by simp [zhM]
 | e :: es,hn => by
   simp only [yh,yz] at hn;simp only [zhM];split
   ·rename_i h
    subst h;constructor
    ·intro h; injection h with h; subst h; simp
    ·intro h
     rcases yC.1 h with h | h
     ·rw [← h]
     ·exact absurd (yq.2 ⟨_,h,rfl⟩) hn.1
   ·rename_i h
    rw [zqM hn.2];constructor
    ·exact fun h => yi _ h
    ·intro a
     rcases yC.1 a with a | a
     ·exact absurd (by rw [← a]) h
     ·exact a
theorem zry {k : Int} {es es' : List (Int × V)} (b : (es'.map (·.1)).Nodup) (h : es'.Perm es) : zhM k es' = zhM k es:=by
 have a : (es.map (·.1)).Nodup:=(h.map _).nodup_iff.1 b
 cases c : zhM k es' with
 | none =>
   refine (zl7.2 fun e he => zl7.1 c e (h.mem_iff.2 he)).symm
 | some v => exact ((zqM a).2 (h.mem_iff.1 ((zqM b).1 c))).symm
theorem zbI {k : Int} {v : V} : ∀ {es : List (Int × V)},zhM k es = none → zg5 k v es = es ++ [(k,v)]
 | [],_ => rfl
 | e :: es,h => by
   simp only [zhM] at h;split at h
   ·cases h
   ·rename_i a
    simp only [zg5,if_neg a,zbI h,yx]
theorem zwA {k : Int} {v v0 : V} : ∀ {es : List (Int × V)},zhM k es = some v0 → (zg5 k v es).map (·.1) = es.map (·.1)
 | [],h => by simp [zhM] at h
 | e :: es,h => by
   simp only [zhM] at h;split at h
   ·rename_i b
    simp [zg5,b]
   ·rename_i a
    simp only [zg5,if_neg a,yh,zwA h]
theorem zgM {k : Int} {v v0 : V} : ∀ {es : List (Int × V)},(es.map (·.1)).Nodup → zhM k es = some v0 → ((k,v0) :: zg5 k v es).Perm ((k,v) :: es)
 | [],_,h => by simp [zhM] at h
 | e :: es,hn,h => by
   simp only [yh,yz] at hn;simp only [zhM] at h;split at h
   ·rename_i b
    injection h with h;simp only [zg5,if_pos b];have : e = (k,v0):=(by rw [← b,← h]);rw [this];exact List.Perm.swap _ _ _
   ·rename_i a
    simp only [zg5,if_neg a];exact (List.Perm.swap _ _ _).trans (((zgM hn.2 h).cons e).trans (List.Perm.swap _ _ _))
theorem zr7 {k : Int} {v : V} {es es' : List (Int × V)} (a : (es'.map (·.1)).Nodup) (h : es'.Perm es) : (zg5 k v es').Perm (zg5 k v es):=by
 have c : (es.map (·.1)).Nodup:=(h.map _).nodup_iff.1 a
 cases b : zhM k es' with
 | none =>
   rw [zbI b,zbI (by rw [← zry a h]; exact b)];exact h.append_right _
 | some v0 =>
   have d:=zgM (v:=v) a b;have e:=zgM (v:=v) c (by rw [← zry a h]; exact b);exact (List.perm_cons _).1 (d.trans ((h.cons _).trans e.symm))
theorem zen {k : Int} {v : V} {es : List (Int × V)} (f : (es.map (·.1)).Nodup) : ((zg5 k v es).map (·.1)).Nodup:=by
 cases c : zhM k es with
 | none =>
   rw [zbI c,yA];refine yu.2 ⟨f,by simp,fun a g b d => ?_⟩;simp at d;subst d;obtain ⟨e,he,rfl⟩:=yq.1 g;exact zl7.1 c e he
 | some v0 => rw [zwA c]; exact f
theorem zuC {σ : zd} {id : Nat} {es : List (Int × V)} (h : (σ[id]?).bind Ob.entries = some es) : σ[id]? = some (.mp es):=by
 rw [ye] at h;obtain ⟨c,b,a⟩:=h;unfold Ob.entries at a;split at a
 ·injection a with a; subst a; exact b
 ·cases a
theorem zFo (N : Rel g w r.st) {t key elem : TypeId} {x k : Operand} {ok : Bool} {z : Value} {i : TypeInfo} {zero : V} (K : o.op = .lookup t x k ok) (l : P.underlying t = some (.map key elem)) (d : P.underlying key = some (.int .i64)) (p : P.info? elem = some i) (s : i.zero = some z) (hzero : zr4 z zero = true)
  {I G v : V} (E : zh g w r.st I (a.eval x)) (m : zh g w r.st G (a.eval k)) (h : alk r.st zero ok I G = some v) :
  ∃ u,(execOp a.eval o).run P w = .ok (.value u) w ∧ zh g w r.st v u:=by
 have c : ∀ u,(∀ b,Instr.checkKey b 10000 key (a.eval k) = Instr.checkKey b 10000 key (a.eval k)) → (Instr.lookup t (a.eval x) (a.eval k) ok).run P w = .ok u w → (execOp a.eval o).run P w = .ok (.value u) w:=fun u _ L => by
  unfold execOp;simp only [K,Sem.run_bind,L,Result.andThen_ok,Sem.run_pure]
 have A : zh g w r.st (zk4 true) (.bool true):=zak rfl;have q : zh g w r.st (zk4 false) (.bool false):=zak rfl
 have pair : ∀ {v1 : V} {u1 : Value} {b : Bool},zh g w r.st v1 u1 → zh g w r.st (.tup [v1,zk4 b]) (.tuple #[u1,.bool b]):=fun {v1 u1 b} D => by
  simp only [zh];exact ⟨_,rfl,by simp only [zW]; exact ⟨_,_,rfl,D,_,_,rfl,zak rfl,rfl⟩⟩
 unfold alk at h;split at h
 ·rename_i id M
  obtain ⟨ek,_⟩:=zaf m;rw [yb] at h;obtain ⟨es,D,rfl⟩:=h;have C:=zuC D;obtain ⟨_,_,z8,clock,y,⟨es',f,B,hm⟩,_,_⟩:=N.ob id _ C;simp only [zh,zK] at E;have ex:=E.2;rw [← zry B f]
  cases H : zhM M es' with
  | none =>
    have n:=ze4 (i:=0) hm H;cases ok
    ·refine ⟨z,c z (fun _ => rfl) ?_,zgD hzero⟩
     rw [ex,ek];simp [Instr.lookup,run_underlying l,MapKept.run_getObj_map y,run_checkKey (P:=P) (w:=w) d,Instr.findKey,run_underlying d,n,zc8 (w:=w) p s]
    ·refine ⟨.tuple #[z,.bool false],c _ (fun _ => rfl) ?_,pair (zgD hzero)⟩
     rw [ex,ek];simp [Instr.lookup,run_underlying l,MapKept.run_getObj_map y,run_checkKey (P:=P) (w:=w) d,Instr.findKey,run_underlying d,n,zc8 (w:=w) p s]
  | some v0 =>
    obtain ⟨j,e,n,_,_,J,_⟩:=zfp (i:=0) hm H;cases ok
    ·refine ⟨e.val,c _ (fun _ => rfl) ?_,J⟩
     rw [ex,ek];simp [Instr.lookup,run_underlying l,MapKept.run_getObj_map y,run_checkKey (P:=P) (w:=w) d,Instr.findKey,run_underlying d,n]
    ·refine ⟨.tuple #[e.val,.bool true],c _ (fun _ => rfl) ?_,pair J⟩
     rw [ex,ek];simp [Instr.lookup,run_underlying l,MapKept.run_getObj_map y,run_checkKey (P:=P) (w:=w) d,Instr.findKey,run_underlying d,n]
 ·obtain ⟨ek,_⟩:=zaf m
  obtain ⟨ex,_⟩:=zaf E;injection h with h;subst h;cases ok
  ·refine ⟨z,c z (fun _ => rfl) ?_,zgD hzero⟩
   rw [ex,ek];simp [Instr.lookup,run_underlying l,run_checkKey (P:=P) (w:=w) d,Instr.findKey,run_underlying d,Instr.findNow,zc8 (w:=w) p s]
  ·refine ⟨.tuple #[z,.bool false],c _ (fun _ => rfl) ?_,pair (zgD hzero)⟩
   rw [ex,ek];simp [Instr.lookup,run_underlying l,run_checkKey (P:=P) (w:=w) d,Instr.findKey,run_underlying d,Instr.findNow,zc8 (w:=w) p s]
 ·cases h
theorem zG3 (M : Rel g w r.st) (L : Low r.base r.lim r.st) (F : Fr κ loc nt g w r a) {t key elem : TypeId} {x k y : Operand} (c : o.op = .mapUpdate t x k y ∨ o.op = .insert t x k y) (hd : okD κ nt o.dst d = true) (A : d = .no) (ht : P.underlying t = some (.map key elem)) (G : P.underlying key = some (.int .i64))
  {X U f : V} (hx : zh g w r.st X (a.eval x)) (O : zh g w r.st U (a.eval k)) (Y : zh g w r.st f (a.eval y)) {r1 : R} (h : amu r f X U = some r1) (Z : zsl κ (zbE o.dst d :: loc) nt g w r (r1.put d vun) (a.put o.dst) next) : o.wp P a w next Q:=by
 unfold amu at h;split at h
 ·rename_i id n
  obtain ⟨ek,_⟩:=zaf O
  ·rw [yb] at h
   obtain ⟨es,h1,rfl⟩:=h;have s:=zuC h1;obtain ⟨_,_,z8,clock,z,⟨es',p,q,hm⟩,B,m⟩:=M.ob id _ s;simp only [zh,zK] at hx;have ex:=hx.2;have D:=zr7 (k:=n) (v:=f) q p;have l : Low r.base r.lim (r.setOb id (.mp (zg5 n f es))).st:=L.set
   cases J : zhM n es' with
   | none =>
     have S:=ze4 (i:=0) hm J
     obtain ⟨H,K⟩:=map_set (clock':=clock + 1) (es':=zg5 n f es) (ents':=z8.push { key:=.int .i64 n,val:=a.eval y,born:=clock }) M s z fun H => by
      rw [Array.toList_push];refine ⟨⟨_,D,zen q,zuZ hm J H rfl (H.zh _ _ Y)⟩,?_,?_⟩
      ·rw [yA]
       refine yu.2 ⟨B,by simp,fun a ha b W => ?_⟩;simp at W;subst W;obtain ⟨e,he,rfl⟩:=yq.1 ha;have:=m e he;omega
      ·intro e he
       rcases List.mem_append.1 he with he | he
       ·have:=m e he
        omega
       ·simp at he
        subst he;simp
     refine zuu (r1:=r.setOb id (.mp (zg5 n f es))) F hd A H K l rfl rfl ?_ Z;rcases c with c | c <;> (unfold execOp; simp only [c,ex,ek]; simp [Instr.mapUpdate,run_underlying ht,MapKept.run_getObj_map z,run_checkKey (P:=P) (w:=w) G,Instr.findKey,run_underlying G,S,MapKept.run_setObj_map _ z])
   | some v0 =>
     obtain ⟨j,e,S,hj,E,_,C⟩:=zfp (i:=0) hm J
     obtain ⟨H,K⟩:=map_set (clock':=clock) (es':=zg5 n f es) (ents':=z8.modify j fun e => { e with key:=.int .i64 n,val:=a.eval y }) M s z fun H => by
      rw [Array.toList_modify];refine ⟨⟨_,D,zen q,C H (H.zh _ _ Y)⟩,?_,?_⟩
      ·have e1 : ((z8.toList.modify j fun e => { e with key:=.int .i64 n,val:=a.eval y }).map (·.born)) = z8.toList.map (·.born):=by
        refine List.ext_getElem? fun i => ?_;rw [yf,yf,yp];cases z8.toList[i]? <;> simp;split <;> rfl
       rw [e1];exact B
      ·intro e he
       obtain ⟨i,u⟩:=yn.1 he;rw [yp] at u
       cases N : z8.toList[i]? with
       | none => rw [N] at u; simp at u
       | some e0 =>
         have:=m e0 (yj N);rw [N] at u;simp at u;rw [← u];split <;> exact this
     refine zuu (r1:=r.setOb id (.mp (zg5 n f es))) F hd A H K l rfl rfl ?_ Z;have I : z8[j]? = some e:=(by simpa using hj);rcases c with c | c <;> (unfold execOp; simp only [c,ex,ek]; simp [Instr.mapUpdate,run_underlying ht,MapKept.run_getObj_map z,run_checkKey (P:=P) (w:=w) G,Instr.findKey,run_underlying G,S,I,E,Instr.keyThatStays,Instr.sameBits,MapKept.run_setObj_map _ z])
 ·cases h
def zoE (xs ys : Array Value) (i : Nat) : Bool:=match xs[i]?,ys[i]? with
 | some (.int _ a),some (.int _ b) => a == b
 | _,_ => false
def zuY (xs ys : Array Value) (i : Nat) : Prop:=∃ k a b,xs[i]? = some (.int k a) ∧ ys[i]? = some (.int k b)
def znl (P : Program) (t : TypeId) : Bool:=match P.underlying t with
 | some (.int _) => true
 | _ => false
theorem zlN {t : TypeId} (h : znl P t = true) : ∃ k,P.underlying t = some (.int k):=by
 unfold znl at h;split at h
 ·exact ⟨_,by assumption⟩
 ·cases h
theorem zi3 {t : TypeId} (h : znl P t = true) {xs : Array Value} {i : Nat} {v : Value} (a : xs[i]? = some v) : (part t xs i).run P w = .ok v w:=by
 obtain ⟨k,c⟩:=zlN h;have b : zmR P t = some false:=by unfold zmR; rw [c]; rfl
 unfold part;simp only [Sem.run_bind,zlp (w:=w) b,Result.andThen_ok,Bool.false_eq_true,if_false,a];rfl
theorem zsd {e : TypeId} (he : znl P e = true) (d : Nat) (xs ys : Array Value) : ∀ (l : List Nat),(∀ i ∈ l,zuY xs ys i) → (Op.eqItems (d + 1) e 1 xs ys l).run P w = .ok (l.all (zoE xs ys)) w
 | [],_ => by simp [Op.eqItems]
 | i :: l,h => by
   obtain ⟨k,a,b,f,g⟩:=h i (by simp);obtain ⟨q,c⟩:=zlN he;have p:=zsd he d xs ys l fun j n => h j (yi _ n);simp only [Op.eqItems,Nat.mul_one,Sem.run_bind,zi3 he f,zi3 he g,Result.andThen_ok,run_equalIn_int w d e k q a b c,yo];have m : zoE xs ys i = (a == b):=(by unfold zoE; rw [f,g]);rw [m]
   cases o : (a == b) with
   | false => simp
   | true => simpa using p
theorem zp7 (d : Nat) (xs ys : Array Value) : ∀ (fs : List Field), (∀ f ∈ fs, f.name ≠ "_" ∧ znl P f.type = true ∧ zuY xs ys f.offset) → (Op.eqFields (d + 1) xs ys fs).run P w = .ok ((fs.map (·.offset)).all (zoE xs ys)) w
 | [],_ => by simp [Op.eqFields]
 | f :: fs,h => by
   obtain ⟨hn,he,k,a,b,h1,h2⟩:=h f (by simp)
   obtain ⟨k',hk'⟩:=zlN he
   have ih:=zp7 d xs ys fs fun j hj => h j (yi _ hj)
   simp only [Op.eqFields,if_pos hn,Sem.run_bind,zi3 he h1,zi3 he h2,Result.andThen_ok,run_equalIn_int w d f.type k k' a b hk',yh,yo]
   have hv : zoE xs ys f.offset = (a == b):=by unfold zoE; rw [h1,h2]
   rw [hv]
   cases hab : (a == b) with
   | false => simp
   | true => simpa using ih
def zzv (P : Program) (t : TypeId) : Option Nat:=match P.underlying t with
 | some (.array n e) => if znl P e && (P.cellsOf e == 1) && (P.info? e).isSome then some n else none
 | some (.struct fs) => if !P.stoodInHeld t && fs.toList.all (fun f => decide (f.name ≠ "_") && znl P f.type) && (fs.toList.map (·.offset) == yB fs.toList.length) && (P.fieldsOf t).toList.length == fs.toList.length then some fs.toList.length else none
 | _ => none
theorem zF3 {t : TypeId} {n : Nat} (h : zzv P t = some n) {xs ys : Array Value} (l : ∀ i,i < n → zuY xs ys i) : (Op.equalIn 10000 t (.agg xs) (.agg ys)).run P w = .ok ((yB n).all (zoE xs ys)) w:=by
 unfold zzv at h;split at h
 ·rename_i r e hu
  split at h
  ·rename_i b
   injection h with h;subst h;simp only [ya,beq_iff_eq] at b;obtain ⟨⟨k,g⟩,c⟩:=b;obtain ⟨i,p⟩:=ym.1 c;rw [run_equalIn_array w 9999 xs ys hu p,g];exact zsd k 9998 xs ys _ fun j q => l j (by simpa using q)
  ·cases h
 ·rename_i fs hu
  split at h
  ·rename_i b
   injection h with h;subst h;simp only [ya,yv,beq_iff_eq] at b;obtain ⟨⟨⟨k,g⟩,c⟩,s⟩:=b;have o : P.fieldsOf t = fs:=(by simp [Program.fieldsOf,hu]);rw [run_equalIn_struct w 9999 t xs ys (by rw [o]; exact hu) k,o];rw [zp7 9998 xs ys fs.toList fun f a => ?_,c];have d:=List.all_eq_true.1 g f a;simp only [ya,decide_eq_true_eq] at d;have m : f.offset ∈ fs.toList.map (·.offset):=yq.2 ⟨f,a,rfl⟩;rw [c] at m;exact ⟨d.1,d.2,l _ (by simpa using m)⟩
  ·cases h
 ·cases h
theorem zp2 {σ : zd} : ∀ {cs ds : List C} {us vs : List Value} {b : Bool},zlR cs ds = some b → zC g w σ cs us → zC g w σ ds vs → us.length = cs.length ∧ vs.length = cs.length ∧ (∀ i,i < cs.length → zuY us.toArray vs.toArray i) ∧ b = (yB cs.length).all (zoE us.toArray vs.toArray)
 | [],[],us,vs,b,h,hu,hv => by
   have e1 : us = []:=(by simpa only [zC] using hu);have e2 : vs = []:=(by simpa only [zC] using hv);subst e1 e2;simp only [zlR,Option.some.injEq] at h;subst h;exact ⟨rfl,rfl,fun i p => by simp at p,by simp⟩
 | c :: cs,d :: ds,us,vs,b,h,hu,hv => by
   unfold zlR at h;split at h
   ·rename_i heq _; cases heq
   ·rename_i k a xs H o ys j l
    injection j with e1 e2;injection l with e3 e4;subst e1 e2 e3 e4;split at h
    ·rename_i A
     subst A;rw [yb] at h;obtain ⟨b1,E,z⟩:=h;simp only [zC] at hu hv;obtain ⟨u,us',rfl,m,q⟩:=hu;obtain ⟨v,e,rfl,n,r⟩:=hv;obtain ⟨B,y,D,s⟩:=zp2 E q r;simp only [zK,rep] at m n;obtain ⟨rfl,_⟩:=m;obtain ⟨rfl,_⟩:=n;have f : ∀ i,zoE (Value.int k a :: us').toArray (Value.int k o :: e).toArray (i + 1) = zoE us'.toArray e.toArray i:=fun i => by simp [zoE]
     refine ⟨by simp [B],by simp [y],fun i p => ?_,?_⟩
     ·cases i with
      | zero => exact ⟨k,a,o,by simp,by simp⟩
      | succ i =>
        obtain ⟨G,a2,b2,r1,t⟩:=D i (by simpa using p);exact ⟨G,a2,b2,by simpa using r1,by simpa using t⟩
     ·rw [← z,s,List.length_cons,List.range_succ_eq_map,yo,List.all_map]
      have x : zoE (Value.int k a :: us').toArray (Value.int k o :: e).toArray 0 = decide (a = o):=(by simp [zoE]; rfl);rw [x]
      congr 2
      funext i
      exact (f i).symm
    ·cases h
   ·cases h
 | [],d :: ds,us,vs,b,h,_,_ => by simp [zlR] at h
 | c :: cs,[],us,vs,b,h,_,_ => by
   unfold zlR at h;split at h <;> simp_all
theorem zEk {op : BinOp} {t C : TypeId} {x y : Operand} {neg : Bool} {n : Nat} (s : o.op = .binOp op t x y C) (l : (op = .eql ∧ neg = false) ∨ (op = .neq ∧ neg = true)) (H : zzv P t = some n) (D : P.eqGuardType P.depth t = false)
  {p z v : V} (B : zh g w r.st p (a.eval x)) (q : zh g w r.st z (a.eval y)) (h : zKr n neg p z = some v) :
  ∃ u,(execOp a.eval o).run P w = .ok (.value u) w ∧ zh g w r.st v u:=by
 unfold zKr at h;split at h
 ·rename_i cs ds
  split at h
  ·rename_i G
   rw [yb] at h;obtain ⟨b,I,E⟩:=h;subst E;simp only [zh] at B q;obtain ⟨us,e,k⟩:=B;obtain ⟨vs,i,j⟩:=q;obtain ⟨K,J,A,m⟩:=zp2 I k j;rw [G] at A m;have d:=zF3 (w:=w) H (xs:=us) (ys:=vs) (by simpa using A);have c:=run_eqGuard_agg (P:=P) w op t x y us vs D;have f : b = (yB n).all (zoE us vs):=(by simpa using m);rcases l with ⟨rfl,rfl⟩ | ⟨rfl,rfl⟩
   ·refine ⟨.bool b,?_,zak (v:=.bool b) rfl⟩
    unfold execOp;simp only [s,e,i];simp [c,run_eql_struct,d,f]
   ·refine ⟨.bool (!b),?_,zak (v:=.bool (!b)) rfl⟩
    unfold execOp;simp only [s,e,i];simp [c,run_neq_struct,d,f]
  ·cases h
 ·cases h
theorem zDM {op : BinOp} {t i : TypeId} {x y : Operand} {neg : Bool} (d : o.op = .binOp op t x y i) (b : (op = .eql ∧ neg = false) ∨ (op = .neq ∧ neg = true)) (k : P.underlying t = some .bool)
  {c e v : V} (l : zh g w r.st c (a.eval x)) (j : zh g w r.st e (a.eval y)) (h : zKC neg c e = some v) :
  ∃ u,(execOp a.eval o).run P w = .ok (.value u) w ∧ zh g w r.st v u:=by
 unfold zKC at h;split at h
 ·rename_i p q
  obtain ⟨ex,_⟩:=zaf l;obtain ⟨ey,_⟩:=zaf j;injection h with h;subst h;have f:=run_equal_bool (P:=P) w t p q k;rcases b with ⟨rfl,rfl⟩ | ⟨rfl,rfl⟩
  ·refine ⟨.bool (p == q),?_,zak (v:=.bool (p == q)) rfl⟩
   unfold execOp;simp only [d,ex,ey];simp [eqGuard,binOp,f]
  ·refine ⟨.bool (!(p == q)),?_,zak (v:=.bool (!(p == q))) rfl⟩
   unfold execOp;simp only [d,ex,ey];simp [eqGuard,binOp,f]
 ·cases h
end
def Ow.cut (n : Nat) : Ow → Ow
 | .no => .no
 | .ob id => if id < n then .ob id else .no
 | .tk t k => if t < n then .tk t k else .no
theorem Ow.cut_cut {n m : Nat} (h : n ≤ m) (o : Ow) (a : o.cut n = o) : o.cut m = o:=by
 cases o with
 | no => rfl
 | ob id =>
   simp only [Ow.cut] at a ⊢;split at a
   ·rw [if_pos (by omega)]
   ·cases a
 | tk t k =>
   simp only [Ow.cut] at a ⊢;split at a
   ·rw [if_pos (by omega)]
   ·cases a
theorem Ow.cut_idem (n : Nat) (o : Ow) : (o.cut n).cut n = o.cut n:=by
 cases o with
 | no => rfl
 | ob id => by_cases h : id < n <;> simp [Ow.cut,h]
 | tk t k => by_cases h : t < n <;> simp [Ow.cut,h]
def G.drop (g : G) (n : Nat) (w : World) : G :=
 { g with
   ow:=fun b => (g.ow b).cut n
   N:=fun b o => g.N b o ∨ (b < w.heap.size ∧ ∃ id,n ≤ id ∧ g.ow b = .ob id) }
def Clean (g : G) (n : Nat) : Prop:=∀ b,(g.ow b).cut n = g.ow b
section
variable {g : G} {w : World} {σ : zd} {n : Nat}
theorem zki {α : Type} {l : List α} {i n : Nat} (h : i < n) : (l.take n)[i]? = l[i]?:=by rw [yr,if_pos h]
theorem zpz {id : Nat} (h : id < n) : shapeOf (σ.take n) id = shapeOf σ id:=by unfold shapeOf; rw [zki h]
theorem zDr {t k : Nat} (h : t < n) : zpd (σ.take n) t k = zpd σ t k:=by unfold zpd; rw [zki h]
theorem zzf {t : Nat} (h : t < n) : zqm (σ.take n) t = zqm σ t:=by unfold zqm; rw [zki h]
theorem zig : ziE w w g.N (g.drop n w).N:=fun _ _ h => ⟨.inl h,rfl⟩
mutual
theorem zrX : ∀ (c : C) (u : Value),zK g w σ c u → c.lt n = true → zK (g.drop n w) w (σ.take n) c u
 | .f x,u,h,_ => by
   simp only [zK] at h ⊢;exact zdv zig x u h
 | .ap t k xs,u,h,hl => by
   have d : t < n:=(by simpa [C.lt] using hl);simp only [zK] at h ⊢;obtain ⟨e,m,j,l,r,sz,q,p⟩:=h;exact ⟨zdv zig _ u e,m,by rw [zDr d]; exact j,l,r,sz,by rw [zzf d]; exact q,p⟩
 | .ptr id ver i off,u,h,hl => by
   have d : id < n:=(by simpa [C.lt] using hl);simp only [zK] at h ⊢;rw [zpz d];exact h
 | .fp cs off,u,h,_ => by
   simp only [zK] at h ⊢;obtain ⟨b,o,e,j⟩:=h;exact ⟨b,o,e,zgi zig cs b o j⟩
 | .own id ver lo m,u,h,hl => by
   have d : id < n:=(by simpa [C.lt] using hl);simp only [zK] at h ⊢;rw [zpz d];exact h
 | .map id,u,h,hl => by
   have d : id < n:=(by simpa [C.lt] using hl);simp only [zK] at h ⊢;rw [zki d];exact h
 | .fn f a b,u,h,hl => by
   simp only [C.lt,ya] at hl;simp only [zK] at h ⊢;obtain ⟨fs,cs,e,j,l⟩:=h;exact ⟨fs,cs,e,zmx a _ j hl.1,zmx b _ l hl.2⟩
 | .un,_,_,_ => by simp only [zK]
theorem zmx : ∀ (cs : List C) (us : List Value),zC g w σ cs us → C.lts n cs = true → zC (g.drop n w) w (σ.take n) cs us
 | [],us,h,_ => by simpa only [zC] using h
 | c :: cs,us,h,hl => by
   simp only [C.lts,ya] at hl;simp only [zC] at h ⊢;obtain ⟨v,vs,a,d,b⟩:=h;exact ⟨v,vs,a,zrX c v d hl.1,zmx cs vs b hl.2⟩
end
mutual
theorem zlr : ∀ (c : V) (u : Value),zh g w σ c u → c.lt n = true → zh (g.drop n w) w (σ.take n) c u
 | .one c,u,h,hl => by
   simp only [V.lt] at hl;simp only [zh] at h ⊢;exact zrX c u h hl
 | .agg cs,u,h,hl => by
   simp only [V.lt] at hl;simp only [zh] at h ⊢;obtain ⟨us,a,b⟩:=h;exact ⟨us,a,zmx cs _ b hl⟩
 | .tup vs,u,h,hl => by
   simp only [V.lt] at hl;simp only [zh] at h ⊢;obtain ⟨us,a,b⟩:=h;exact ⟨us,a,zsX vs _ b hl⟩
theorem zsX : ∀ (vs : List V) (us : List Value),zW g w σ vs us → V.lts n vs = true → zW (g.drop n w) w (σ.take n) vs us
 | [],us,h,_ => by simpa only [zW] using h
 | c :: cs,us,h,hl => by
   simp only [V.lts,ya] at hl;simp only [zW] at h ⊢;obtain ⟨v,vs,a,d,b⟩:=h;exact ⟨v,vs,a,zlr c v d hl.1,zsX cs vs b hl.2⟩
end
theorem zJy {os : List Ob} (h : Obs.lt n os = true) : ∀ {i : Nat} {o : Ob},os[i]? = some o → o.lt n = true:=by
 induction os with
 | nil => intro i o h; simp at h
 | cons x xs ih =>
   simp only [Obs.lt,ya] at h;intro i o a
   cases i with
   | zero => simp at a; subst a; exact h.1
   | succ i => exact ih h.2 (by simpa using a)
theorem zwh : ∀ {es : List (Int × V)} {z8 : List MapEntry},zqR g w σ es z8 → C.ltm n es = true → zqR (g.drop n w) w (σ.take n) es z8
 | [],_,h,_ => h
 | x :: xs,_,h,hl => by
   simp only [C.ltm,ya] at hl;obtain ⟨e,rest,a,d,b,c⟩:=h;exact ⟨e,rest,a,d,zlr _ _ b hl.1,zwh c hl.2⟩
theorem zxw : ∀ {es : List (Int × V)},C.ltm n es = true ↔ ∀ e ∈ es,e.2.lt n = true
 | [] => by simp [C.ltm]
 | e :: es => by simp [C.ltm,zxw (es:=es)]
theorem zA0 {es : List (Int × V)} {z8 : List MapEntry} {clock : Nat} (h : znG g w σ es z8 clock) (a : C.ltm n es = true) : znG (g.drop n w) w (σ.take n) es z8 clock:=by
 have:=zqC (g':=g.drop n w) (w':=w) (σ':=σ.take n) h id (fun _ => rfl) (fun es' b h => by
  rw [yw]
  exact zwh h (zxw.2 fun e he => zxw.1 a e (b.mem_iff.1 he)))
 rwa [yw] at this
theorem zzl (R : Rel g w σ) (L : Obs.lt n (σ.take n) = true) : Rel (g.drop n w) w (σ.take n):=by
 refine ⟨fun b o h => h.elim (R.nb b o) fun h => h.1,fun id o A => ?_⟩
 have f : id < n:=by
  have:=zb A;rw [yy] at this;omega
 have p:=zJy L A;rw [zki f] at A;have l:=R.ob id o A;have v : ∀ b i,g.ow b = .ob i → i < n → (g.drop n w).ow b = .ob i:=fun b i h r => by simp [G.drop,Ow.cut,h,r]
 have a : ∀ b i,g.ow b = .ob i → i < n → (∀ o,¬ g.N b o) → ∀ o,¬ (g.drop n w).N b o:=fun b i h r J o a => by
  rcases a with a | ⟨_,j,O,a⟩
  ·exact J o a
  ·rw [h] at a; injection a with a; omega
 cases o with
 | cells ver sz es =>
   intro B;obtain ⟨q,x,arr,t,y,s,z⟩:=l B;refine ⟨v _ _ q f,a _ _ q f x,arr,t,y,s,fun i e r => ⟨(z i e r).1,fun j c C => ?_⟩⟩;obtain ⟨u,I,M,D⟩:=(z i e r).2 j c C;simp only [Ob.lt] at p;exact ⟨u,I,zrX c u M (zC8.1 (zyR.1 p e (yj r)) c (yj C)),D⟩
 | mp es =>
   obtain ⟨q,x,z8,clock,y,s⟩:=l;exact ⟨v _ _ q f,a _ _ q f x,z8,clock,y,zA0 s (by simpa [Ob.lt] using p)⟩
 | tok sz fr =>
   intro k m hm;rcases l k m hm with h | ⟨b,o,c,arr,t,q,x,y,s,z,K,H⟩
   ·exact .inl h
   ·refine .inr ⟨b,o,c,arr,t,q,x,y,by simp [G.drop,Ow.cut,s,f],z,K,fun E d => ?_⟩
    rcases d with d | ⟨_,j,_,d⟩
    ·exact H E d
    ·rw [s] at d; cases d
theorem zzk {g0 : G} {w0 : World} {σ0 : zd} (H : Ext g0 w0 σ0 g w σ) (i : Clean g0 σ0.length) (j : σ0.length ≤ n) : Ext g0 w0 σ0 (g.drop n w) w (σ.take n) where
 os:=H.os
 tape:=H.tape
 output:=H.output
 size:=H.size
 keeps:=H.keeps.trans zig
 len:=by have:=H.len; rw [yy]; omega
 shape:=fun id e sz len h => by
  have a : id < n:=by obtain ⟨es,c,_⟩:=zbs h; have:=zb c; omega
  rw [zpz a];exact H.shape id e sz len h
 map:=fun id es h => by
  have a : id < n:=by have:=zb h; omega
  rw [zki a];exact H.map id es h
 tok:=fun t k m h => by
  have a : t < n:=by obtain ⟨_,_,c,_⟩:=zee h; have:=zb c; omega
  rw [zDr a];exact H.tok t k m h
 tsz:=fun t sz h => by
  have a : t < n:=by obtain ⟨_,c⟩:=zgs h; have:=zb c; omega
  rw [zzf a];exact H.tsz t sz h
 ow:=fun b d => by
  show (g.ow b).cut n = _
  rw [H.ow b d];exact Ow.cut_cut j _ (i b)
 new:=fun b o h d f => by
  rcases h with h | ⟨_,id,_,h⟩
  ·exact H.new b o h d f
  ·rw [H.ow b d,f] at h; cases h
 frame:=H.frame
def G.clean (g : G) (n : Nat) : G :=
 { g with ow:=fun b => (g.ow b).cut n }
theorem zhc (g : G) (n : Nat) : Clean (g.clean n) n:=fun b => Ow.cut_idem n _
mutual
theorem zqO {g' : G} (d : g'.ρ = g.ρ) (j : g'.tv = g.tv) (e : g'.N = g.N) : ∀ (c : C) (u : Value),zK g w σ c u → zK g' w σ c u
 | .f x,u,h => by simp only [zK] at h ⊢; rw [e]; exact h
 | .ap t k xs,u,h => by simp only [zK] at h ⊢; rw [e,j]; exact h
 | .ptr id ver i off,u,h => by simp only [zK] at h ⊢; rw [d]; exact h
 | .fp cs off,u,h => by simp only [zK] at h ⊢; rw [e]; exact h
 | .own id ver lo m,u,h => by simp only [zK] at h ⊢; rw [d]; exact h
 | .map id,u,h => by simp only [zK] at h ⊢; rw [d]; exact h
 | .fn f a b,u,h => by
   simp only [zK] at h ⊢;obtain ⟨fs,cs,o,n,l⟩:=h;exact ⟨fs,cs,o,zmn d j e a _ n,zmn d j e b _ l⟩
 | .un,_,_ => by simp only [zK]
theorem zmn {g' : G} (a : g'.ρ = g.ρ) (d : g'.tv = g.tv) (b : g'.N = g.N) : ∀ (cs : List C) (us : List Value),zC g w σ cs us → zC g' w σ cs us
 | [],us,h => by simpa only [zC] using h
 | c :: cs,us,h => by
   simp only [zC] at h ⊢;obtain ⟨v,vs,i,f,e⟩:=h;exact ⟨v,vs,i,zqO a d b c v f,zmn a d b cs vs e⟩
end
mutual
theorem zgJ {g' : G} (a : g'.ρ = g.ρ) (f : g'.tv = g.tv) (b : g'.N = g.N) : ∀ (c : V) (u : Value),zh g w σ c u → zh g' w σ c u
 | .one c,u,h => by simp only [zh] at h ⊢; exact zqO a f b c u h
 | .agg cs,u,h => by
   simp only [zh] at h ⊢;obtain ⟨us,e,d⟩:=h;exact ⟨us,e,zmn a f b cs _ d⟩
 | .tup vs,u,h => by
   simp only [zh] at h ⊢;obtain ⟨us,e,d⟩:=h;exact ⟨us,e,ztt a f b vs _ d⟩
theorem ztt {g' : G} (a : g'.ρ = g.ρ) (d : g'.tv = g.tv) (b : g'.N = g.N) : ∀ (vs : List V) (us : List Value),zW g w σ vs us → zW g' w σ vs us
 | [],us,h => by simpa only [zW] using h
 | c :: cs,us,h => by
   simp only [zW] at h ⊢;obtain ⟨v,vs,i,f,e⟩:=h;exact ⟨v,vs,i,zgJ a d b c v f,ztt a d b cs vs e⟩
end
theorem zvs {g' : G} (a : g'.ρ = g.ρ) (c : g'.tv = g.tv) (b : g'.N = g.N) : ∀ {es : List (Int × V)} {z8 : List MapEntry},zqR g w σ es z8 → zqR g' w σ es z8
 | [],_,h => h
 | x :: xs,_,h => by
   obtain ⟨e,rest,i,f,d,j⟩:=h;exact ⟨e,rest,i,f,zgJ a c b _ _ d,zvs a c b j⟩
theorem zAG {g' : G} (a : g'.ρ = g.ρ) (c : g'.tv = g.tv) (b : g'.N = g.N) {es : List (Int × V)} {z8 : List MapEntry} {clock : Nat} (h : znG g w σ es z8 clock) : znG g' w σ es z8 clock:=by
 have:=zqC (g':=g') (w':=w) (σ':=σ) h id (fun _ => rfl) (fun es' d h => by
  rw [yw]
  exact zvs a c b h)
 rwa [yw] at this
theorem zv6 {g' : G} (R : Rel g w σ) (v : g'.ρ = g.ρ) (x : g'.tv = g.tv) (f : g'.N = g.N) (p : ∀ b id,id < σ.length → g.ow b = .ob id → g'.ow b = .ob id) (z : ∀ b t k,t < σ.length → g.ow b = .tk t k → g'.ow b = .tk t k) : Rel g' w σ:=by
 refine ⟨by rw [f]; exact R.nb,fun id o A => ?_⟩;have d:=zb A;have a:=R.ob id o A
 cases o with
 | cells ver sz es =>
   intro y;obtain ⟨n,r,arr,t,l,q,s⟩:=a y;rw [v,f];refine ⟨p _ _ d n,r,arr,t,l,q,fun i e B => ⟨(s i e B).1,fun j c C => ?_⟩⟩;obtain ⟨u,m1,m2,D⟩:=(s i e B).2 j c C;exact ⟨u,m1,zqO v x f c u m2,D⟩
 | mp es =>
   obtain ⟨n,r,z8,clock,l,q⟩:=a;unfold zET;rw [v,f];exact ⟨p _ _ d n,r,z8,clock,l,zAG v x f q⟩
 | tok sz fr =>
   intro k m hm;rw [x,f];rcases a k m hm with h | ⟨b,o,c,arr,t,n,r,l,q,s⟩
   ·exact .inl h
   ·exact .inr ⟨b,o,c,arr,t,n,r,l,z _ _ _ d q,s⟩
theorem zB3 (R : Rel g w σ) : Rel (g.clean σ.length) w σ :=
 zv6 R rfl rfl rfl (fun b id a h => by simp [G.clean,Ow.cut,h,a]) (fun b t k c h => by simp [G.clean,Ow.cut,h,c])
def G.under (g0 : G) (w0 : World) (g : G) : G:={ g with ow:=fun b => if b < w0.heap.size then g0.ow b else g.ow b }
theorem zqX {w' : World} {σ' : zd} {g' : G} (H : Ext (g.clean σ.length) w σ g' w' σ') : Ext g w σ (g.under w g') w' σ' where
 os:=H.os
 tape:=H.tape
 output:=H.output
 size:=H.size
 keeps:=H.keeps
 len:=H.len
 shape:=H.shape
 map:=H.map
 tok:=H.tok
 tsz:=H.tsz
 ow:=fun b a => by
  show (if b < w.heap.size then g.ow b else g'.ow b) = _
  rw [if_pos a]
 new:=fun b o h a c => H.new b o h a (by simp [G.clean,Ow.cut,c])
 frame:=fun b a c => H.frame b a (by simp [G.clean,Ow.cut,c])
theorem zq3 {w' : World} {σ' : zd} {g' : G} (H : Ext (g.clean σ.length) w σ g' w' σ') (R : Rel g' w' σ') : Rel (g.under w g') w' σ':=by
 have key : ∀ b,b < w.heap.size → g'.ow b ≠ .no → g.ow b = g'.ow b:=fun b d a => by
  have:=H.ow b d;change g'.ow b = (g.ow b).cut σ.length at this;rw [this] at a ⊢
  cases h : g.ow b with
  | no => rfl
  | ob id =>
    rw [h] at a;simp only [Ow.cut] at a ⊢;split
    ·rfl
    ·rename_i c; rw [if_neg c] at a; exact absurd rfl a
  | tk t k =>
    rw [h] at a;simp only [Ow.cut] at a ⊢;split
    ·rfl
    ·rename_i c; rw [if_neg c] at a; exact absurd rfl a
 refine zv6 (g':=g.under w g') R rfl rfl rfl (fun b id e h => ?_) (fun b t k f h => ?_)
 ·show (if b < w.heap.size then g.ow b else g'.ow b) = _
  split
  ·rw [key b (by assumption) (by rw [h]; simp),h]
  ·exact h
 ·show (if b < w.heap.size then g.ow b else g'.ow b) = _
  split
  ·rw [key b (by assumption) (by rw [h]; simp),h]
  ·exact h
end
section
variable {g : G} {w : World} {σ : zd} {n : Nat}
theorem zoW (R : Rel g w σ) {A : zhv} (M : ∀ b o,g.N b o → A b o) {id l lo n : Nat} (J : ∀ o,A (g.ρ id) o ∨ ¬ (∃ sz es,σ[id]? = some (.cells l sz es) ∧ es ≠ [])) {xs : List (List Fz)} {u : Value} (h : (σ[id]?).bind (Ob.frz l lo n) = some xs) (P : zh g w σ (.one (.own id l lo n)) u) : rep w A (.sl xs) u:=by
 rw [ye] at h;obtain ⟨ob,v,m⟩:=h;unfold Ob.frz at m;split at m
 ·rename_i D sz es
  split at m
  ·rename_i p
   subst p;obtain ⟨a,c,e1,e2,e3,e4⟩:=zh4 P v;obtain ⟨G,C⟩:=zgg m;simp only [rep]
   by_cases d : es = []
   ·subst d
    have:=e3 rfl;have Q : n = 0:=(by omega);subst Q;have y : xs = []:=yd (by rw [G]; simp);subst y;exact ⟨a,c,sz,e1,by simp,by simp only [zcC],.inl rfl⟩
   ·obtain ⟨f1,f2,arr,t,f3,f4⟩:=e4 fun h => d (yd h)
    obtain ⟨_,_,B,V,m1,m2,E⟩:=R.ob id _ v d;have s : xs.length = n:=by rw [G]; simp; omega
    have f : ∀ i e,((es.drop lo).take n)[i]? = some e → es[lo + i]? = some e:=fun i e k => by
     rw [yr] at k;split at k
     ·rwa [List.getElem?_drop] at k
     ·cases k
    refine ⟨a,c,sz,by rw [s]; exact e1,by omega,zf0 fun e he => ?_,?_⟩
    ·obtain ⟨i,k⟩:=yn.1 he
     obtain ⟨q,r,z⟩:=C i e k;rw [(zg1 z).1];exact (E _ q (f i q r)).1
    ·rcases Nat.eq_zero_or_pos n with K | K
     ·exact .inl (yd (by omega))
     ·refine .inr ⟨g.ρ id,lo * sz,f2 (by omega),zhd fun i e k => zjK fun j x U => ?_⟩
      obtain ⟨q,r,z⟩:=C i e k;obtain ⟨cc,I,S⟩:=(zg1 z).2 j x U;obtain ⟨H,O,L,W⟩:=(E _ q (f i q r)).2 j cc I;refine ⟨H,(J _).resolve_right fun y => y ⟨sz,es,v,d⟩,?_,zdv (fun b o h => ⟨M b o h,rfl⟩) x H (zia S L)⟩;rw [zju m1,show lo * sz + i * sz + j = (lo + i) * sz + j from by rw [Nat.add_mul]];exact O
  ·cases m
 ·cases m
def G.inn (g : G) (lent : Bool) (w : World) : G:=⟨fun _ => 0,fun _ _ => undef,fun _ => .no,fun b o => g.N b o ∨ (lent = true ∧ b < w.heap.size)⟩
theorem zCc (R : Rel g w σ) (lent : Bool) : Rel (g.inn lent w) w []:=⟨fun b o h => h.elim (R.nb b o) fun h => h.2,fun id o h => by simp at h⟩
theorem zwR (lent : Bool) : ziE w w g.N (g.inn lent w).N:=fun _ _ h => ⟨.inl h,rfl⟩
theorem zpo {a : zhv} (H : ziE w w g.N a) {g' : G} {σ' : zd} (b : g'.N = a) : ∀ {cs : List C} {xs : List Fz} {us : List Value},zgp cs = some xs → zC g w σ cs us → zC g' w σ' (xs.map C.f) us
 | [],xs,us,h,hr => by
   simp only [zgp,Option.some.injEq] at h;subst h;simpa only [yE,zC] using hr
 | c :: cs,xs,us,h,hr => by
   simp only [zgp] at h;obtain ⟨y,z,d,j,rfl⟩:=zhb h;simp only [zC] at hr;obtain ⟨v,vs,rfl,i,e⟩:=hr;simp only [yh,zC];exact ⟨v,vs,rfl,by simp only [zK]; rw [b]; exact zdv H y v (zia d i),zpo H b j e⟩
theorem zA9 (R : Rel g w σ) {lent : Bool} {v v' : V} {u : Value} (h : zIz σ v = some v') (m : zyC v = true → lent = true) (a : zh g w σ v u) : zh (g.inn lent w) w [] v' u:=by
 unfold zIz at h;split at h
 ·rename_i id d lo n
  rw [yb] at h;obtain ⟨xs,h,rfl⟩:=h;have c:=m rfl;simp only [vsl,zh,zK];refine zoW R (fun b o h => .inl h) (fun o => ?_) h a
  by_cases i : ∃ sz es,σ[id]? = some (.cells d sz es) ∧ es ≠ []
  ·obtain ⟨sz,es,k,p⟩:=i
   obtain ⟨_,_,arr,t,j,_⟩:=R.ob id _ k p;exact .inl (.inr ⟨c,(yl.1 j).1⟩)
  ·exact .inr i
 ·injection h with h
  subst h;simp only [zh,zK] at a ⊢;obtain ⟨fs,cs,f,e,l⟩:=a;exact ⟨fs,cs,f,by simpa only [zC] using e,by simpa only [zC] using l⟩
 ·rw [yb] at h
  obtain ⟨x,h,rfl⟩:=h;simp only [zh] at a;simp only [vf,zh,zK];exact zdv (zwR lent) x u (zia h a)
 ·rw [yb] at h
  obtain ⟨xs,h,rfl⟩:=h;simp only [zh] at a;obtain ⟨us,f,e⟩:=a;simp only [zEV,zh];exact ⟨us,f,zpo (zwR lent) rfl h e⟩
 ·cases h
theorem znA (R : Rel g w σ) {lent : Bool} : ∀ {vs a : List V} {us : List Value},zsv σ vs = some a → (vs.any zyC = true → lent = true) → zW g w σ vs us → zW (g.inn lent w) w [] a us
 | [],a,us,h,_,hv => by
   simp only [zsv,Option.some.injEq] at h;subst h;simpa only [zW] using hv
 | v :: vs,a,us,h,hl,hv => by
   simp only [zsv] at h;obtain ⟨y,z,b,e,rfl⟩:=zhb h;simp only [zW] at hv ⊢;obtain ⟨x,xs,rfl,d,c⟩:=hv;simp only [List.any_cons,Bool.or_eq_true] at hl;exact ⟨x,xs,rfl,zA9 R b (fun h => hl (.inl h)) d,znA R e (fun h => hl (.inr h)) c⟩
def Ow.shift (n : Nat) : Ow → Ow
 | .no => .no
 | .ob id => .ob (id + n)
 | .tk t k => .tk (t + n) k
def G.out (g : G) (w : World) (n : Nat) (keep : Prop) (g' : G) : G where
 ρ:=fun id => if id < n then g.ρ id else g'.ρ (id - n)
 tv:=fun t k => if t < n then g.tv t k else g'.tv (t - n) k
 ow:=fun b => if b < w.heap.size then g.ow b else (g'.ow b).shift n
 N:=fun b o => g.N b o ∨ (w.heap.size ≤ b ∧ keep ∧ g'.N b o)
section
variable {lent : Bool} {keep : Prop} {g' : G} {w' : World} {σ' : zd}
theorem out_ρ_old {id : Nat} (h : id < n) : (g.out w n keep g').ρ id = g.ρ id:=by simp [G.out,h]
theorem out_ρ_new {id : Nat} : (g.out w n keep g').ρ (id + n) = g'.ρ id:=by
 show (if id + n < n then _ else g'.ρ (id + n - n)) = _
 rw [if_neg (by omega),yg]
theorem zs3 {t k : Nat} (h : t < n) : (g.out w n keep g').tv t k = g.tv t k:=by simp [G.out,h]
theorem zs0 {t k : Nat} : (g.out w n keep g').tv (t + n) k = g'.tv t k:=by
 show (if t + n < n then _ else g'.tv (t + n - n) k) = _
 rw [if_neg (by omega),yg]
theorem ztP {b : Nat} (h : b < w.heap.size) : (g.out w n keep g').ow b = g.ow b:=by simp [G.out,h]
theorem zo2 {b : Nat} (h : ¬ b < w.heap.size) : (g.out w n keep g').ow b = (g'.ow b).shift n:=by simp [G.out,h]
theorem zxy (R : Rel g w σ) (H : Ext (g.inn lent w) w [] g' w' σ') (os : List Ob) : Ext g w σ (g.out w σ.length keep g') w' (σ ++ os) where
 os:=H.os
 tape:=H.tape
 output:=H.output
 size:=H.size
 keeps:=fun b o h => ⟨.inl h,by
  unfold World.cell?
  rw [H.frame b (R.nb b o h) rfl]⟩
 len:=by simp
 shape:=fun id f sz len h => by
  obtain ⟨es,a,_⟩:=zbs h;have c:=zb a;refine .inl ⟨by unfold shapeOf; rw [yc c]; exact h,out_ρ_old c,fun _ arr t e => ⟨arr,?_,rfl⟩⟩;rw [H.frame _ (yl.1 e).1 rfl];exact e
 map:=fun id es h => ⟨out_ρ_old (zb h),es,by rw [yc (zb h)]; exact h⟩
 tok:=fun t k m h => by
  obtain ⟨sz,fr,a,i⟩:=zee h;exact ⟨m,zfr (by rw [yc (zb a)]; exact a) i,Nat.le_refl _,fun _ => zs3 (zb a)⟩
 tsz:=fun t sz h => by
  obtain ⟨fr,a⟩:=zgs h;exact zdy (fr:=fr) (by rw [yc (zb a)]; exact a)
 ow:=fun b d => ztP d
 new:=fun b o h d _ => h.elim id fun h => by omega
 frame:=fun b d _ => H.frame b d rfl
theorem zox (e : keep) (a : lent = false) (H : Ext (g.inn lent w) w [] g' w' σ') : ziE w' w' g'.N (g.out w n keep g').N:=fun b o h => ⟨by
 by_cases d : b < w.heap.size
 ·have:=H.new b o h d rfl
  rcases this with c | c
  ·exact .inl c
  ·rw [a] at c; cases c.1
 ·exact .inr ⟨by omega,e,h⟩,rfl⟩
theorem zoM (os : List Ob) {i : Nat} {o : Ob} (h : σ'[i]? = some o) : (σ ++ σ'.map (Ob.shift σ.length))[i + σ.length]? = some (o.shift σ.length):=by
 rw [yk (by omega),yg,yf,h];rfl
theorem zrw {id a sz len : Nat} (h : shapeOf σ' id = some (a,sz,len)) : shapeOf (σ ++ σ'.map (Ob.shift σ.length)) (id + σ.length) = some (a,sz,len):=by
 obtain ⟨es,b,c⟩:=zbs h;rw [zG (zoM [] b)];simp [c]
theorem zGp {t k m : Nat} (h : zpd σ' t k = some m) : zpd (σ ++ σ'.map (Ob.shift σ.length)) (t + σ.length) k = some m:=by
 obtain ⟨sz,fr,a,b⟩:=zee h;exact zfr (zoM [] a) b
theorem zCx {t sz : Nat} (h : zqm σ' t = some sz) : zqm (σ ++ σ'.map (Ob.shift σ.length)) (t + σ.length) = some sz:=by
 obtain ⟨fr,a⟩:=zgs h;exact zdy (zoM [] a)
mutual
theorem zpl (l : keep) (d : lent = false) (H : Ext (g.inn lent w) w [] g' w' σ') : ∀ (c : C) (u : Value),zK g' w' σ' c u → zK (g.out w σ.length keep g') w' (σ ++ σ'.map (Ob.shift σ.length)) (c.shift σ.length) u
 | .f x,u,h => by
   simp only [C.shift,zK] at h ⊢;exact zdv (zox l d H) x u h
 | .ap t k xs,u,h => by
   simp only [C.shift,zK] at h ⊢;obtain ⟨j,m,e,n,r,sz,p,q⟩:=h;exact ⟨zdv (zox l d H) _ u j,m,zGp e,n,by rw [zs0]; exact r,sz,zCx p,q⟩
 | .ptr id ver i off,u,h => by
   simp only [C.shift,zK] at h ⊢;obtain ⟨v0,sz,len,j,e⟩:=h;exact ⟨v0,sz,len,zrw j,by rw [out_ρ_new]; exact e⟩
 | .fp cs off,u,h => by
   simp only [C.shift,zK] at h ⊢;obtain ⟨b,o,j,e⟩:=h;exact ⟨b,o,j,zgi (zox l d H) cs b o e⟩
 | .own id ver lo m,u,h => by
   simp only [C.shift,zK] at h ⊢;obtain ⟨v0,sz,len,j,e⟩:=h;exact ⟨v0,sz,len,zrw j,by rw [out_ρ_new]; exact e⟩
 | .map id,u,h => by
   simp only [C.shift,zK] at h ⊢;obtain ⟨⟨es,j⟩,e⟩:=h;exact ⟨⟨_,zoM [] j⟩,by rw [out_ρ_new]; exact e⟩
 | .fn f a b,u,h => by
   simp only [C.shift,zK] at h ⊢;obtain ⟨fs,cs,j,e,n⟩:=h;exact ⟨fs,cs,j,zj8 l d H a _ e,zj8 l d H b _ n⟩
 | .un,_,_ => by simp only [C.shift,zK]
theorem zj8 (b : keep) (a : lent = false) (H : Ext (g.inn lent w) w [] g' w' σ') : ∀ (cs : List C) (us : List Value),zC g' w' σ' cs us → zC (g.out w σ.length keep g') w' (σ ++ σ'.map (Ob.shift σ.length)) (C.shifts σ.length cs) us
 | [],us,h => by simpa only [C.shifts,zC] using h
 | c :: cs,us,h => by
   simp only [C.shifts,zC] at h ⊢;obtain ⟨v,vs,d,f,e⟩:=h;exact ⟨v,vs,d,zpl b a H c v f,zj8 b a H cs vs e⟩
end
mutual
theorem zpp (e : keep) (a : lent = false) (H : Ext (g.inn lent w) w [] g' w' σ') : ∀ (c : V) (u : Value),zh g' w' σ' c u → zh (g.out w σ.length keep g') w' (σ ++ σ'.map (Ob.shift σ.length)) (c.shift σ.length) u
 | .one c,u,h => by
   simp only [V.shift,zh] at h ⊢;exact zpl e a H c u h
 | .agg cs,u,h => by
   simp only [V.shift,zh] at h ⊢;obtain ⟨us,b,d⟩:=h;exact ⟨us,b,zj8 e a H cs _ d⟩
 | .tup vs,u,h => by
   simp only [V.shift,zh] at h ⊢;obtain ⟨us,b,d⟩:=h;exact ⟨us,b,zqU e a H vs _ d⟩
theorem zqU (b : keep) (a : lent = false) (H : Ext (g.inn lent w) w [] g' w' σ') : ∀ (vs : List V) (us : List Value),zW g' w' σ' vs us → zW (g.out w σ.length keep g') w' (σ ++ σ'.map (Ob.shift σ.length)) (V.shifts σ.length vs) us
 | [],us,h => by simpa only [V.shifts,zW] using h
 | c :: cs,us,h => by
   simp only [V.shifts,zW] at h ⊢;obtain ⟨v,vs,d,f,e⟩:=h;exact ⟨v,vs,d,zpp b a H c v f,zqU b a H cs vs e⟩
end
theorem ztc {n : Nat} : ∀ {cs : List C} {j : Nat} {c : C},(C.shifts n cs)[j]? = some c → ∃ c',cs[j]? = some c' ∧ c = c'.shift n
 | [],j,c,h => by simp [C.shifts] at h
 | x :: cs,j,c,h => by
   cases j with
   | zero => simp [C.shifts] at h; exact ⟨x,by simp,h.symm⟩
   | succ j => simpa using ztc (cs:=cs) (by simpa [C.shifts] using h)
theorem zoz {n : Nat} : ∀ {cs : List C},(C.shifts n cs).length = cs.length
 | [] => rfl
 | x :: cs => by simp [C.shifts,zoz (cs:=cs)]
theorem ztQ (b : keep) (a : lent = false) (H : Ext (g.inn lent w) w [] g' w' σ') : ∀ {es : List (Int × V)} {z8 : List MapEntry},zqR g' w' σ' es z8 → zqR (g.out w σ.length keep g') w' (σ ++ σ'.map (Ob.shift σ.length)) (es.map fun e => (e.1,e.2.shift σ.length)) z8
 | [],_,h => h
 | x :: xs,_,h => by
   obtain ⟨e,rest,f,d,c,i⟩:=h;exact ⟨e,rest,f,d,zpp b a H _ _ c,ztQ b a H i⟩
theorem zqT (R : Rel g w σ) (H : Ext (g.inn lent w) w [] g' w' σ') (d : Rel g' w' σ') (os : List Ob) {id : Nat} {o : Ob} (a : σ[id]? = some o) : zET (g.out w σ.length keep g') w' (σ ++ os) id o :=
 zdb (zxy R H os) (out_ρ_old (zb a)) (fun _ => zs3 (zb a)) (fun b c _ => ⟨H.frame b c rfl,ztP c,fun o h => h.elim (fun h => h) fun h => by omega⟩) (R.ob id o a)
theorem zs2 (R : Rel g w σ) (H : Ext (g.inn lent w) w [] g' w' σ') (a : Rel g' w' σ') : ∀ b o,(g.out w σ.length keep g').N b o → b < w'.heap.size:=fun b o h =>
 h.elim (fun h => Nat.lt_of_lt_of_le (R.nb b o h) H.size) fun h => a.nb b o h.2.2
theorem zxj (R : Rel g w σ) (H : Ext (g.inn lent w) w [] g' w' []) (a : Rel g' w' []) : Rel (g.out w σ.length keep g') w' σ :=
 ⟨zs2 R H a,fun id o b => by simpa using zqT (keep:=keep) R H a [] b⟩
theorem zIS (R : Rel g w σ) (I : keep) (f : lent = false) (H : Ext (g.inn lent w) w [] g' w' σ') (D : Rel g' w' σ') : Rel (g.out w σ.length keep g') w' (σ ++ σ'.map (Ob.shift σ.length)):=by
 refine ⟨zs2 R H D,fun id o C => ?_⟩
 by_cases G : id < σ.length
 ·rw [yc G] at C
  exact zqT R H D _ C
 ·rw [yk (by omega),yf,yb] at C
  obtain ⟨B,a,rfl⟩:=C;obtain ⟨j,rfl⟩ : ∃ j,id = j + σ.length:=⟨id - σ.length,by omega⟩;rw [yg] at a;have n:=D.ob j B a;have l : ∀ b,g'.ow b ≠ .no → ¬ b < w.heap.size:=fun b p d => p (H.ow b d)
  have v : ∀ b,¬ b < w.heap.size → (∀ o,¬ g'.N b o) → ∀ o,¬ (g.out w σ.length keep g').N b o:=fun b d P o h => by
   rcases h with h | h
   ·exact d (R.nb b o h)
   ·exact P o h.2.2
  cases B with
  | cells ver sz es =>
    intro p;have s : es ≠ []:=fun h => p (by rw [h]; rfl);obtain ⟨q,y,arr,t,z,r,A⟩:=n s;have d:=l _ (by rw [q]; simp);rw [out_ρ_new];refine ⟨by rw [zo2 d,q]; rfl,v _ d y,arr,t,z,by simpa using r,fun i e x => ?_⟩;rw [yf,yb] at x;obtain ⟨J,x,rfl⟩:=x;refine ⟨by rw [zoz]; exact (A i J x).1,fun j c S => ?_⟩;obtain ⟨K,E,rfl⟩:=ztc S;obtain ⟨u,O,U,L⟩:=(A i J x).2 j K E;exact ⟨u,O,zpl I f H K u U,L⟩
  | mp es =>
    obtain ⟨q,y,z8,clock,z,r⟩:=n;have d:=l _ (by rw [q]; simp)
    show _ ∧ _
    rw [out_ρ_new];exact ⟨by rw [zo2 d,q]; rfl,v _ d y,z8,clock,z,zqC r (fun e => (e.1,e.2.shift σ.length)) (fun _ => rfl) fun es' _ h => ztQ I f H h⟩
  | tok sz fr =>
    intro k m hm;rw [zs0];rcases n k m hm with h | ⟨b,o,c,arr,t,q,y,z,r,A,Q,M⟩
    ·exact .inl h
    ·have d:=l _ (by rw [r]; simp)
     refine .inr ⟨b,o,c,arr,t,q,y,z,by rw [zo2 d,r]; rfl,A,Q,fun B a => ?_⟩;rcases a with a | a
     ·exact absurd (R.nb _ _ a) d
     ·exact M B a.2.2
mutual
theorem zwp {d : World} {σ2 : zd} {n l : G} (e : ziE d d n.N l.N) : ∀ (c : C) (u : Value),zK n d [] c u → zK l d σ2 c u
 | .f x,u,h => by simp only [zK] at h ⊢; exact zdv e x u h
 | .ap t k xs,u,h => by have:=zpq _ u h; simp [C.lt] at this
 | .ptr id ver i off,u,h => by have:=zpq _ u h; simp [C.lt] at this
 | .fp cs off,u,h => by
   simp only [zK] at h ⊢;obtain ⟨b,o,g,j⟩:=h;exact ⟨b,o,g,zgi e cs b o j⟩
 | .own id ver lo m,u,h => by have:=zpq _ u h; simp [C.lt] at this
 | .map id,u,h => by have:=zpq _ u h; simp [C.lt] at this
 | .fn f a b,u,h => by
   simp only [zK] at h ⊢;obtain ⟨fs,cs,g,j,p⟩:=h;exact ⟨fs,cs,g,zmm e a _ j,zmm e b _ p⟩
 | .un,_,_ => by simp only [zK]
theorem zmm {a : World} {σ2 : zd} {d b : G} (e : ziE a a d.N b.N) : ∀ (cs : List C) (us : List Value),zC d a [] cs us → zC b a σ2 cs us
 | [],us,h => by simpa only [zC] using h
 | c :: cs,us,h => by
   simp only [zC] at h ⊢;obtain ⟨v,vs,f,i,g⟩:=h;exact ⟨v,vs,f,zwp e c v i,zmm e cs vs g⟩
end
mutual
theorem zvA {a : World} {σ2 : zd} {g f : G} (e : ziE a a g.N f.N) : ∀ (c : V) (u : Value),zh g a [] c u → zh f a σ2 c u
 | .one c,u,h => by simp only [zh] at h ⊢; exact zwp e c u h
 | .agg cs,u,h => by
   simp only [zh] at h ⊢;obtain ⟨us,b,d⟩:=h;exact ⟨us,b,zmm e cs _ d⟩
 | .tup vs,u,h => by
   simp only [zh] at h ⊢;obtain ⟨us,b,d⟩:=h;exact ⟨us,b,zta e vs _ d⟩
theorem zta {a : World} {σ2 : zd} {d b : G} (e : ziE a a d.N b.N) : ∀ (vs : List V) (us : List Value),zW d a [] vs us → zW b a σ2 vs us
 | [],us,h => by simpa only [zW] using h
 | c :: cs,us,h => by
   simp only [zW] at h ⊢;obtain ⟨v,vs,f,i,g⟩:=h;exact ⟨v,vs,f,zvA e c v i,zta e cs vs g⟩
end
theorem zrd {k d : World} {σ1 σ2 : zd} {g e : G} : ∀ {cs : List C} {us : List Value},(cs.all fun c => match c with
  | .f (.lit _) => true
  | _ => false) = true → zC g k σ1 cs us → zC e d σ2 cs us
 | [],us,_,h => by simpa only [zC] using h
 | c :: cs,us,hp,h => by
   simp only [yo,ya] at hp;simp only [zC] at h ⊢;obtain ⟨v,vs,b,j,i⟩:=h;refine ⟨v,vs,b,?_,zrd hp.2 i⟩;have a:=hp.1;split at a
   ·simpa only [zK,rep] using j
   ·cases a
mutual
theorem zty {i e : World} {σ1 σ2 : zd} {g d : G} : ∀ (c : V) (u : Value),c.plain = true → zh g i σ1 c u → zh d e σ2 c u
 | .one c,u,hp,h => by
   cases c with
   | f x =>
     cases x with
     | lit v => simpa only [zh,zK,rep] using h
     | sl xs => simp [V.plain] at hp
   | _ => simp [V.plain] at hp
 | .agg cs,u,hp,h => by
   simp only [V.plain] at hp;simp only [zh] at h ⊢;obtain ⟨us,a,b⟩:=h;exact ⟨us,a,zrd hp b⟩
 | .tup vs,u,hp,h => by
   simp only [V.plain] at hp;simp only [zh] at h ⊢;obtain ⟨us,a,b⟩:=h;exact ⟨us,a,zrU vs _ hp b⟩
theorem zrU {i d : World} {σ1 σ2 : zd} {e b : G} : ∀ (vs : List V) (us : List Value),V.plains vs = true → zW e i σ1 vs us → zW b d σ2 vs us
 | [],us,_,h => by simpa only [zW] using h
 | c :: cs,us,hp,h => by
   simp only [V.plains,ya] at hp;simp only [zW] at h ⊢;obtain ⟨v,vs,a,g,f⟩:=h;exact ⟨v,vs,a,zty c v hp.1 g,zrU cs vs hp.2 f⟩
end
end
end
end Go.A
namespace Go.A
def Enters (P : Program) (f : Nat) : Prop := ∃ fn c, P.funcs[f]? = some fn ∧ (fn.name == "runtime.NumGoroutine") = false ∧ fn.body = some c
def zhU (P : Program) (C : zaz) : Prop:=∀ (f : Nat) (args : List V) (σ : zd) (v : V) (σ' : zd),C f args σ = some (v,σ') →
 Enters P f ∧ ∀ (g : G) (w : World) (us : List Value),Rel g w σ → zW g w σ args us → Calls P f us.toArray w fun e w' => ∃ u g',e = .returned u ∧ zh g' w' σ' v u ∧ Rel g' w' σ' ∧ Ext g w σ g' w' σ'
section
variable {P : Program} {κ : List Tmp} {loc : List (Option Tmp)} {nt : Nat} {g : G} {w : World} {r r' : R} {a : Act} {o : Go.Oper} {d : D} {next : Act → World → Prop} {Q : Exit → Act → World → Prop}
theorem zlF {σ : zd} : ∀ {vs a : List V} {us us' : List Value},zW g w σ vs us → zW g w σ a us' → zW g w σ (vs ++ a) (us ++ us')
 | [],a,us,us',h,h' => by
   simp only [zW] at h;subst h;simpa using h'
 | v :: vs,a,us,us',h,h' => by
   simp only [zW,yx] at h ⊢;obtain ⟨x,xs,rfl,b,c⟩:=h;exact ⟨x,xs ++ us',rfl,b,zlF c h'⟩
theorem zrL {σ : zd} : ∀ {cs : List C} {us : List Value},zC g w σ cs us → zW g w σ (cs.map V.one) us
 | [],us,h => by simpa only [zC,zW,yE] using h
 | c :: cs,us,h => by
   simp only [zC] at h;obtain ⟨v,vs,rfl,a,b⟩:=h;simp only [yh,zW];exact ⟨v,vs,rfl,by simp only [zh]; exact a,zrL b⟩
theorem zwG {f : Nat} (h : Enters P f) (args : Array Value) : (callFunc f args).run P w = .ok (.enter f args) w:=by
 obtain ⟨fn,c,h1,h2,h3⟩:=h
 have h2' : ¬ fn.name = "runtime.NumGoroutine" := by simpa using h2
 simp [callFunc,h1,h2',h3]
theorem zoY {ct : Go.Call} {fv : Operand} (c : o.op = .call ct) (b : ct.callee = .value fv) {f : Nat} {fs cs : Array Value} (d : a.eval fv = .func (.func f) fs cs) (he : Enters P f) :
  (execOp a.eval o).run P w = .ok (.enter f (fs ++ ct.args.map a.eval ++ cs)) w:=by
 unfold execOp;simp only [c,resolve,b,d,Deferred.ofValue,invoke,Sem.run_bind,Sem.run_pure,Result.andThen_ok,zwG he]
theorem zuJ {f : Nat} {args : Array Value} (h : (execOp a.eval o).run P w = .ok (.enter f args) w) {R : Ending → World → Prop} (b : Calls P f args w R) (k : ∀ e w',R e w' → ∃ u,e = .returned u ∧ next (a.put o.dst u) w') : o.wp P a w next Q:=by
 unfold Oper.wp;rw [h,Oper.upon_enter];refine Calls.mono b fun e w' he => ?_;obtain ⟨u,rfl,c⟩:=k e w' he;exact c
theorem zAs {O : zaz} (S : zhU P O) (p : Rel g w r.st) (L : Low r.base r.lim r.st) (F : Fr κ loc nt g w r a) {ct : Go.Call} {fv : Operand} {m : Mode} {fx : X} {xs : List X} (I : o.op = .call ct) (n : ct.callee = .value fv) (hd : okD κ nt o.dst d = true)
  (M : okX κ loc fv fx = true) (K : zDC κ loc ct.args.toList xs = true) {r1 : R} (h : zqh O r d m (r.gets xs) (r.get fx) = some r1) (k : zsl κ (zbE o.dst d :: loc) nt g w r r1 (a.put o.dst) next) : o.wp P a w next Q:=by
 have N:=F.get M;have s:=F.gets K;unfold zqh at h;split at h
 ·rename_i f first l D
  rw [D] at N;simp only [zh,zK] at N;obtain ⟨fs,cs,ef,Z,U⟩:=N;have c : zW g w r.st (first.map V.one ++ (r.gets xs ++ l.map V.one)) (fs.toList ++ (ct.args.toList.map a.eval ++ cs.toList)):=zlF (zrL Z) (zlF s (zrL U))
  have i : (fs ++ ct.args.map a.eval ++ cs) = (fs.toList ++ (ct.args.toList.map a.eval ++ cs.toList)).toArray:=by
   apply Array.ext';simp
  cases m with
  | op =>
    simp only [yb] at h;obtain ⟨⟨v,σ'⟩,j,rfl⟩:=h;obtain ⟨he,B⟩:=S f _ _ v σ' j;refine zuJ (zoY I n ef he) (R:=_) (by rw [i]; exact B g w _ p c) fun e w' z => ?_;obtain ⟨u,g',rfl,t,y,H⟩:=z;refine ⟨u,rfl,?_⟩;have hL : Low r.base r.lim σ':=⟨trivial⟩;have hst : ({ r with st:=σ' } : R).st = σ':=rfl;have hF : Fr κ loc nt g' w' { r with st:=σ' } a:=F.ext (r':={ r with st:=σ' }) H rfl rfl;refine k g' w' _ ?_ ?_ ?_ (hF.put hd fun _ => t) <;> rw [zyW,zfW]
    ·exact H
    ·exact y
    ·exact hL
  | cl =>
    simp only at h;rw [ye] at h;obtain ⟨⟨v,σ'⟩,j,h⟩:=h;rw [ye] at j;obtain ⟨aS,q,j⟩:=j;generalize b : (first.map V.one ++ (r.gets xs ++ l.map V.one)).any zyC = lent at h;unfold zzE at h;split at h
    ·rename_i W
     obtain ⟨E,G⟩:=W;have Y : σ' = []:=yd E;subst Y;injection h with h;subst h;obtain ⟨he,B⟩:=S f aS [] v [] j;refine zuJ (zoY I n ef he) (R:=_) (by rw [i]; exact B (g.inn lent w) w _ (zCc p lent) (znA p q (fun h => by rw [← b]; exact h) c)) fun e w' z => ?_;obtain ⟨u,g',rfl,t,y,H⟩:=z;refine ⟨u,rfl,?_⟩;have A : Ext g w r.st (g.out w r.st.length (lent = false) g') w' r.st:=(by simpa using zxy (keep:=lent = false) p H []);have J:=zxj (keep:=lent = false) p H y;have hF : Fr κ loc nt (g.out w r.st.length (lent = false) g') w' r a:=F.ext A rfl rfl;refine k _ w' _ ?_ ?_ ?_ (hF.put hd fun _ => ?_)
     ·rw [zfW]; exact A
     ·rw [zfW]; exact J
     ·rw [zfW]; exact L
     ·rcases G with C | C
      ·exact zvA (zox C C H) v u t
      ·exact zty v u C t
    ·cases h
  | ck =>
    simp only at h;split at h
    ·cases h
    ·rename_i x
     have b : (first.map V.one ++ (r.gets xs ++ l.map V.one)).any zyC = false:=(by simpa using x);rw [yb] at h;obtain ⟨⟨v,σ'⟩,j,rfl⟩:=h;rw [ye] at j;obtain ⟨aS,q,j⟩:=j;obtain ⟨he,B⟩:=S f aS [] v σ' j;refine zuJ (zoY I n ef he) (R:=_) (by rw [i]; exact B (g.inn false w) w _ (zCc p false) (znA p q (fun h => by rw [b] at h; cases h) c)) fun e w' z => ?_;obtain ⟨u,g',rfl,t,y,H⟩:=z;refine ⟨u,rfl,?_⟩;have A:=zxy (keep:=True) p H (σ'.map (Ob.shift r.st.length));have J:=zIS (keep:=True) p trivial rfl H y;have hF : Fr κ loc nt (g.out w r.st.length True g') w' { r with st:=r.st ++ σ'.map (Ob.shift r.st.length) } a:=F.ext (r':={ r with st:=r.st ++ σ'.map (Ob.shift r.st.length) }) A rfl rfl;refine k _ w' _ ?_ ?_ ?_ (hF.put hd fun _ => zpp trivial rfl H v u t) <;> rw [zzw,zfW]
     ·exact A
     ·exact J
     ·exact L.append _
 ·cases h
end
section
variable {P : Program} {κ : List Tmp} {loc : List (Option Tmp)} {nt : Nat} {g : G} {w : World} {r r' : R} {a : Act} {o : Go.Oper} {d : D} {next : Act → World → Prop} {Q : Exit → Act → World → Prop}
end
def G.give (g : G) (b : Nat) : G:={ g with N:=fun b' o => g.N b' o ∨ b' = b }
section
variable {P : Program} {κ : List Tmp} {loc : List (Option Tmp)} {nt : Nat} {g : G} {w : World} {r r' : R} {a : Act} {o : Go.Oper} {d : D} {next : Act → World → Prop} {Q : Exit → Act → World → Prop} {σ : zd}
end
section
variable {P : Program} {κ : List Tmp} {loc : List (Option Tmp)} {nt : Nat} {g : G} {w : World} {r r' : R} {a : Act} {o : Go.Oper} {d : D} {next : Act → World → Prop} {Q : Exit → Act → World → Prop} {σ : zd}
end
def zKw : D → Bool
 | .no => true
 | _ => false
def zGD (κ : List Tmp) (loc : List (Option Tmp)) : Option Operand → Option X → Bool
 | none,none => true
 | some x,some y => okX κ loc x y
 | _,_ => false
def zI3 (P : Program) (t : TypeId) : Option Nat → Bool
 | none => zmR P t == some false
 | some n => zmR P t == some true && zj1 P t == some n
def zzK (P : Program) (t : TypeId) (zero : List C) (fresh : List (Nat × Nat)) : Bool :=
 match zeroOf P t with
 | some zs => zg7 zs zero && zkx zs fresh
 | none => false
def zLt : Go.Op → Option (TypeId × Operand × Operand × Operand)
 | .mapUpdate t m k v => some (t,m,k,v)
 | .insert t m k v => some (t,m,k,v)
 | _ => none
theorem zCB {o : Go.Op} {t : TypeId} {m k v : Operand} (h : zLt o = some (t,m,k,v)) : o = .mapUpdate t m k v ∨ o = .insert t m k v:=by
 unfold zLt at h;split at h
 ·injection h with h
  simp only [Prod.mk.injEq] at h;obtain ⟨rfl,rfl,rfl,rfl⟩:=h;exact .inl rfl
 ·injection h with h
  simp only [Prod.mk.injEq] at h;obtain ⟨rfl,rfl,rfl,rfl⟩:=h;exact .inr rfl
 ·cases h
def zom (P : Program) (κ : List Tmp) (loc : List (Option Tmp)) (o : Go.Oper) (d : D) : Op → Bool
 | .mv x => match o.op with
   | .move y => okX κ loc y x
   | .assign y => okX κ loc y x
   | _ => false
 | .pick c x y => match o.op with
   | .pick c' x' y' => okX κ loc c' c && okX κ loc x' x && okX κ loc y' y
   | _ => false
 | .bin op x y => match o.op with
   | .binOp op' _ x' y' _ => decide (op' = op) && okX κ loc x' x && okX κ loc y' y
   | _ => false
 | .beq neg x y => match o.op with
   | .binOp op t x' y' _ => (match op with
     | .eql => !neg
     | .neq => neg
     | _ => false) && (match P.underlying t with
     | some .bool => true
     | _ => false) && okX κ loc x' x && okX κ loc y' y
   | _ => false
 | .eqa n neg x y => match o.op with
   | .binOp op t x' y' _ => (match op with
     | .eql => !neg
     | .neq => neg
     | _ => false) && zzv P t == some n && !(P.eqGuardType P.depth t) && okX κ loc x' x && okX κ loc y' y
   | _ => false
 | .un op x => match o.op with
   | .unOp op' _ x' => decide (op' = op) && okX κ loc x' x
   | _ => false
 | .conv k x => match o.op with
   | .convert s t x' => (P.underlying s).isSome && (match P.underlying t with
     | some (.int k') => decide (k' = k)
     | _ => false) && okX κ loc x' x
   | _ => false
 | .len x => match o.op with
   | .call { callee:=.builtin .len,args:=⟨[x']⟩,argTypes:=⟨[t]⟩ } => (match P.underlying t with
     | some (.slice _) => true
     | _ => false) && okX κ loc x' x
   | _ => false
 | .fa off x => match o.op with
   | .fieldAddr t x' i => (match P.underlying t with
     | some (.struct fs) => (match fs[i]? with
       | some f => (match zj1 P f.type with
         | some n => decide (n ≠ 0)
         | none => false) && f.offset == off
       | none => false)
     | _ => false) && okX κ loc x' x
   | _ => false
 | .ia sz x i => match o.op with
   | .indexAddr t x' i' => (match P.underlying t with
     | some (.slice e) => zj1 P e == some sz
     | _ => false) && okX κ loc x' x && okX κ loc i' i
   | _ => false
 | .iaa n sz x i => match o.op with
   | .indexAddr t x' i' => (match P.underlying t with
     | some (.array n' e) => n' == n && zj1 P e == some sz
     | _ => false) && okX κ loc x' x && okX κ loc i' i
   | _ => false
 | .ld sz x => match o.op with
   | .load t x' => zI3 P t sz && okX κ loc x' x
   | _ => false
 | .st sz x v => match o.op with
   | .store t x' v' => zKw d && zj1 P t == some sz && decide (0 < sz) && okX κ loc x' x && okX κ loc v' v
   | _ => false
 | .al zero fresh => match o.op with
   | .alloc t => zzK P t zero fresh
   | _ => false
 | .box sz x => match o.op with
   | .box _ x' => decide (0 < sz) && okX κ loc x' x
   | _ => false
 | .bld zero parts fresh => match o.op with
   | .build t ps => zzK P t zero fresh && (match zqt P t with
     | some place => znM κ loc place ps.toList parts
     | none => false)
   | _ => false
 | .bsl _ sz zero parts => match o.op with
   | .buildSlice t len ps => (match P.underlying t with
     | some (.slice e) => zj1 P e == some sz && (match zeroOf P e with
       | some zs => zs.length == sz && zs.all Value.oneCell' && zD8 zs zero
       | none => false)
     | _ => false) && decide (0 < sz) && zero.length == len && decide (len * sz ≤ 16777216) && zkk κ loc ps.toList parts
   | _ => false
 | .nl _ _ => match o.op with
   | .move (.const (.slice none 0 0)) => true
   | .assign (.const (.slice none 0 0)) => true
   | _ => false
 | .app sz s x => match o.op with
   | .call { callee:=.builtin .append,args:=⟨[s',x']⟩,argTypes:=⟨[t,t']⟩ } => t == t' && (match P.underlying t with
     | some (.slice e) => (match P.info? e with
       | some i => decide (i.bytes ≤ 32768) && i.size == sz
       | none => false) && (match zeroOf P e with
       | some zs => zs.length == sz
       | none => false)
     | _ => false) && decide (0 < sz) && okX κ loc s' s && okX κ loc x' x
   | _ => false
 | .cpy sz x y => match o.op with
   | .call { callee:=.builtin .copy,args:=⟨[x',y']⟩,argTypes:=⟨[t,_]⟩ } => (match P.underlying t with
     | some (.slice e) => zj1 P e == some sz
     | _ => false) && decide (0 < sz) && okX κ loc x' x && okX κ loc y' y
   | _ => false
 | .mks zero fresh n => match o.op with
   | .makeSlice t (.tmp l) (.tmp c) => l == c && (match P.underlying t with
     | some (.slice e) => (match P.info? e with
       | some i => decide (i.bytes ≤ 32768) && decide (0 < i.size) && (match zeroOf P e with
         | some zs => zs.length == i.size && zg7 zs zero && (match fresh with
           | some j => zkx zs [j]
           | none => true)
         | none => false)
       | none => false)
     | _ => false) && okX κ loc (.tmp l) n
   | _ => false
 | .mkc sz n => match o.op with
   | .makeSlice t (.const (.int _ 0)) x => (match P.underlying t with
     | some (.slice e) => (match P.info? e with
       | some i => decide (i.bytes ≤ 32768) && i.size == sz && i.zero.isSome
       | none => false)
     | _ => false) && okX κ loc x n
   | _ => false
 | .slc sz x lo hi mx => match o.op with
   | .slice t x' lo' hi' mx' => (match P.underlying t with
     | some (.slice e) => zj1 P e == some sz
     | _ => false) && okX κ loc x' x && zGD κ loc lo' lo && zGD κ loc hi' hi && (match mx,mx' with
     | none,none => true
     | some m,some m' => hi.isSome && okX κ loc m' m
     | _,_ => false)
   | _ => false
 | .ext x i => match o.op with
   | .extract x' i' => i' == i && okX κ loc x' x
   | _ => false
 | .fld off sz x => match o.op with
   | .field t x' i => (match P.underlying t with
     | some (.struct fs) => (match fs[i]? with
       | some f => f.offset == off && zI3 P f.type sz
       | none => false)
     | _ => false) && okX κ loc x' x
   | _ => false
 | .nil x => match o.op with
   | .nilCheck x' => okX κ loc x' x
   | _ => false
 | .mkf f first caps => match o.op with
   | .makeFunc (.func f') first' caps' => f' == f && zDC κ loc first'.toList first && zDC κ loc caps'.toList caps
   | _ => false
 | .mkm => match o.op with
   | .makeMap _ none => true
   | _ => false
 | .lk zero ok m k => match o.op with
   | .lookup t m' k' ok' => ok' == ok && (match P.underlying t with
     | some (.map key elem) => (match P.underlying key with
       | some (.int .i64) => true
       | _ => false) && (match P.info? elem with
       | some i => (match i.zero with
         | some z => zr4 z zero
         | none => false)
       | none => false)
     | _ => false) && okX κ loc m' m && okX κ loc k' k
   | _ => false
 | .mu m k v => match zLt o.op with
   | some (t,m',k',v') => zKw d && (match P.underlying t with
     | some (.map key _) => (match P.underlying key with
       | some (.int .i64) => true
       | _ => false)
     | _ => false) && okX κ loc m' m && okX κ loc k' k && okX κ loc v' v
   | none => false
 | .mxn isMax x y => match o.op with
   | .call { callee:=.builtin b,args:=⟨[x',y']⟩,.. } => decide (b = if isMax then .max else .min) && okX κ loc x' x && okX κ loc y' y
   | _ => false
 | .call _ f xs => match o.op with
   | .call { callee:=.value f',args,.. } => okX κ loc f' f && zDC κ loc args.toList xs
   | _ => false
 | .no _ => true
section
variable {P : Program} {κ : List Tmp} {loc : List (Option Tmp)} {nt : Nat} {g : G} {w : World} {r r' : R} {a : Act} {o : Go.Oper} {d : D} {next : Act → World → Prop} {Q : Exit → Act → World → Prop}
theorem znp (F : Fr κ loc nt g w r a) {x : Option Operand} {y : Option X} (h : zGD κ loc x y = true) : Opt g w r a x y:=by
 unfold zGD at h;split at h
 ·exact ⟨fun z b => (by cases b),fun _ => rfl⟩
 ·rename_i x y
  exact ⟨fun z b => (by injection b with b; subst b; exact ⟨x,rfl,F.get h⟩),fun c => (by cases c)⟩
 ·cases h
theorem zpE {t : TypeId} : ∀ {sz : Option Nat},zI3 P t sz = true → match sz with
  | none => zmR P t = some false
  | some n => zmR P t = some true ∧ zj1 P t = some n
 | none,h => by simpa [zI3] using h
 | some n,h => by simpa [zI3] using h
theorem znw {t : TypeId} {zero : List C} {fresh : List (Nat × Nat)} (h : zzK P t zero fresh = true) : ∃ zs,zeroOf P t = some zs ∧ zg7 zs zero = true ∧ zkx zs fresh = true:=by
 unfold zzK at h;split at h
 ·rename_i zs a
  simp only [ya] at h;exact ⟨zs,a,h⟩
 ·cases h
theorem zzF {Cf : zaz} (S : zhU P Cf) (J : Rel g w r.st) (L : Low r.base r.lim r.st) (F : Fr κ loc nt g w r a) (hd : okD κ nt o.dst d = true) {x : Op} (p : zom P κ loc o d x = true) {r1 : R} (h : zbM Cf r d x = some r1)
  (k : zsl κ (zbE o.dst d :: loc) nt g w r r1 (a.put o.dst) next) : o.wp P a w next Q:=by
 have pure : ∀ {v : V},(∃ u,(execOp a.eval o).run P w = .ok (.value u) w ∧ zh g w r.st v u) → zsl κ (zbE o.dst d :: loc) nt g w r (r.put d v) (a.put o.dst) next → o.wp P a w next Q:=fun ⟨u,q,B⟩ kk => zov J L F hd q B kk
 have mapped : ∀ {x : Option V},x.map (r.put d) = some r1 → (∀ v,x = some v → ∃ u,(execOp a.eval o).run P w = .ok (.value u) w ∧ zh g w r.st v u) → o.wp P a w next Q:=fun {x} hx C => by
  rw [yb] at hx;obtain ⟨v,q,rfl⟩:=hx;exact pure (C v q) k
 cases x <;> simp only [zbM] at h <;> simp only [zom] at p
 case mv x =>
  injection h with h;subst h;split at p
  ·rename_i y A
   exact pure ⟨_,zuI (.inl A),F.get p⟩ k
  ·rename_i y A
   exact pure ⟨_,zuI (.inr A),F.get p⟩ k
  ·cases p
 case pick c x y =>
  split at p
  ·rename_i c' I W A
   simp only [ya] at p;exact mapped h fun v C => zAD A (F.get p.1.1) (F.get p.1.2) (F.get p.2) C
  ·cases p
 case bin op x y =>
  split at p
  ·rename_i aB t I W yt A
   simp only [ya,decide_eq_true_eq] at p;obtain ⟨⟨rfl,q⟩,B⟩:=p;exact mapped h fun v C => zA4 A (F.get q) (F.get B) C
  ·cases p
 case beq neg x y =>
  split at p
  ·rename_i op t I W ty A
   simp only [ya] at p;obtain ⟨⟨⟨q,B⟩,H⟩,E⟩:=p
   have U : (op = .eql ∧ neg = false) ∨ (op = .neq ∧ neg = true):=by
    cases op <;> simp_all
   split at B
   ·rename_i G
    exact mapped h fun v C => zDM A U G (F.get H) (F.get E) C
   ·cases B
  ·cases p
 case eqa n neg x y =>
  split at p
  ·rename_i op t I W ty A
   simp only [ya,beq_iff_eq,yv] at p;obtain ⟨⟨⟨⟨q,B⟩,D⟩,H⟩,E⟩:=p
   have U : (op = .eql ∧ neg = false) ∨ (op = .neq ∧ neg = true):=by
    cases op <;> simp_all
   exact mapped h fun v C => zEk A U B D (F.get H) (F.get E) C
  ·cases p
 case un op x =>
  split at p
  ·rename_i aB t I A
   simp only [ya,decide_eq_true_eq] at p;obtain ⟨rfl,q⟩:=p;exact mapped h fun v C => zBM A (F.get q) C
  ·cases p
 case conv kk x =>
  split at p
  ·rename_i s t I A
   simp only [ya] at p;obtain ⟨⟨q,B⟩,D⟩:=p;split at B
   ·rename_i k' G
    have : k' = kk:=(by simpa using B);subst this;exact mapped h fun v C => zAE A q G (F.get D) C
   ·cases B
  ·cases p
 case len x =>
  split at p
  ·rename_i I t A
   simp only [ya] at p;obtain ⟨q,B⟩:=p;split at q
   ·rename_i e G
    exact mapped h fun v C => zB8 A rfl rfl rfl G (F.get B) C
   ·cases q
  ·cases p
 case fa off x =>
  split at p
  ·rename_i t I i A
   simp only [ya] at p;obtain ⟨q,B⟩:=p;split at q
   ·rename_i fs G
    split at q
    ·rename_i f hf
     simp only [ya,beq_iff_eq] at q;obtain ⟨q,D⟩:=q;split at q
     ·rename_i n hs
      exact mapped h fun v C => zE6 A G hf hs (by simpa using q) D (F.get B) C
     ·cases q
    ·cases q
   ·cases q
  ·cases p
 case ia sz x i =>
  split at p
  ·rename_i t I i' A
   simp only [ya] at p;obtain ⟨⟨q,B⟩,D⟩:=p;split at q
   ·rename_i e G
    exact mapped h fun v C => zFO A G (by simpa using q) (F.get B) (F.get D) C
   ·cases q
  ·cases p
 case iaa n sz x i =>
  split at p
  ·rename_i t I i' A
   simp only [ya] at p;obtain ⟨⟨q,B⟩,D⟩:=p;split at q
   ·rename_i n' e G
    simp only [ya,beq_iff_eq] at q;obtain ⟨rfl,q⟩:=q;exact mapped h fun v C => zDO A G q (F.get B) (F.get D) C
   ·cases q
  ·cases p
 case ld sz x =>
  split at p
  ·rename_i t I A
   simp only [ya] at p;exact mapped h fun v C => zyY J A (zpE p.1) (F.get p.2) C
  ·cases p
 case st sz x v =>
  split at p
  ·rename_i t I v' A
   simp only [ya,beq_iff_eq,decide_eq_true_eq] at p;obtain ⟨⟨⟨⟨q,B⟩,D⟩,H⟩,E⟩:=p;rw [yb] at h;obtain ⟨r2,h,rfl⟩:=h;exact zGz J L F A hd (by cases d <;> simp [zKw] at q ⊢) B D (F.get H) (F.get E) h k
  ·cases p
 case al zero fresh =>
  injection h with h;subst h;split at p
  ·rename_i t A
   obtain ⟨Z,q,B,D⟩:=znw p;exact zGg J L F A hd q B D k
  ·cases p
 case box sz x =>
  split at p
  ·rename_i t I A
   simp only [ya,decide_eq_true_eq] at p;split at h
   ·rename_i X
    injection h with h;subst h;exact zCN J L F A hd p.1 (F.get p.2) X.1 X.2 k
   ·cases h
  ·cases p
 case bld zero parts fresh =>
  split at p
  ·rename_i t ps A
   simp only [ya] at p;obtain ⟨q,B⟩:=p;obtain ⟨Z,D,H,E⟩:=znw q;split at B
   ·rename_i place hp
    exact zC1 J L F A hd D H E hp B h k
   ·cases B
  ·cases p
 case bsl b sz zero parts =>
  split at p
  ·rename_i t len ps A
   simp only [ya,beq_iff_eq,decide_eq_true_eq] at p;obtain ⟨⟨⟨⟨q,B⟩,D⟩,H⟩,E⟩:=p;split at q
   ·rename_i e G
    simp only [ya,beq_iff_eq] at q;obtain ⟨q,N⟩:=q;split at N
    ·rename_i Z O
     simp only [ya,beq_iff_eq] at N;exact zDx J L F A hd G q B D H O N.1.1 N.1.2 N.2 E h k
    ·cases N
   ·cases q
  ·cases p
 case nl b sz =>
  split at p
  ·rename_i A
   exact zzP J L F (.inl A) hd h k
  ·rename_i A
   exact zzP J L F (.inr A) hd h k
  ·cases p
 case app sz s x =>
  split at p
  ·rename_i s' I t t' A
   simp only [ya,beq_iff_eq,decide_eq_true_eq] at p;obtain ⟨⟨⟨⟨rfl,q⟩,B⟩,D⟩,H⟩:=p;split at q
   ·rename_i e G
    simp only [ya] at q;obtain ⟨q,E⟩:=q;split at q
    ·rename_i i K
     split at E
     ·rename_i Z O
      simp only [ya,beq_iff_eq,decide_eq_true_eq] at q E;exact zEa J L F A rfl rfl rfl hd G K q.1 q.2 B O E (F.get D) (F.get H) h k
     ·cases E
    ·cases q
   ·cases q
  ·cases p
 case cpy sz x y =>
  split at p
  ·rename_i I W t t' A
   simp only [ya,decide_eq_true_eq] at p;obtain ⟨⟨⟨q,B⟩,D⟩,H⟩:=p;split at q
   ·rename_i e G
    exact zEJ J L F A rfl rfl rfl hd G (by simpa using q) B (F.get D) (F.get H) h k
   ·cases q
  ·cases p
 case mks zero fresh n =>
  split at p
  ·rename_i t l c A
   simp only [ya,beq_iff_eq] at p;obtain ⟨⟨rfl,q⟩,B⟩:=p;split at q
   ·rename_i e G
    split at q
    ·rename_i i K
     simp only [ya,decide_eq_true_eq] at q;obtain ⟨⟨D,H⟩,E⟩:=q;split at E
     ·rename_i Z O
      simp only [ya,beq_iff_eq] at E;obtain ⟨⟨N,h7⟩,h8⟩:=E;refine zCv J L F A hd G K D rfl H O N h7 (fun j hj => ?_) (F.get B) h k;subst hj;simp only [zkx,Bool.and_true] at h8;split at h8
      ·assumption
      ·cases h8
     ·cases E
    ·cases q
   ·cases q
  ·cases p
 case mkc sz n =>
  split at p
  ·rename_i t kl x A
   simp only [ya] at p;obtain ⟨q,B⟩:=p;split at q
   ·rename_i e G
    split at q
    ·rename_i i K
     simp only [ya,decide_eq_true_eq,beq_iff_eq] at q;obtain ⟨⟨D,H⟩,E⟩:=q;obtain ⟨z,O⟩:=ym.1 E;exact zER J L F A hd G K D H O (F.get B) h k
    ·cases q
   ·cases q
  ·cases p
 case slc sz x lo K mx =>
  split at p
  ·rename_i t I aG aD aE A
   simp only [ya] at p;obtain ⟨⟨⟨⟨q,B⟩,D⟩,H⟩,E⟩:=p;split at q
   ·rename_i e G
    have M : zGS r K mx = true:=by
     by_cases M : zGS r K mx = true
     ·exact M
     ·rw [if_neg M] at h
      cases h
    rw [if_pos M] at h;refine mapped h fun v C => zDI A G (by simpa using q) (znp F D) (znp F H) ?_ (F.get B) C;split at E
    ·exact .inl ⟨rfl,rfl⟩
    ·rename_i m m'
     simp only [ya] at E;obtain ⟨E,N⟩:=E;refine .inr ⟨rfl,E,?_⟩
     cases K with
     | none => cases E
     | some hx =>
       obtain ⟨z',e1,e2⟩:=(znp F H).1 hx rfl;have e3:=F.get N;simp only [zGS] at M;unfold zx5 at M;split at M
       ·rename_i q1 q2
        simp only [ya,decide_eq_true_eq] at M;rw [q1] at e3;rw [q2] at e2;rw [e1,yD,yD,(zaf e3).1,(zaf e2).1,M.1,M.2]
       ·cases M
    ·cases E
   ·cases q
  ·cases p
 case ext x i =>
  split at p
  ·rename_i I i' A
   simp only [ya,beq_iff_eq] at p;obtain ⟨rfl,q⟩:=p;exact mapped h fun v C => zEN A (F.get q) C
  ·cases p
 case fld off sz x =>
  split at p
  ·rename_i t I i A
   simp only [ya] at p;obtain ⟨q,B⟩:=p;split at q
   ·rename_i fs G
    split at q
    ·rename_i f hf
     simp only [ya,beq_iff_eq] at q;exact mapped h fun v C => zCs A G hf q.1 (zpE q.2) (F.get B) C
    ·cases q
   ·cases q
  ·cases p
 case nil x =>
  split at p
  ·rename_i I A
   exact mapped h fun v C => zBD A (F.get p) C
  ·cases p
 case mkf f first caps =>
  injection h with h;subst h;split at p
  ·rename_i f' Y aC A
   simp only [ya,beq_iff_eq] at p;obtain ⟨⟨rfl,q⟩,B⟩:=p;exact pure (zCI F A q B) k
  ·cases p
 case mkm =>
  injection h with h;subst h;split at p
  ·rename_i t A
   exact zCu J L F A hd k
  ·cases p
 case lk zero ok m kk =>
  split at p
  ·rename_i t m' k' aF A
   simp only [ya,beq_iff_eq] at p;obtain ⟨⟨⟨rfl,q⟩,B⟩,D⟩:=p;split at q
   ·rename_i key elem G
    simp only [ya] at q;obtain ⟨q,H⟩:=q;split at q
    ·rename_i hk
     split at H
     ·rename_i i K
      split at H
      ·rename_i z O
       exact mapped h fun v C => zFo J A G hk K O H (F.get B) (F.get D) C
      ·cases H
     ·cases H
    ·cases q
   ·cases q
  ·cases p
 case mu m kk v =>
  split at p
  ·rename_i t m' k' v' A
   simp only [ya] at p;obtain ⟨⟨⟨⟨q,B⟩,D⟩,H⟩,E⟩:=p;split at B
   ·rename_i key elem G
    split at B
    ·rename_i hk
     rw [yb] at h;obtain ⟨r2,h,rfl⟩:=h;exact zG3 J L F (zCB A) hd (by cases d <;> simp [zKw] at q ⊢) G hk (F.get D) (F.get H) (F.get E) h k
    ·cases B
   ·cases B
  ·cases p
 case mxn isMax x y =>
  split at p
  ·rename_i b I W aA A
   simp only [ya,decide_eq_true_eq] at p;obtain ⟨⟨q,B⟩,D⟩:=p;exact mapped h fun v C => zDP A rfl q rfl (F.get B) (F.get D) C
  ·cases p
 case call m f xs =>
  split at p
  ·rename_i f' args aA A
   simp only [ya] at p;exact zAs S J L F A rfl hd p.1 p.2 h k
  ·cases p
 case no => exact absurd h (by simp [zbM])
end
end Go.A
