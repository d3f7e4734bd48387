/- A part of the proof of SchedDepth. Conditions: none. -/
import Derived.Test.YtmkncmffaaninaaGreatDAF
import Derived.Laws.StructEq
import Derived.ChangeKeysEq
set_option linter.unusedVariables false
set_option linter.unusedSimpArgs false
set_option linter.unusedSectionVars false
open Bool renaming and_eq_true → ya
open Option renaming map_eq_some_iff → yb
open List renaming mem_cons_of_mem → yc,mem_of_getElem? → yd,map_cons → ye,getElem?_modify → yf,mem_map → yg,nodup_append → yh,getElem?_map → yi,all_cons → yj,map_id → yk,length_take → yl,nodup_cons → ym,map_append → yn,range → yo,mem_cons → yp
namespace Go.A
section
variable {P : Program} {κ : List Tmp} {loc : List (Option Tmp)} {nt : Nat} {g : G} {w : World} {r r' : R} {a : Act} {o : Go.Oper} {d : D} {next : Act → World → Prop} {Q : Exit → Act → World → Prop}
theorem run_checkKey {b : Bool} {t : TypeId} {k : IntKind} {v : Value} (h : P.underlying t = some (.int k)) : (Instr.checkKey b 10000 t v).run P w = .ok () w:=by
 show (Instr.checkKey b (9999 + 1) t v).run P w = _
 unfold Instr.checkKey
 rw [Sem.run_bind,run_underlying h]
 cases v <;> rfl
theorem zeU {σ : zd} {k : Int} : ∀ {es : List (Int × V)} {zbl : List MapEntry} {i : Nat},zpX g w σ es zbl → zif k es = none → Instr.findNow (.int .i64) (.int .i64 k) zbl i = some none
 | [],zbl,i,hm,_ => by
   have : zbl = []:=hm
   subst this
   rfl
 | x :: es,zbl,i,hm,h => by
   obtain ⟨e,rest,rfl,h1,_,h3⟩:=hm
   simp only [zif] at h
   split at h
   ·cases h
   ·rename_i hne
    unfold Instr.findNow
    have hne' : ¬ (k = x.1):=fun e => hne e.symm
    simp only [h1,Instr.sameNow,if_pos]
    have : (k == x.1) = false:=by simpa using hne'
    rw [this]
    exact zeU h3 h
theorem zeQ {σ : zd} {k : Int} : ∀ {es : List (Int × V)} {zbl : List MapEntry} {i : Nat} {v : V},zpX g w σ es zbl → zif k es = some v →
  ∃ j e,Instr.findNow (.int .i64) (.int .i64 k) zbl i = some (some (i + j,e.val)) ∧ zbl[j]? = some e ∧ e.key = .int .i64 k ∧ zf g w σ v e.val ∧
    ∀ {g' : G} {w' : World} {σ' : zd} {v' : V} {u' : Value},Ext g w σ g' w' σ' → zf g' w' σ' v' u' → zpX g' w' σ' (zmg k v' es) (zbl.modify j fun e => { e with key:=.int .i64 k,val:=u' })
 | [],_,_,_,_,h => by simp [zif] at h
 | x :: es,zbl,i,v,hm,h => by
   obtain ⟨e,rest,rfl,h1,h2,h3⟩:=hm
   simp only [zif] at h
   split at h
   ·rename_i hk
    injection h with h
    subst h
    refine ⟨0,e,?_,by simp,by rw [h1,hk],h2,fun H hv => ?_⟩
    ·unfold Instr.findNow
     simp [h1,Instr.sameNow,hk]
    ·simp only [zmg,if_pos hk,List.modify_zero_cons]
     exact ⟨_,_,rfl,rfl,hv,H.zpX h3⟩
   ·rename_i hne
    obtain ⟨j,e',h4,h5,h6,h7,h8⟩:=zeQ (i:=i + 1) h3 h
    refine ⟨j + 1,e',?_,by simpa using h5,h6,h7,fun H hv => ?_⟩
    ·unfold Instr.findNow
     have : (k == x.1) = false:=by simpa using fun e : k = x.1 => hne e.symm
     simp only [h1,Instr.sameNow,if_pos,this]
     rw [h4,show i + 1 + j = i + (j + 1) from by omega]
    ·simp only [zmg,if_neg hne,List.modify_succ_cons]
     exact ⟨_,_,rfl,h1,H.zf _ _ h2,h8 H hv⟩
theorem zvc {σ : zd} {k : Int} : ∀ {es : List (Int × V)} {zbl : List MapEntry},zpX g w σ es zbl → zif k es = none → ∀ {g' : G} {w' : World} {σ' : zd} {v' : V} {e' : MapEntry},Ext g w σ g' w' σ' → e'.key = .int .i64 k → zf g' w' σ' v' e'.val → zpX g' w' σ' (zmg k v' es) (zbl ++ [e'])
 | [],zbl,hm,_,_,_,_,_,e',H,hk,hv => by
   have : zbl = []:=hm
   subst this
   exact ⟨e',[],rfl,hk,hv,rfl⟩
 | x :: es,zbl,hm,h,_,_,_,_,e',H,hk,hv => by
   obtain ⟨e,rest,rfl,h1,h2,h3⟩:=hm
   simp only [zif] at h
   split at h
   ·cases h
   ·rename_i hne
    simp only [zmg,if_neg hne]
    exact ⟨e,rest ++ [e'],rfl,h1,H.zf _ _ h2,zvc h3 h H hk hv⟩
theorem zjt {k : Int} : ∀ {es : List (Int × V)},zif k es = none ↔ ∀ e ∈ es,e.1 ≠ k
 | [] => by simp [zif]
 | e :: es => by
   simp only [zif]
   split
   ·rename_i h
    simp [h]
   ·rename_i h
    rw [zjt (es:=es)]
    simp [h]
theorem zop {k : Int} {v : V} : ∀ {es : List (Int × V)},(es.map (·.1)).Nodup → (zif k es = some v ↔ (k,v) ∈ es)
 | [],_ => by simp [zif]
 | e :: es,hn => by
   simp only [ye,ym] at hn
   simp only [zif]
   split
   ·rename_i h
    subst h
    constructor
    ·intro h; injection h with h; subst h; simp
    ·intro h
     rcases yp.1 h with h | h
     ·rw [← h]
     ·exact absurd (yg.2 ⟨_,h,rfl⟩) hn.1
   ·rename_i h
    rw [zop hn.2]
    constructor
    ·exact fun h => yc _ h
    ·intro h'
     rcases yp.1 h' with h' | h'
     ·exact absurd (by rw [← h']) h
     ·exact h'
theorem zoz {k : Int} {es es' : List (Int × V)} (hn : (es'.map (·.1)).Nodup) (h : es'.Perm es) : zif k es' = zif k es:=by
 have hn' : (es.map (·.1)).Nodup:=(h.map _).nodup_iff.1 hn
 cases hg : zif k es' with
 | none =>
   refine (zjt.2 fun e he => zjt.1 hg e (h.mem_iff.2 he)).symm
 | some v => exact ((zop hn').2 (h.mem_iff.1 ((zop hn).1 hg))).symm
theorem zie {k : Int} {v : V} : ∀ {es : List (Int × V)},zif k es = none → zmg k v es = es ++ [(k,v)]
 | [],_ => rfl
 | e :: es,h => by
   simp only [zif] at h
   split at h
   ·cases h
   ·rename_i hne
    simp only [zmg,if_neg hne,zie h,List.cons_append]
theorem zsN {k : Int} {v v0 : V} : ∀ {es : List (Int × V)},zif k es = some v0 → (zmg k v es).map (·.1) = es.map (·.1)
 | [],h => by simp [zif] at h
 | e :: es,h => by
   simp only [zif] at h
   split at h
   ·rename_i hk
    simp [zmg,hk]
   ·rename_i hne
    simp only [zmg,if_neg hne,ye,zsN h]
theorem zpk {k : Int} {v v0 : V} : ∀ {es : List (Int × V)},(es.map (·.1)).Nodup → zif k es = some v0 → ((k,v0) :: zmg k v es).Perm ((k,v) :: es)
 | [],_,h => by simp [zif] at h
 | e :: es,hn,h => by
   simp only [ye,ym] at hn
   simp only [zif] at h
   split at h
   ·rename_i hk
    injection h with h
    simp only [zmg,if_pos hk]
    have : e = (k,v0):=by rw [← hk,← h]
    rw [this]
    exact List.Perm.swap _ _ _
   ·rename_i hne
    simp only [zmg,if_neg hne]
    exact (List.Perm.swap _ _ _).trans (((zpk hn.2 h).cons e).trans (List.Perm.swap _ _ _))
theorem zy0 {k : Int} {v : V} {es es' : List (Int × V)} (hn : (es'.map (·.1)).Nodup) (h : es'.Perm es) : (zmg k v es').Perm (zmg k v es):=by
 have hn' : (es.map (·.1)).Nodup:=(h.map _).nodup_iff.1 hn
 cases hg : zif k es' with
 | none =>
   rw [zie hg,zie (by rw [← zoz hn h]; exact hg)]
   exact h.append_right _
 | some v0 =>
   have h1:=zpk (v:=v) hn hg
   have h2:=zpk (v:=v) hn' (by rw [← zoz hn h]; exact hg)
   exact (List.perm_cons _).1 (h1.trans ((h.cons _).trans h2.symm))
theorem zql {k : Int} {v : V} {es : List (Int × V)} (hn : (es.map (·.1)).Nodup) : ((zmg k v es).map (·.1)).Nodup:=by
 cases hg : zif k es with
 | none =>
   rw [zie hg,yn]
   refine yh.2 ⟨hn,by simp,fun a ha b hb => ?_⟩
   simp at hb
   subst hb
   obtain ⟨e,he,rfl⟩:=yg.1 ha
   exact zjt.1 hg e he
 | some v0 => rw [zsN hg]; exact hn
theorem zx2 {σ : zd} {id : Nat} {es : List (Int × V)} (h : (σ[id]?).bind Ob.entries = some es) : σ[id]? = some (.mp es):=by
 rw [Option.bind_eq_some_iff] at h
 obtain ⟨ob,h1,h2⟩:=h
 unfold Ob.entries at h2
 split at h2
 ·injection h2 with h2; subst h2; exact h1
 ·cases h2
theorem zBf (R0 : Rel g w r.st) {t key elem : TypeId} {x k : Operand} {ok : Bool} {z : Value} {i : TypeInfo} {zero : V} (ho : o.op = .lookup t x k ok) (ht : P.underlying t = some (.map key elem)) (hk : P.underlying key = some (.int .i64)) (hi : P.info? elem = some i) (hz : i.zero = some z) (hzero : zpv z zero = true)
  {vx vk v : V} (hx : zf g w r.st vx (a.eval x)) (hvk : zf g w r.st vk (a.eval k)) (h : alk r.st zero ok vx vk = some v) :
  ∃ u,(execOp a.eval o).run P w = .ok (.value u) w ∧ zf g w r.st v u:=by
 have miss : ∀ u,(∀ b,Instr.checkKey b 10000 key (a.eval k) = Instr.checkKey b 10000 key (a.eval k)) → (Instr.lookup t (a.eval x) (a.eval k) ok).run P w = .ok u w → (execOp a.eval o).run P w = .ok (.value u) w:=fun u _ hr => by
  unfold execOp
  simp only [ho,Sem.run_bind,hr,Result.andThen_ok,Sem.run_pure]
 have htrue : zf g w r.st (ziV true) (.bool true):=zt rfl
 have hfalse : zf g w r.st (ziV false) (.bool false):=zt rfl
 have pair : ∀ {v1 : V} {u1 : Value} {b : Bool},zf g w r.st v1 u1 → zf g w r.st (.tup [v1,ziV b]) (.tuple #[u1,.bool b]):=fun {v1 u1 b} h1 => by
  simp only [zf]
  exact ⟨_,rfl,by simp only [zz]; exact ⟨_,_,rfl,h1,_,_,rfl,zt rfl,rfl⟩⟩
 unfold alk at h
 split at h
 ·rename_i id kk
  obtain ⟨ek,_⟩:=zA hvk
  rw [yb] at h
  obtain ⟨es,h1,rfl⟩:=h
  have hid:=zx2 h1
  obtain ⟨_,_,zbl,clock,hh,⟨es',hperm,hnd,hm⟩,_,_⟩:=R0.ob id _ hid
  simp only [zf,zw] at hx
  have ex:=hx.2
  rw [← zoz hnd hperm]
  cases hg : zif kk es' with
  | none =>
    have hf:=zeU (i:=0) hm hg
    cases ok
    ·refine ⟨z,miss z (fun _ => rfl) ?_,zfx hzero⟩
     rw [ex,ek]
     simp [Instr.lookup,run_underlying ht,MapKept.run_getObj_map hh,run_checkKey (P:=P) (w:=w) hk,Instr.findKey,run_underlying hk,hf,zc1 (w:=w) hi hz]
    ·refine ⟨.tuple #[z,.bool false],miss _ (fun _ => rfl) ?_,pair (zfx hzero)⟩
     rw [ex,ek]
     simp [Instr.lookup,run_underlying ht,MapKept.run_getObj_map hh,run_checkKey (P:=P) (w:=w) hk,Instr.findKey,run_underlying hk,hf,zc1 (w:=w) hi hz]
  | some v0 =>
    obtain ⟨j,e,hf,_,_,hv,_⟩:=zeQ (i:=0) hm hg
    cases ok
    ·refine ⟨e.val,miss _ (fun _ => rfl) ?_,hv⟩
     rw [ex,ek]
     simp [Instr.lookup,run_underlying ht,MapKept.run_getObj_map hh,run_checkKey (P:=P) (w:=w) hk,Instr.findKey,run_underlying hk,hf]
    ·refine ⟨.tuple #[e.val,.bool true],miss _ (fun _ => rfl) ?_,pair hv⟩
     rw [ex,ek]
     simp [Instr.lookup,run_underlying ht,MapKept.run_getObj_map hh,run_checkKey (P:=P) (w:=w) hk,Instr.findKey,run_underlying hk,hf]
 ·obtain ⟨ek,_⟩:=zA hvk
  obtain ⟨ex,_⟩:=zA hx
  injection h with h
  subst h
  cases ok
  ·refine ⟨z,miss z (fun _ => rfl) ?_,zfx hzero⟩
   rw [ex,ek]
   simp [Instr.lookup,run_underlying ht,run_checkKey (P:=P) (w:=w) hk,Instr.findKey,run_underlying hk,Instr.findNow,zc1 (w:=w) hi hz]
  ·refine ⟨.tuple #[z,.bool false],miss _ (fun _ => rfl) ?_,pair (zfx hzero)⟩
   rw [ex,ek]
   simp [Instr.lookup,run_underlying ht,run_checkKey (P:=P) (w:=w) hk,Instr.findKey,run_underlying hk,Instr.findNow,zc1 (w:=w) hi hz]
 ·cases h
theorem zCk (R0 : Rel g w r.st) (L : Low r.base r.lim r.st) (F : Fr κ loc nt g w r a) {t key elem : TypeId} {x k y : Operand} (ho : o.op = .mapUpdate t x k y ∨ o.op = .insert t x k y) (hd : okD κ nt o.dst d = true) (hno : d = .no) (ht : P.underlying t = some (.map key elem)) (hk : P.underlying key = some (.int .i64))
  {vx vk vy : V} (hx : zf g w r.st vx (a.eval x)) (hvk : zf g w r.st vk (a.eval k)) (hy : zf g w r.st vy (a.eval y)) {r1 : R} (h : amu r vy vx vk = some r1) (kk : znE κ (zaO o.dst d :: loc) nt g w r (r1.put d vun) (a.put o.dst) next) : o.wp P a w next Q:=by
 unfold amu at h
 split at h
 ·rename_i id n
  obtain ⟨ek,_⟩:=zA hvk
  ·rw [yb] at h
   obtain ⟨es,h1,rfl⟩:=h
   have hid:=zx2 h1
   obtain ⟨_,_,zbl,clock,hh,⟨es',hperm,hnd,hm⟩,hb1,hb2⟩:=R0.ob id _ hid
   simp only [zf,zw] at hx
   have ex:=hx.2
   have hpp:=zy0 (k:=n) (v:=vy) hnd hperm
   have hlow : Low r.base r.lim (r.setOb id (.mp (zmg n vy es))).st:=L.set
   cases hg : zif n es' with
   | none =>
     have hf:=zeU (i:=0) hm hg
     obtain ⟨H,R1⟩:=map_set (clock':=clock + 1) (es':=zmg n vy es) (ents':=zbl.push { key:=.int .i64 n,val:=a.eval y,born:=clock }) R0 hid hh fun H => by
      rw [Array.toList_push]
      refine ⟨⟨_,hpp,zql hnd,zvc hm hg H rfl (H.zf _ _ hy)⟩,?_,?_⟩
      ·rw [yn]
       refine yh.2 ⟨hb1,by simp,fun a ha b hb => ?_⟩
       simp at hb
       subst hb
       obtain ⟨e,he,rfl⟩:=yg.1 ha
       have:=hb2 e he
       omega
      ·intro e he
       rcases List.mem_append.1 he with he | he
       ·have:=hb2 e he
        omega
       ·simp at he
        subst he
        simp
     refine zrn (r1:=r.setOb id (.mp (zmg n vy es))) F hd hno H R1 hlow rfl rfl ?_ kk
     rcases ho with ho | ho <;> (unfold execOp; simp only [ho,ex,ek]; simp [Instr.mapUpdate,run_underlying ht,MapKept.run_getObj_map hh,run_checkKey (P:=P) (w:=w) hk,Instr.findKey,run_underlying hk,hf,MapKept.run_setObj_map _ hh])
   | some v0 =>
     obtain ⟨j,e,hf,hj,hkey,_,hnew⟩:=zeQ (i:=0) hm hg
     obtain ⟨H,R1⟩:=map_set (clock':=clock) (es':=zmg n vy es) (ents':=zbl.modify j fun e => { e with key:=.int .i64 n,val:=a.eval y }) R0 hid hh fun H => by
      rw [Array.toList_modify]
      refine ⟨⟨_,hpp,zql hnd,hnew H (H.zf _ _ hy)⟩,?_,?_⟩
      ·have e1 : ((zbl.toList.modify j fun e => { e with key:=.int .i64 n,val:=a.eval y }).map (·.born)) = zbl.toList.map (·.born):=by
        refine List.ext_getElem? fun i => ?_
        rw [yi,yi,yf]
        cases zbl.toList[i]? <;> simp
        split <;> rfl
       rw [e1]
       exact hb1
      ·intro e he
       obtain ⟨i,hi⟩:=List.mem_iff_getElem?.1 he
       rw [yf] at hi
       cases hq : zbl.toList[i]? with
       | none => rw [hq] at hi; simp at hi
       | some e0 =>
         have:=hb2 e0 (yd hq)
         rw [hq] at hi
         simp at hi
         rw [← hi]
         split <;> exact this
     refine zrn (r1:=r.setOb id (.mp (zmg n vy es))) F hd hno H R1 hlow rfl rfl ?_ kk
     have hj' : zbl[j]? = some e:=by simpa using hj
     rcases ho with ho | ho <;> (unfold execOp; simp only [ho,ex,ek]; simp [Instr.mapUpdate,run_underlying ht,MapKept.run_getObj_map hh,run_checkKey (P:=P) (w:=w) hk,Instr.findKey,run_underlying hk,hf,hj',hkey,Instr.keyThatStays,Instr.sameBits,MapKept.run_setObj_map _ hh])
 ·cases h
def zmc (xs ys : Array Value) (i : Nat) : Bool:=match xs[i]?,ys[i]? with
 | some (.int _ a),some (.int _ b) => a == b
 | _,_ => false
def zrl (xs ys : Array Value) (i : Nat) : Prop:=∃ k a b,xs[i]? = some (.int k a) ∧ ys[i]? = some (.int k b)
def zk0 (P : Program) (t : TypeId) : Bool:=match P.underlying t with
 | some (.int _) => true
 | _ => false
theorem zjh {t : TypeId} (h : zk0 P t = true) : ∃ k,P.underlying t = some (.int k):=by
 unfold zk0 at h
 split at h
 ·exact ⟨_,by assumption⟩
 ·cases h
theorem zhg {t : TypeId} (h : zk0 P t = true) {xs : Array Value} {i : Nat} {v : Value} (hv : xs[i]? = some v) : (part t xs i).run P w = .ok v w:=by
 obtain ⟨k,hk⟩:=zjh h
 have ha : zjN P t = some false:=by unfold zjN; rw [hk]; rfl
 unfold part
 simp only [Sem.run_bind,zhV (w:=w) ha,Result.andThen_ok,Bool.false_eq_true,if_false,hv]
 rfl
theorem zoj {e : TypeId} (he : zk0 P e = true) (d : Nat) (xs ys : Array Value) : ∀ (l : List Nat),(∀ i ∈ l,zrl xs ys i) → (Op.eqItems (d + 1) e 1 xs ys l).run P w = .ok (l.all (zmc xs ys)) w
 | [],_ => by simp [Op.eqItems]
 | i :: l,h => by
   obtain ⟨k,a,b,h1,h2⟩:=h i (by simp)
   obtain ⟨k',hk'⟩:=zjh he
   have ih:=zoj he d xs ys l fun j hj => h j (yc _ hj)
   simp only [Op.eqItems,Nat.mul_one,Sem.run_bind,zhg he h1,zhg he h2,Result.andThen_ok,run_equalIn_int w d e k k' a b hk',yj]
   have hv : zmc xs ys i = (a == b):=by unfold zmc; rw [h1,h2]
   rw [hv]
   cases hab : (a == b) with
   | false => simp
   | true => simpa using ih
theorem znj (d : Nat) (xs ys : Array Value) : ∀ (fs : List Field), (∀ f ∈ fs, f.name ≠ "_" ∧ zk0 P f.type = true ∧ zrl xs ys f.offset) → (Op.eqFields (d + 1) xs ys fs).run P w = .ok ((fs.map (·.offset)).all (zmc xs ys)) w
 | [],_ => by simp [Op.eqFields]
 | f :: fs,h => by
   obtain ⟨hn,he,k,a,b,h1,h2⟩:=h f (by simp)
   obtain ⟨k',hk'⟩:=zjh he
   have ih:=znj d xs ys fs fun j hj => h j (yc _ hj)
   simp only [Op.eqFields,if_pos hn,Sem.run_bind,zhg he h1,zhg he h2,Result.andThen_ok,run_equalIn_int w d f.type k k' a b hk',ye,yj]
   have hv : zmc xs ys f.offset = (a == b):=by unfold zmc; rw [h1,h2]
   rw [hv]
   cases hab : (a == b) with
   | false => simp
   | true => simpa using ih
def zu3 (P : Program) (t : TypeId) : Option Nat:=match P.underlying t with
 | some (.array n e) => if zk0 P e && (P.cellsOf e == 1) && (P.info? e).isSome then some n else none
 | some (.struct fs) => if !P.stoodInHeld t && fs.toList.all (fun f => decide (f.name ≠ "_") && zk0 P f.type) && (fs.toList.map (·.offset) == yo fs.toList.length) && (P.fieldsOf t).toList.length == fs.toList.length then some fs.toList.length else none
 | _ => none
theorem zBU {t : TypeId} {n : Nat} (h : zu3 P t = some n) {xs ys : Array Value} (hb : ∀ i,i < n → zrl xs ys i) : (Op.equalIn 10000 t (.agg xs) (.agg ys)).run P w = .ok ((yo n).all (zmc xs ys)) w:=by
 unfold zu3 at h
 split at h
 ·rename_i n' e hu
  split at h
  ·rename_i hc
   injection h with h
   subst h
   simp only [ya,beq_iff_eq] at hc
   obtain ⟨⟨h1,h2⟩,h3⟩:=hc
   obtain ⟨i,hi⟩:=Option.isSome_iff_exists.1 h3
   rw [run_equalIn_array w 9999 xs ys hu hi,h2]
   exact zoj h1 9998 xs ys _ fun j hj => hb j (by simpa using hj)
  ·cases h
 ·rename_i fs hu
  split at h
  ·rename_i hc
   injection h with h
   subst h
   simp only [ya,Bool.not_eq_true',beq_iff_eq] at hc
   obtain ⟨⟨⟨h1,h2⟩,h3⟩,h4⟩:=hc
   have hf : P.fieldsOf t = fs:=by simp [Program.fieldsOf,hu]
   rw [run_equalIn_struct w 9999 t xs ys (by rw [hf]; exact hu) h1,hf]
   rw [znj 9998 xs ys fs.toList fun f hf' => ?_,h3]
   have h5:=List.all_eq_true.1 h2 f hf'
   simp only [ya,decide_eq_true_eq] at h5
   have h6 : f.offset ∈ fs.toList.map (·.offset):=yg.2 ⟨f,hf',rfl⟩
   rw [h3] at h6
   exact ⟨h5.1,h5.2,hb _ (by simpa using h6)⟩
  ·cases h
 ·cases h
theorem znl {σ : zd} : ∀ {cs ds : List C} {us vs : List Value} {b : Bool},zjR cs ds = some b → zv g w σ cs us → zv g w σ ds vs → us.length = cs.length ∧ vs.length = cs.length ∧ (∀ i,i < cs.length → zrl us.toArray vs.toArray i) ∧ b = (yo cs.length).all (zmc us.toArray vs.toArray)
 | [],[],us,vs,b,h,hu,hv => by
   have e1 : us = []:=by simpa only [zv] using hu
   have e2 : vs = []:=by simpa only [zv] using hv
   subst e1 e2
   simp only [zjR,Option.some.injEq] at h
   subst h
   exact ⟨rfl,rfl,fun i hi => by simp at hi,by simp⟩
 | c :: cs,d :: ds,us,vs,b,h,hu,hv => by
   unfold zjR at h
   split at h
   ·rename_i heq _; cases heq
   ·rename_i k a xs k' b' ys heq1 heq2
    injection heq1 with e1 e2
    injection heq2 with e3 e4
    subst e1 e2 e3 e4
    split at h
    ·rename_i hk
     subst hk
     rw [yb] at h
     obtain ⟨b1,h1,h2⟩:=h
     simp only [zv] at hu hv
     obtain ⟨u,us',rfl,hu1,hu2⟩:=hu
     obtain ⟨v,vs',rfl,hv1,hv2⟩:=hv
     obtain ⟨q1,q2,q3,q4⟩:=znl h1 hu2 hv2
     simp only [zw,rep] at hu1 hv1
     obtain ⟨rfl,_⟩:=hu1
     obtain ⟨rfl,_⟩:=hv1
     have hsucc : ∀ i,zmc (Value.int k a :: us').toArray (Value.int k b' :: vs').toArray (i + 1) = zmc us'.toArray vs'.toArray i:=fun i => by simp [zmc]
     refine ⟨by simp [q1],by simp [q2],fun i hi => ?_,?_⟩
     ·cases i with
      | zero => exact ⟨k,a,b',by simp,by simp⟩
      | succ i =>
        obtain ⟨k2,a2,b2,r1,r2⟩:=q3 i (by simpa using hi)
        exact ⟨k2,a2,b2,by simpa using r1,by simpa using r2⟩
     ·rw [← h2,q4,List.length_cons,List.range_succ_eq_map,yj,List.all_map]
      have h0 : zmc (Value.int k a :: us').toArray (Value.int k b' :: vs').toArray 0 = decide (a = b'):=by simp [zmc]; rfl
      rw [h0]
      congr 2
      funext i
      exact (hsucc i).symm
    ·cases h
   ·cases h
 | [],d :: ds,us,vs,b,h,_,_ => by simp [zjR] at h
 | c :: cs,[],us,vs,b,h,_,_ => by
   unfold zjR at h
   split at h <;> simp_all
theorem zzF {op : BinOp} {t yt : TypeId} {x y : Operand} {neg : Bool} {n : Nat} (ho : o.op = .binOp op t x y yt) (hop : (op = .eql ∧ neg = false) ∨ (op = .neq ∧ neg = true)) (hf : zu3 P t = some n) (hg : P.eqGuardType P.depth t = false)
  {vx vy v : V} (hx : zf g w r.st vx (a.eval x)) (hy : zf g w r.st vy (a.eval y)) (h : zE3 n neg vx vy = some v) :
  ∃ u,(execOp a.eval o).run P w = .ok (.value u) w ∧ zf g w r.st v u:=by
 unfold zE3 at h
 split at h
 ·rename_i cs ds
  split at h
  ·rename_i hn
   rw [yb] at h
   obtain ⟨b,h1,h2⟩:=h
   subst h2
   simp only [zf] at hx hy
   obtain ⟨us,hux,hcx⟩:=hx
   obtain ⟨vs,huy,hcy⟩:=hy
   obtain ⟨q1,q2,q3,q4⟩:=znl h1 hcx hcy
   rw [hn] at q3 q4
   have hrun:=zBU (w:=w) hf (xs:=us) (ys:=vs) (by simpa using q3)
   have hguard:=run_eqGuard_agg (P:=P) w op t x y us vs hg
   have q4' : b = (yo n).all (zmc us vs):=by simpa using q4
   rcases hop with ⟨rfl,rfl⟩ | ⟨rfl,rfl⟩
   ·refine ⟨.bool b,?_,zt (v:=.bool b) rfl⟩
    unfold execOp
    simp only [ho,hux,huy]
    simp [hguard,run_eql_struct,hrun,q4']
   ·refine ⟨.bool (!b),?_,zt (v:=.bool (!b)) rfl⟩
    unfold execOp
    simp only [ho,hux,huy]
    simp [hguard,run_neq_struct,hrun,q4']
  ·cases h
 ·cases h
theorem zpZ {t e : TypeId} (ht : P.underlying t = some (.pointer e)) (p : Option Addr) : (Op.equal t (.pointer p) (.pointer none)).run P w = .ok p.isNone w:=by
 unfold Op.equal Op.maxDepth Op.equalIn
 cases p <;> simp [run_underlying ht]
theorem zwN {op : BinOp} {t e yt : TypeId} {x : Operand} {neg : Bool} (ho : o.op = .binOp op t x (.const (.pointer none)) yt) (hop : (op = .eql ∧ neg = false) ∨ (op = .neq ∧ neg = true)) (ht : P.underlying t = some (.pointer e))
  {vx v : V} (hx : zf g w r.st vx (a.eval x)) (h : zBc neg vx = some v) :
  ∃ u,(execOp a.eval o).run P w = .ok (.value u) w ∧ zf g w r.st v u:=by
 have key : ∀ p : Option Addr,a.eval x = .pointer p → ∃ u,(execOp a.eval o).run P w = .ok (.value u) w ∧ zf g w r.st (ziV (if neg then !p.isNone else p.isNone)) u:=fun p ex => by
  have hr:=zpZ (P:=P) (w:=w) ht p
  have ec : a.eval (.const (.pointer none)) = .pointer none:=rfl
  rcases hop with ⟨rfl,rfl⟩ | ⟨rfl,rfl⟩
  ·refine ⟨.bool p.isNone,?_,zt (v:=.bool p.isNone) rfl⟩
   unfold execOp
   simp only [ho,ex]
   simp [eqGuard,binOp,ec,hr]
  ·refine ⟨.bool (!p.isNone),?_,zt (v:=.bool (!p.isNone)) rfl⟩
   unfold execOp
   simp only [ho,ex]
   simp [eqGuard,binOp,ec,hr]
 unfold zBc at h
 split at h
 ·injection h with h
  subst h
  simp only [zf,zw] at hx
  obtain ⟨_,_,_,_,_,_,ad,e⟩:=hx
  have:=key _ e
  cases neg <;> exact this
 ·injection h with h
  subst h
  simp only [zf,zw] at hx
  obtain ⟨_,_,e,_⟩:=hx
  have:=key _ e
  cases neg <;> exact this
 ·injection h with h
  subst h
  have:=key none (zA hx).1
  cases neg <;> exact this
 ·cases h
theorem zyE {op : BinOp} {t yt : TypeId} {x y : Operand} {neg : Bool} (ho : o.op = .binOp op t x y yt) (hop : (op = .eql ∧ neg = false) ∨ (op = .neq ∧ neg = true)) (ht : P.underlying t = some .bool)
  {vx vy v : V} (hx : zf g w r.st vx (a.eval x)) (hy : zf g w r.st vy (a.eval y)) (h : zE4 neg vx vy = some v) :
  ∃ u,(execOp a.eval o).run P w = .ok (.value u) w ∧ zf g w r.st v u:=by
 unfold zE4 at h
 split at h
 ·rename_i p q
  obtain ⟨ex,_⟩:=zA hx
  obtain ⟨ey,_⟩:=zA hy
  injection h with h
  subst h
  have hr:=run_equal_bool (P:=P) w t p q ht
  rcases hop with ⟨rfl,rfl⟩ | ⟨rfl,rfl⟩
  ·refine ⟨.bool (p == q),?_,zt (v:=.bool (p == q)) rfl⟩
   unfold execOp
   simp only [ho,ex,ey]
   simp [eqGuard,binOp,hr]
  ·refine ⟨.bool (!(p == q)),?_,zt (v:=.bool (!(p == q))) rfl⟩
   unfold execOp
   simp only [ho,ex,ey]
   simp [eqGuard,binOp,hr]
 ·cases h
end
end Go.A
namespace Go.A
def Ow.cut (n : Nat) : Ow → Ow
 | .no => .no
 | .ob id => if id < n then .ob id else .no
 | .tk t k => if t < n then .tk t k else .no
theorem Ow.cut_cut {n m : Nat} (h : n ≤ m) (o : Ow) (ho : o.cut n = o) : o.cut m = o:=by
 cases o with
 | no => rfl
 | ob id =>
   simp only [Ow.cut] at ho ⊢
   split at ho
   ·rw [if_pos (by omega)]
   ·cases ho
 | tk t k =>
   simp only [Ow.cut] at ho ⊢
   split at ho
   ·rw [if_pos (by omega)]
   ·cases ho
theorem Ow.cut_idem (n : Nat) (o : Ow) : (o.cut n).cut n = o.cut n:=by
 cases o with
 | no => rfl
 | ob id => by_cases h : id < n <;> simp [Ow.cut,h]
 | tk t k => by_cases h : t < n <;> simp [Ow.cut,h]
def G.drop (g : G) (n : Nat) (w : World) : G :=
 { g with
   ow:=fun b => (g.ow b).cut n
   N:=fun b o => g.N b o ∨ (b < w.heap.size ∧ ∃ id,n ≤ id ∧ g.ow b = .ob id) }
def Clean (g : G) (n : Nat) : Prop:=∀ b,(g.ow b).cut n = g.ow b
section
variable {g : G} {w : World} {σ : zd} {n : Nat}
theorem ziy {α : Type} {l : List α} {i n : Nat} (h : i < n) : (l.take n)[i]? = l[i]?:=by rw [List.getElem?_take,if_pos h]
theorem zmx {id : Nat} (h : id < n) : shapeOf (σ.take n) id = shapeOf σ id:=by unfold shapeOf; rw [ziy h]
theorem zzL {t k : Nat} (h : t < n) : zlw (σ.take n) t k = zlw σ t k:=by unfold zlw; rw [ziy h]
theorem zvi {t : Nat} (h : t < n) : znT (σ.take n) t = znT σ t:=by unfold znT; rw [ziy h]
theorem zgD : zgM w w g.N (g.drop n w).N:=fun _ _ h => ⟨.inl h,rfl⟩
mutual
theorem zo2 : ∀ (c : C) (u : Value),zw g w σ c u → c.lt n = true → zw (g.drop n w) w (σ.take n) c u
 | .f x,u,h,_ => by
   simp only [zw] at h ⊢
   exact zb5 zgD x u h
 | .ap t k xs,u,h,hl => by
   have ht : t < n:=by simpa [C.lt] using hl
   simp only [zw] at h ⊢
   obtain ⟨h1,m,h2,h3,h4,sz,h5,h6⟩:=h
   exact ⟨zb5 zgD _ u h1,m,by rw [zzL ht]; exact h2,h3,h4,sz,by rw [zvi ht]; exact h5,h6⟩
 | .ptr id ver i off,u,h,hl => by
   have ht : id < n:=by simpa [C.lt] using hl
   simp only [zw] at h ⊢
   rw [zmx ht]
   exact h
 | .fp cs off,u,h,_ => by
   simp only [zw] at h ⊢
   obtain ⟨b,o,h1,h2⟩:=h
   exact ⟨b,o,h1,zfe zgD cs b o h2⟩
 | .own id ver lo m,u,h,hl => by
   have ht : id < n:=by simpa [C.lt] using hl
   simp only [zw] at h ⊢
   rw [zmx ht]
   exact h
 | .map id,u,h,hl => by
   have ht : id < n:=by simpa [C.lt] using hl
   simp only [zw] at h ⊢
   rw [ziy ht]
   exact h
 | .fn f a b,u,h,hl => by
   simp only [C.lt,ya] at hl
   simp only [zw] at h ⊢
   obtain ⟨fs,cs,h1,h2,h3⟩:=h
   exact ⟨fs,cs,h1,zke a _ h2 hl.1,zke b _ h3 hl.2⟩
 | .un,_,_,_ => by simp only [zw]
theorem zke : ∀ (cs : List C) (us : List Value),zv g w σ cs us → C.lts n cs = true → zv (g.drop n w) w (σ.take n) cs us
 | [],us,h,_ => by simpa only [zv] using h
 | c :: cs,us,h,hl => by
   simp only [C.lts,ya] at hl
   simp only [zv] at h ⊢
   obtain ⟨v,vs,h1,h2,h3⟩:=h
   exact ⟨v,vs,h1,zo2 c v h2 hl.1,zke cs vs h3 hl.2⟩
end
mutual
theorem zjn : ∀ (c : V) (u : Value),zf g w σ c u → c.lt n = true → zf (g.drop n w) w (σ.take n) c u
 | .one c,u,h,hl => by
   simp only [V.lt] at hl
   simp only [zf] at h ⊢
   exact zo2 c u h hl
 | .agg cs,u,h,hl => by
   simp only [V.lt] at hl
   simp only [zf] at h ⊢
   obtain ⟨us,h1,h2⟩:=h
   exact ⟨us,h1,zke cs _ h2 hl⟩
 | .tup vs,u,h,hl => by
   simp only [V.lt] at hl
   simp only [zf] at h ⊢
   obtain ⟨us,h1,h2⟩:=h
   exact ⟨us,h1,zqc vs _ h2 hl⟩
theorem zqc : ∀ (vs : List V) (us : List Value),zz g w σ vs us → V.lts n vs = true → zz (g.drop n w) w (σ.take n) vs us
 | [],us,h,_ => by simpa only [zz] using h
 | c :: cs,us,h,hl => by
   simp only [V.lts,ya] at hl
   simp only [zz] at h ⊢
   obtain ⟨v,vs,h1,h2,h3⟩:=h
   exact ⟨v,vs,h1,zjn c v h2 hl.1,zqc cs vs h3 hl.2⟩
end
theorem zEn {os : List Ob} (h : Obs.lt n os = true) : ∀ {i : Nat} {o : Ob},os[i]? = some o → o.lt n = true:=by
 induction os with
 | nil => intro i o h; simp at h
 | cons x xs ih =>
   simp only [Obs.lt,ya] at h
   intro i o hi
   cases i with
   | zero => simp at hi; subst hi; exact h.1
   | succ i => exact ih h.2 (by simpa using hi)
theorem zs3 : ∀ {es : List (Int × V)} {zbl : List MapEntry},zpX g w σ es zbl → C.ltm n es = true → zpX (g.drop n w) w (σ.take n) es zbl
 | [],_,h,_ => h
 | x :: xs,_,h,hl => by
   simp only [C.ltm,ya] at hl
   obtain ⟨e,rest,h1,h2,h3,h4⟩:=h
   exact ⟨e,rest,h1,h2,zjn _ _ h3 hl.1,zs3 h4 hl.2⟩
theorem zuW : ∀ {es : List (Int × V)},C.ltm n es = true ↔ ∀ e ∈ es,e.2.lt n = true
 | [] => by simp [C.ltm]
 | e :: es => by simp [C.ltm,zuW (es:=es)]
theorem zwb {es : List (Int × V)} {zbl : List MapEntry} {clock : Nat} (h : zk2 g w σ es zbl clock) (hl : C.ltm n es = true) : zk2 (g.drop n w) w (σ.take n) es zbl clock:=by
 have:=zn4 (g':=g.drop n w) (w':=w) (σ':=σ.take n) h id (fun _ => rfl) (fun es' hp h => by
  rw [yk]
  exact zs3 h (zuW.2 fun e he => zuW.1 hl e (hp.mem_iff.1 he)))
 rwa [yk] at this
theorem zvO (R : Rel g w σ) (hl : Obs.lt n (σ.take n) = true) : Rel (g.drop n w) w (σ.take n):=by
 refine ⟨fun b o h => h.elim (R.nb b o) fun h => h.1,fun id o ho => ?_⟩
 have hid : id < n:=by
  have:=zb ho
  rw [yl] at this
  omega
 have hlt:=zEn hl ho
 rw [ziy hid] at ho
 have hor:=R.ob id o ho
 have how : ∀ b i,g.ow b = .ob i → i < n → (g.drop n w).ow b = .ob i:=fun b i h hi => by simp [G.drop,Ow.cut,h,hi]
 have hno : ∀ b i,g.ow b = .ob i → i < n → (∀ o,¬ g.N b o) → ∀ o,¬ (g.drop n w).N b o:=fun b i h hi hN o hno => by
  rcases hno with hno | ⟨_,j,hj,hno⟩
  ·exact hN o hno
  ·rw [h] at hno; injection hno with hno; omega
 cases o with
 | cells ver sz es =>
   intro hne
   obtain ⟨h1,h2,arr,t,h3,h4,h5⟩:=hor hne
   refine ⟨how _ _ h1 hid,hno _ _ h1 hid h2,arr,t,h3,h4,fun i e hi => ⟨(h5 i e hi).1,fun j c hc => ?_⟩⟩
   obtain ⟨u,k1,k2,k3⟩:=(h5 i e hi).2 j c hc
   simp only [Ob.lt] at hlt
   exact ⟨u,k1,zo2 c u k2 (zxV.1 (zvq.1 hlt e (yd hi)) c (yd hc)),k3⟩
 | mp es =>
   obtain ⟨h1,h2,zbl,clock,h3,h4⟩:=hor
   exact ⟨how _ _ h1 hid,hno _ _ h1 hid h2,zbl,clock,h3,zwb h4 (by simpa [Ob.lt] using hlt)⟩
 | tok sz fr =>
   intro k m hm
   rcases hor k m hm with h | ⟨b,o,c,arr,t,h1,h2,h3,h4,h5,h6,h7⟩
   ·exact .inl h
   ·refine .inr ⟨b,o,c,arr,t,h1,h2,h3,by simp [G.drop,Ow.cut,h4,hid],h5,h6,fun o' ho' => ?_⟩
    rcases ho' with ho' | ⟨_,j,_,ho'⟩
    ·exact h7 o' ho'
    ·rw [h4] at ho'; cases ho'
theorem zv1 {g0 : G} {w0 : World} {σ0 : zd} (H : Ext g0 w0 σ0 g w σ) (hc : Clean g0 σ0.length) (hn : σ0.length ≤ n) : Ext g0 w0 σ0 (g.drop n w) w (σ.take n) where
 os:=H.os
 tape:=H.tape
 output:=H.output
 size:=H.size
 keeps:=H.keeps.trans zgD
 len:=by have:=H.len; rw [yl]; omega
 shape:=fun id ver sz len h => by
  have hid : id < n:=by obtain ⟨es,h1,_⟩:=zaR h; have:=zb h1; omega
  rw [zmx hid]
  exact H.shape id ver sz len h
 map:=fun id es h => by
  have hid : id < n:=by have:=zb h; omega
  rw [ziy hid]
  exact H.map id es h
 tok:=fun t k m h => by
  have hid : t < n:=by obtain ⟨_,_,h1,_⟩:=zcX h; have:=zb h1; omega
  rw [zzL hid]
  exact H.tok t k m h
 tsz:=fun t sz h => by
  have hid : t < n:=by obtain ⟨_,h1⟩:=zez h; have:=zb h1; omega
  rw [zvi hid]
  exact H.tsz t sz h
 ow:=fun b hb => by
  show (g.ow b).cut n = _
  rw [H.ow b hb]
  exact Ow.cut_cut hn _ (hc b)
 new:=fun b o h hb ho => by
  rcases h with h | ⟨_,id,_,h⟩
  ·exact H.new b o h hb ho
  ·rw [H.ow b hb,ho] at h; cases h
 frame:=H.frame
def G.clean (g : G) (n : Nat) : G :=
 { g with ow:=fun b => (g.ow b).cut n }
theorem zfC (g : G) (n : Nat) : Clean (g.clean n) n:=fun b => Ow.cut_idem n _
mutual
theorem zoL {g' : G} (h1 : g'.ρ = g.ρ) (h2 : g'.tv = g.tv) (h3 : g'.N = g.N) : ∀ (c : C) (u : Value),zw g w σ c u → zw g' w σ c u
 | .f x,u,h => by simp only [zw] at h ⊢; rw [h3]; exact h
 | .ap t k xs,u,h => by simp only [zw] at h ⊢; rw [h3,h2]; exact h
 | .ptr id ver i off,u,h => by simp only [zw] at h ⊢; rw [h1]; exact h
 | .fp cs off,u,h => by simp only [zw] at h ⊢; rw [h3]; exact h
 | .own id ver lo m,u,h => by simp only [zw] at h ⊢; rw [h1]; exact h
 | .map id,u,h => by simp only [zw] at h ⊢; rw [h1]; exact h
 | .fn f a b,u,h => by
   simp only [zw] at h ⊢
   obtain ⟨fs,cs,k1,k2,k3⟩:=h
   exact ⟨fs,cs,k1,zka h1 h2 h3 a _ k2,zka h1 h2 h3 b _ k3⟩
 | .un,_,_ => by simp only [zw]
theorem zka {g' : G} (h1 : g'.ρ = g.ρ) (h2 : g'.tv = g.tv) (h3 : g'.N = g.N) : ∀ (cs : List C) (us : List Value),zv g w σ cs us → zv g' w σ cs us
 | [],us,h => by simpa only [zv] using h
 | c :: cs,us,h => by
   simp only [zv] at h ⊢
   obtain ⟨v,vs,k1,k2,k3⟩:=h
   exact ⟨v,vs,k1,zoL h1 h2 h3 c v k2,zka h1 h2 h3 cs vs k3⟩
end
mutual
theorem zgT {g' : G} (h1 : g'.ρ = g.ρ) (h2 : g'.tv = g.tv) (h3 : g'.N = g.N) : ∀ (c : V) (u : Value),zf g w σ c u → zf g' w σ c u
 | .one c,u,h => by simp only [zf] at h ⊢; exact zoL h1 h2 h3 c u h
 | .agg cs,u,h => by
   simp only [zf] at h ⊢
   obtain ⟨us,k1,k2⟩:=h
   exact ⟨us,k1,zka h1 h2 h3 cs _ k2⟩
 | .tup vs,u,h => by
   simp only [zf] at h ⊢
   obtain ⟨us,k1,k2⟩:=h
   exact ⟨us,k1,zqH h1 h2 h3 vs _ k2⟩
theorem zqH {g' : G} (h1 : g'.ρ = g.ρ) (h2 : g'.tv = g.tv) (h3 : g'.N = g.N) : ∀ (vs : List V) (us : List Value),zz g w σ vs us → zz g' w σ vs us
 | [],us,h => by simpa only [zz] using h
 | c :: cs,us,h => by
   simp only [zz] at h ⊢
   obtain ⟨v,vs,k1,k2,k3⟩:=h
   exact ⟨v,vs,k1,zgT h1 h2 h3 c v k2,zqH h1 h2 h3 cs vs k3⟩
end
theorem ztc {g' : G} (h1 : g'.ρ = g.ρ) (h2 : g'.tv = g.tv) (h3 : g'.N = g.N) : ∀ {es : List (Int × V)} {zbl : List MapEntry},zpX g w σ es zbl → zpX g' w σ es zbl
 | [],_,h => h
 | x :: xs,_,h => by
   obtain ⟨e,rest,k1,k2,k3,k4⟩:=h
   exact ⟨e,rest,k1,k2,zgT h1 h2 h3 _ _ k3,ztc h1 h2 h3 k4⟩
theorem zxe {g' : G} (h1 : g'.ρ = g.ρ) (h2 : g'.tv = g.tv) (h3 : g'.N = g.N) {es : List (Int × V)} {zbl : List MapEntry} {clock : Nat} (h : zk2 g w σ es zbl clock) : zk2 g' w σ es zbl clock:=by
 have:=zn4 (g':=g') (w':=w) (σ':=σ) h id (fun _ => rfl) (fun es' hp h => by
  rw [yk]
  exact ztc h1 h2 h3 h)
 rwa [yk] at this
theorem zyp {g' : G} (R : Rel g w σ) (h1 : g'.ρ = g.ρ) (h2 : g'.tv = g.tv) (h3 : g'.N = g.N) (hob : ∀ b id,id < σ.length → g.ow b = .ob id → g'.ow b = .ob id) (htk : ∀ b t k,t < σ.length → g.ow b = .tk t k → g'.ow b = .tk t k) : Rel g' w σ:=by
 refine ⟨by rw [h3]; exact R.nb,fun id o ho => ?_⟩
 have hlt:=zb ho
 have hor:=R.ob id o ho
 cases o with
 | cells ver sz es =>
   intro hne
   obtain ⟨k1,k2,arr,t,k3,k4,k5⟩:=hor hne
   rw [h1,h3]
   refine ⟨hob _ _ hlt k1,k2,arr,t,k3,k4,fun i e hi => ⟨(k5 i e hi).1,fun j c hc => ?_⟩⟩
   obtain ⟨u,m1,m2,m3⟩:=(k5 i e hi).2 j c hc
   exact ⟨u,m1,zoL h1 h2 h3 c u m2,m3⟩
 | mp es =>
   obtain ⟨k1,k2,zbl,clock,k3,k4⟩:=hor
   unfold zAt
   rw [h1,h3]
   exact ⟨hob _ _ hlt k1,k2,zbl,clock,k3,zxe h1 h2 h3 k4⟩
 | tok sz fr =>
   intro k m hm
   rw [h2,h3]
   rcases hor k m hm with h | ⟨b,o,c,arr,t,k1,k2,k3,k4,k5⟩
   ·exact .inl h
   ·exact .inr ⟨b,o,c,arr,t,k1,k2,k3,htk _ _ _ hlt k4,k5⟩
theorem zxH (R : Rel g w σ) : Rel (g.clean σ.length) w σ :=
 zyp R rfl rfl rfl (fun b id hid h => by simp [G.clean,Ow.cut,h,hid]) (fun b t k ht h => by simp [G.clean,Ow.cut,h,ht])
def G.under (g0 : G) (w0 : World) (g : G) : G:={ g with ow:=fun b => if b < w0.heap.size then g0.ow b else g.ow b }
theorem zoD {w' : World} {σ' : zd} {g' : G} (H : Ext (g.clean σ.length) w σ g' w' σ') : Ext g w σ (g.under w g') w' σ' where
 os:=H.os
 tape:=H.tape
 output:=H.output
 size:=H.size
 keeps:=H.keeps
 len:=H.len
 shape:=H.shape
 map:=H.map
 tok:=H.tok
 tsz:=H.tsz
 ow:=fun b hb => by
  show (if b < w.heap.size then g.ow b else g'.ow b) = _
  rw [if_pos hb]
 new:=fun b o h hb ho => H.new b o h hb (by simp [G.clean,Ow.cut,ho])
 frame:=fun b hb ho => H.frame b hb (by simp [G.clean,Ow.cut,ho])
theorem zpe {w' : World} {σ' : zd} {g' : G} (H : Ext (g.clean σ.length) w σ g' w' σ') (R : Rel g' w' σ') : Rel (g.under w g') w' σ':=by
 have key : ∀ b,b < w.heap.size → g'.ow b ≠ .no → g.ow b = g'.ow b:=fun b hb hne => by
  have:=H.ow b hb
  change g'.ow b = (g.ow b).cut σ.length at this
  rw [this] at hne ⊢
  cases h : g.ow b with
  | no => rfl
  | ob id =>
    rw [h] at hne
    simp only [Ow.cut] at hne ⊢
    split
    ·rfl
    ·rename_i hn; rw [if_neg hn] at hne; exact absurd rfl hne
  | tk t k =>
    rw [h] at hne
    simp only [Ow.cut] at hne ⊢
    split
    ·rfl
    ·rename_i hn; rw [if_neg hn] at hne; exact absurd rfl hne
 refine zyp (g':=g.under w g') R rfl rfl rfl (fun b id hid h => ?_) (fun b t k ht h => ?_)
 ·show (if b < w.heap.size then g.ow b else g'.ow b) = _
  split
  ·rw [key b (by assumption) (by rw [h]; simp),h]
  ·exact h
 ·show (if b < w.heap.size then g.ow b else g'.ow b) = _
  split
  ·rw [key b (by assumption) (by rw [h]; simp),h]
  ·exact h
end
end Go.A
