/- A part of the proof of SchedBack. Conditions: none. -/
import Derived.Test.YtmkncmffaaninaaGreatBAF
import Derived.Laws.StructEq
import Derived.ChangeKeysEq
set_option linter.unusedVariables false
set_option linter.unusedSimpArgs false
set_option linter.unusedSectionVars false
open Bool renaming and_eq_true → ya
open Option renaming map_eq_some_iff → yb
open List renaming mem_cons_of_mem → yc,mem_of_getElem? → yd,map_cons → ye,getElem?_modify → yf,mem_map → yg,nodup_append → yh,getElem?_map → yi,all_cons → yj,map_id → yk,length_take → yl,nodup_cons → ym,map_append → yn,range → yo,mem_cons → yp
namespace Go.A
section
variable {P : Program} {κ : List Tmp} {loc : List (Option Tmp)} {nt : Nat} {g : G} {w : World} {r r' : R} {a : Act} {o : Go.Oper} {d : D} {next : Act → World → Prop} {Q : Exit → Act → World → Prop}
theorem run_checkKey {b : Bool} {t : TypeId} {k : IntKind} {v : Value} (h : P.underlying t = some (.int k)) : (Instr.checkKey b 10000 t v).run P w = .ok () w:=by
 show (Instr.checkKey b (9999 + 1) t v).run P w = _
 unfold Instr.checkKey
 rw [Sem.run_bind,run_underlying h]
 cases v <;> rfl
theorem zex {σ : zb} {k : Int} : ∀ {es : List (Int × V)} {zaO : List MapEntry} {i : Nat},znc g w σ es zaO → zfj k es = none → Instr.findNow (.int .i64) (.int .i64 k) zaO i = some none
 | [],zaO,i,hm,_ => by
   have : zaO = []:=hm
   subst this
   rfl
 | x :: es,zaO,i,hm,h => by
   obtain ⟨e,rest,rfl,h1,_,h3⟩:=hm
   simp only [zfj] at h
   split at h
   ·cases h
   ·rename_i hne
    unfold Instr.findNow
    have hne' : ¬ (k = x.1):=fun e => hne e.symm
    simp only [h1,Instr.sameNow,if_pos]
    have : (k == x.1) = false:=by simpa using hne'
    rw [this]
    exact zex h3 h
theorem zep {σ : zb} {k : Int} : ∀ {es : List (Int × V)} {zaO : List MapEntry} {i : Nat} {v : V},znc g w σ es zaO → zfj k es = some v →
  ∃ j e,Instr.findNow (.int .i64) (.int .i64 k) zaO i = some (some (i + j,e.val)) ∧ zaO[j]? = some e ∧ e.key = .int .i64 k ∧ zf g w σ v e.val ∧
    ∀ {g' : G} {w' : World} {σ' : zb} {v' : V} {u' : Value},Ext g w σ g' w' σ' → zf g' w' σ' v' u' → znc g' w' σ' (zi8 k v' es) (zaO.modify j fun e => { e with key:=.int .i64 k,val:=u' })
 | [],_,_,_,_,h => by simp [zfj] at h
 | x :: es,zaO,i,v,hm,h => by
   obtain ⟨e,rest,rfl,h1,h2,h3⟩:=hm
   simp only [zfj] at h
   split at h
   ·rename_i hk
    injection h with h
    subst h
    refine ⟨0,e,?_,by simp,by rw [h1,hk],h2,fun H hv => ?_⟩
    ·unfold Instr.findNow
     simp [h1,Instr.sameNow,hk]
    ·simp only [zi8,if_pos hk,List.modify_zero_cons]
     exact ⟨_,_,rfl,rfl,hv,H.znc h3⟩
   ·rename_i hne
    obtain ⟨j,e',h4,h5,h6,h7,h8⟩:=zep (i:=i + 1) h3 h
    refine ⟨j + 1,e',?_,by simpa using h5,h6,h7,fun H hv => ?_⟩
    ·unfold Instr.findNow
     have : (k == x.1) = false:=by simpa using fun e : k = x.1 => hne e.symm
     simp only [h1,Instr.sameNow,if_pos,this]
     rw [h4,show i + 1 + j = i + (j + 1) from by omega]
    ·simp only [zi8,if_neg hne,List.modify_succ_cons]
     exact ⟨_,_,rfl,h1,H.zf _ _ h2,h8 H hv⟩
theorem zsK {σ : zb} {k : Int} : ∀ {es : List (Int × V)} {zaO : List MapEntry},znc g w σ es zaO → zfj k es = none → ∀ {g' : G} {w' : World} {σ' : zb} {v' : V} {e' : MapEntry},Ext g w σ g' w' σ' → e'.key = .int .i64 k → zf g' w' σ' v' e'.val → znc g' w' σ' (zi8 k v' es) (zaO ++ [e'])
 | [],zaO,hm,_,_,_,_,_,e',H,hk,hv => by
   have : zaO = []:=hm
   subst this
   exact ⟨e',[],rfl,hk,hv,rfl⟩
 | x :: es,zaO,hm,h,_,_,_,_,e',H,hk,hv => by
   obtain ⟨e,rest,rfl,h1,h2,h3⟩:=hm
   simp only [zfj] at h
   split at h
   ·cases h
   ·rename_i hne
    simp only [zi8,if_neg hne]
    exact ⟨e,rest ++ [e'],rfl,h1,H.zf _ _ h2,zsK h3 h H hk hv⟩
theorem zgL {k : Int} : ∀ {es : List (Int × V)},zfj k es = none ↔ ∀ e ∈ es,e.1 ≠ k
 | [] => by simp [zfj]
 | e :: es => by
   simp only [zfj]
   split
   ·rename_i h
    simp [h]
   ·rename_i h
    rw [zgL (es:=es)]
    simp [h]
theorem zmz {k : Int} {v : V} : ∀ {es : List (Int × V)},(es.map (·.1)).Nodup → (zfj k es = some v ↔ (k,v) ∈ es)
 | [],_ => by simp [zfj]
 | e :: es,hn => by
   simp only [ye,ym] at hn
   simp only [zfj]
   split
   ·rename_i h
    subst h
    constructor
    ·intro h; injection h with h; subst h; simp
    ·intro h
     rcases yp.1 h with h | h
     ·rw [← h]
     ·exact absurd (yg.2 ⟨_,h,rfl⟩) hn.1
   ·rename_i h
    rw [zmz hn.2]
    constructor
    ·exact fun h => yc _ h
    ·intro h'
     rcases yp.1 h' with h' | h'
     ·exact absurd (by rw [← h']) h
     ·exact h'
theorem zmA {k : Int} {es es' : List (Int × V)} (hn : (es'.map (·.1)).Nodup) (h : es'.Perm es) : zfj k es' = zfj k es:=by
 have hn' : (es.map (·.1)).Nodup:=(h.map _).nodup_iff.1 hn
 cases hg : zfj k es' with
 | none =>
   refine (zgL.2 fun e he => zgL.1 hg e (h.mem_iff.2 he)).symm
 | some v => exact ((zmz hn').2 (h.mem_iff.1 ((zmz hn).1 hg))).symm
theorem zfw {k : Int} {v : V} : ∀ {es : List (Int × V)},zfj k es = none → zi8 k v es = es ++ [(k,v)]
 | [],_ => rfl
 | e :: es,h => by
   simp only [zfj] at h
   split at h
   ·cases h
   ·rename_i hne
    simp only [zi8,if_neg hne,zfw h,List.cons_append]
theorem zqP {k : Int} {v v0 : V} : ∀ {es : List (Int × V)},zfj k es = some v0 → (zi8 k v es).map (·.1) = es.map (·.1)
 | [],h => by simp [zfj] at h
 | e :: es,h => by
   simp only [zfj] at h
   split at h
   ·rename_i hk
    simp [zi8,hk]
   ·rename_i hne
    simp only [zi8,if_neg hne,ye,zqP h]
theorem zmu {k : Int} {v v0 : V} : ∀ {es : List (Int × V)},(es.map (·.1)).Nodup → zfj k es = some v0 → ((k,v0) :: zi8 k v es).Perm ((k,v) :: es)
 | [],_,h => by simp [zfj] at h
 | e :: es,hn,h => by
   simp only [ye,ym] at hn
   simp only [zfj] at h
   split at h
   ·rename_i hk
    injection h with h
    simp only [zi8,if_pos hk]
    have : e = (k,v0):=by rw [← hk,← h]
    rw [this]
    exact List.Perm.swap _ _ _
   ·rename_i hne
    simp only [zi8,if_neg hne]
    exact (List.Perm.swap _ _ _).trans (((zmu hn.2 h).cons e).trans (List.Perm.swap _ _ _))
theorem zuA {k : Int} {v : V} {es es' : List (Int × V)} (hn : (es'.map (·.1)).Nodup) (h : es'.Perm es) : (zi8 k v es').Perm (zi8 k v es):=by
 have hn' : (es.map (·.1)).Nodup:=(h.map _).nodup_iff.1 hn
 cases hg : zfj k es' with
 | none =>
   rw [zfw hg,zfw (by rw [← zmA hn h]; exact hg)]
   exact h.append_right _
 | some v0 =>
   have h1:=zmu (v:=v) hn hg
   have h2:=zmu (v:=v) hn' (by rw [← zmA hn h]; exact hg)
   exact (List.perm_cons _).1 (h1.trans ((h.cons _).trans h2.symm))
theorem znE {k : Int} {v : V} {es : List (Int × V)} (hn : (es.map (·.1)).Nodup) : ((zi8 k v es).map (·.1)).Nodup:=by
 cases hg : zfj k es with
 | none =>
   rw [zfw hg,yn]
   refine yh.2 ⟨hn,by simp,fun a ha b hb => ?_⟩
   simp at hb
   subst hb
   obtain ⟨e,he,rfl⟩:=yg.1 ha
   exact zgL.1 hg e he
 | some v0 => rw [zqP hg]; exact hn
theorem zuE {σ : zb} {id : Nat} {es : List (Int × V)} (h : (σ[id]?).bind Ob.entries = some es) : σ[id]? = some (.mp es):=by
 rw [Option.bind_eq_some_iff] at h
 obtain ⟨ob,h1,h2⟩:=h
 unfold Ob.entries at h2
 split at h2
 ·injection h2 with h2; subst h2; exact h1
 ·cases h2
theorem zw6 (R0 : Rel g w r.st) {t key elem : TypeId} {x k : Operand} {ok : Bool} {z : Value} {i : TypeInfo} {zero : V} (ho : o.op = .lookup t x k ok) (ht : P.underlying t = some (.map key elem)) (hk : P.underlying key = some (.int .i64)) (hi : P.info? elem = some i) (hz : i.zero = some z) (hzero : zmk z zero = true)
  {vx vk v : V} (hx : zf g w r.st vx (a.eval x)) (hvk : zf g w r.st vk (a.eval k)) (h : alk r.st zero ok vx vk = some v) :
  ∃ u,(execOp a.eval o).run P w = .ok (.value u) w ∧ zf g w r.st v u:=by
 have miss : ∀ u,(∀ b,Instr.checkKey b 10000 key (a.eval k) = Instr.checkKey b 10000 key (a.eval k)) → (Instr.lookup t (a.eval x) (a.eval k) ok).run P w = .ok u w → (execOp a.eval o).run P w = .ok (.value u) w:=fun u _ hr => by
  unfold execOp
  simp only [ho,Sem.run_bind,hr,Result.andThen_ok,Sem.run_pure]
 have htrue : zf g w r.st (zfL true) (.bool true):=zn rfl
 have hfalse : zf g w r.st (zfL false) (.bool false):=zn rfl
 have pair : ∀ {v1 : V} {u1 : Value} {b : Bool},zf g w r.st v1 u1 → zf g w r.st (.tup [v1,zfL b]) (.tuple #[u1,.bool b]):=fun {v1 u1 b} h1 => by
  simp only [zf]
  exact ⟨_,rfl,by simp only [zv]; exact ⟨_,_,rfl,h1,_,_,rfl,zn rfl,rfl⟩⟩
 unfold alk at h
 split at h
 ·rename_i id kk
  obtain ⟨ek,_⟩:=zx hvk
  rw [yb] at h
  obtain ⟨es,h1,rfl⟩:=h
  have hid:=zuE h1
  obtain ⟨_,_,zaO,clock,hh,⟨es',hperm,hnd,hm⟩,_,_⟩:=R0.ob id _ hid
  simp only [zf,zr] at hx
  have ex:=hx.2
  rw [← zmA hnd hperm]
  cases hg : zfj kk es' with
  | none =>
    have hf:=zex (i:=0) hm hg
    cases ok
    ·refine ⟨z,miss z (fun _ => rfl) ?_,zdj hzero⟩
     rw [ex,ek]
     simp [Instr.lookup,run_underlying ht,MapKept.run_getObj_map hh,run_checkKey (P:=P) (w:=w) hk,Instr.findKey,run_underlying hk,hf,zbT (w:=w) hi hz]
    ·refine ⟨.tuple #[z,.bool false],miss _ (fun _ => rfl) ?_,pair (zdj hzero)⟩
     rw [ex,ek]
     simp [Instr.lookup,run_underlying ht,MapKept.run_getObj_map hh,run_checkKey (P:=P) (w:=w) hk,Instr.findKey,run_underlying hk,hf,zbT (w:=w) hi hz]
  | some v0 =>
    obtain ⟨j,e,hf,_,_,hv,_⟩:=zep (i:=0) hm hg
    cases ok
    ·refine ⟨e.val,miss _ (fun _ => rfl) ?_,hv⟩
     rw [ex,ek]
     simp [Instr.lookup,run_underlying ht,MapKept.run_getObj_map hh,run_checkKey (P:=P) (w:=w) hk,Instr.findKey,run_underlying hk,hf]
    ·refine ⟨.tuple #[e.val,.bool true],miss _ (fun _ => rfl) ?_,pair hv⟩
     rw [ex,ek]
     simp [Instr.lookup,run_underlying ht,MapKept.run_getObj_map hh,run_checkKey (P:=P) (w:=w) hk,Instr.findKey,run_underlying hk,hf]
 ·obtain ⟨ek,_⟩:=zx hvk
  obtain ⟨ex,_⟩:=zx hx
  injection h with h
  subst h
  cases ok
  ·refine ⟨z,miss z (fun _ => rfl) ?_,zdj hzero⟩
   rw [ex,ek]
   simp [Instr.lookup,run_underlying ht,run_checkKey (P:=P) (w:=w) hk,Instr.findKey,run_underlying hk,Instr.findNow,zbT (w:=w) hi hz]
  ·refine ⟨.tuple #[z,.bool false],miss _ (fun _ => rfl) ?_,pair (zdj hzero)⟩
   rw [ex,ek]
   simp [Instr.lookup,run_underlying ht,run_checkKey (P:=P) (w:=w) hk,Instr.findKey,run_underlying hk,Instr.findNow,zbT (w:=w) hi hz]
 ·cases h
theorem zxt (R0 : Rel g w r.st) (L : Low r.base r.lim r.st) (F : Fr κ loc nt g w r a) {t key elem : TypeId} {x k y : Operand} (ho : o.op = .mapUpdate t x k y ∨ o.op = .insert t x k y) (hd : okD κ nt o.dst d = true) (hno : d = .no) (ht : P.underlying t = some (.map key elem)) (hk : P.underlying key = some (.int .i64))
  {vx vk vy : V} (hx : zf g w r.st vx (a.eval x)) (hvk : zf g w r.st vk (a.eval k)) (hy : zf g w r.st vy (a.eval y)) {r1 : R} (h : amu r vy vx vk = some r1) (kk : zkO κ (zaj o.dst d :: loc) nt g w r (r1.put d vun) (a.put o.dst) next) : o.wp P a w next Q:=by
 unfold amu at h
 split at h
 ·rename_i id n
  obtain ⟨ek,_⟩:=zx hvk
  ·rw [yb] at h
   obtain ⟨es,h1,rfl⟩:=h
   have hid:=zuE h1
   obtain ⟨_,_,zaO,clock,hh,⟨es',hperm,hnd,hm⟩,hb1,hb2⟩:=R0.ob id _ hid
   simp only [zf,zr] at hx
   have ex:=hx.2
   have hpp:=zuA (k:=n) (v:=vy) hnd hperm
   have hlow : Low r.base r.lim (r.setOb id (.mp (zi8 n vy es))).st:=L.set
   cases hg : zfj n es' with
   | none =>
     have hf:=zex (i:=0) hm hg
     obtain ⟨H,R1⟩:=map_set (clock':=clock + 1) (es':=zi8 n vy es) (ents':=zaO.push { key:=.int .i64 n,val:=a.eval y,born:=clock }) R0 hid hh fun H => by
      rw [Array.toList_push]
      refine ⟨⟨_,hpp,znE hnd,zsK hm hg H rfl (H.zf _ _ hy)⟩,?_,?_⟩
      ·rw [yn]
       refine yh.2 ⟨hb1,by simp,fun a ha b hb => ?_⟩
       simp at hb
       subst hb
       obtain ⟨e,he,rfl⟩:=yg.1 ha
       have:=hb2 e he
       omega
      ·intro e he
       rcases List.mem_append.1 he with he | he
       ·have:=hb2 e he
        omega
       ·simp at he
        subst he
        simp
     refine zos (r1:=r.setOb id (.mp (zi8 n vy es))) F hd hno H R1 hlow rfl rfl ?_ kk
     rcases ho with ho | ho <;> (unfold execOp; simp only [ho,ex,ek]; simp [Instr.mapUpdate,run_underlying ht,MapKept.run_getObj_map hh,run_checkKey (P:=P) (w:=w) hk,Instr.findKey,run_underlying hk,hf,MapKept.run_setObj_map _ hh])
   | some v0 =>
     obtain ⟨j,e,hf,hj,hkey,_,hnew⟩:=zep (i:=0) hm hg
     obtain ⟨H,R1⟩:=map_set (clock':=clock) (es':=zi8 n vy es) (ents':=zaO.modify j fun e => { e with key:=.int .i64 n,val:=a.eval y }) R0 hid hh fun H => by
      rw [Array.toList_modify]
      refine ⟨⟨_,hpp,znE hnd,hnew H (H.zf _ _ hy)⟩,?_,?_⟩
      ·have e1 : ((zaO.toList.modify j fun e => { e with key:=.int .i64 n,val:=a.eval y }).map (·.born)) = zaO.toList.map (·.born):=by
        refine List.ext_getElem? fun i => ?_
        rw [yi,yi,yf]
        cases zaO.toList[i]? <;> simp
        split <;> rfl
       rw [e1]
       exact hb1
      ·intro e he
       obtain ⟨i,hi⟩:=List.mem_iff_getElem?.1 he
       rw [yf] at hi
       cases hq : zaO.toList[i]? with
       | none => rw [hq] at hi; simp at hi
       | some e0 =>
         have:=hb2 e0 (yd hq)
         rw [hq] at hi
         simp at hi
         rw [← hi]
         split <;> exact this
     refine zos (r1:=r.setOb id (.mp (zi8 n vy es))) F hd hno H R1 hlow rfl rfl ?_ kk
     have hj' : zaO[j]? = some e:=by simpa using hj
     rcases ho with ho | ho <;> (unfold execOp; simp only [ho,ex,ek]; simp [Instr.mapUpdate,run_underlying ht,MapKept.run_getObj_map hh,run_checkKey (P:=P) (w:=w) hk,Instr.findKey,run_underlying hk,hf,hj',hkey,Instr.keyThatStays,Instr.sameBits,MapKept.run_setObj_map _ hh])
 ·cases h
def zjP (xs ys : Array Value) (i : Nat) : Bool:=match xs[i]?,ys[i]? with
 | some (.int _ a),some (.int _ b) => a == b
 | _,_ => false
def zow (xs ys : Array Value) (i : Nat) : Prop:=∃ k a b,xs[i]? = some (.int k a) ∧ ys[i]? = some (.int k b)
def ziT (P : Program) (t : TypeId) : Bool:=match P.underlying t with
 | some (.int _) => true
 | _ => false
theorem zg5 {t : TypeId} (h : ziT P t = true) : ∃ k,P.underlying t = some (.int k):=by
 unfold ziT at h
 split at h
 ·exact ⟨_,by assumption⟩
 ·cases h
theorem ze1 {t : TypeId} (h : ziT P t = true) {xs : Array Value} {i : Nat} {v : Value} (hv : xs[i]? = some v) : (part t xs i).run P w = .ok v w:=by
 obtain ⟨k,hk⟩:=zg5 h
 have ha : zhi P t = some false:=by unfold zhi; rw [hk]; rfl
 unfold part
 simp only [Sem.run_bind,zft (w:=w) ha,Result.andThen_ok,Bool.false_eq_true,if_false,hv]
 rfl
theorem zmX {e : TypeId} (he : ziT P e = true) (d : Nat) (xs ys : Array Value) : ∀ (l : List Nat),(∀ i ∈ l,zow xs ys i) → (Op.eqItems (d + 1) e 1 xs ys l).run P w = .ok (l.all (zjP xs ys)) w
 | [],_ => by simp [Op.eqItems]
 | i :: l,h => by
   obtain ⟨k,a,b,h1,h2⟩:=h i (by simp)
   obtain ⟨k',hk'⟩:=zg5 he
   have ih:=zmX he d xs ys l fun j hj => h j (yc _ hj)
   simp only [Op.eqItems,Nat.mul_one,Sem.run_bind,ze1 he h1,ze1 he h2,Result.andThen_ok,run_equalIn_int w d e k k' a b hk',yj]
   have hv : zjP xs ys i = (a == b):=by unfold zjP; rw [h1,h2]
   rw [hv]
   cases hab : (a == b) with
   | false => simp
   | true => simpa using ih
theorem zkW (d : Nat) (xs ys : Array Value) : ∀ (fs : List Field), (∀ f ∈ fs, f.name ≠ "_" ∧ ziT P f.type = true ∧ zow xs ys f.offset) → (Op.eqFields (d + 1) xs ys fs).run P w = .ok ((fs.map (·.offset)).all (zjP xs ys)) w
 | [],_ => by simp [Op.eqFields]
 | f :: fs,h => by
   obtain ⟨hn,he,k,a,b,h1,h2⟩:=h f (by simp)
   obtain ⟨k',hk'⟩:=zg5 he
   have ih:=zkW d xs ys fs fun j hj => h j (yc _ hj)
   simp only [Op.eqFields,if_pos hn,Sem.run_bind,ze1 he h1,ze1 he h2,Result.andThen_ok,run_equalIn_int w d f.type k k' a b hk',ye,yj]
   have hv : zjP xs ys f.offset = (a == b):=by unfold zjP; rw [h1,h2]
   rw [hv]
   cases hab : (a == b) with
   | false => simp
   | true => simpa using ih
def zs5 (P : Program) (t : TypeId) : Option Nat:=match P.underlying t with
 | some (.array n e) => if ziT P e && (P.cellsOf e == 1) && (P.info? e).isSome then some n else none
 | some (.struct fs) => if !P.stoodInHeld t && fs.toList.all (fun f => decide (f.name ≠ "_") && ziT P f.type) && (fs.toList.map (·.offset) == yo fs.toList.length) && (P.fieldsOf t).toList.length == fs.toList.length then some fs.toList.length else none
 | _ => none
theorem zxD {t : TypeId} {n : Nat} (h : zs5 P t = some n) {xs ys : Array Value} (hb : ∀ i,i < n → zow xs ys i) : (Op.equalIn 10000 t (.agg xs) (.agg ys)).run P w = .ok ((yo n).all (zjP xs ys)) w:=by
 unfold zs5 at h
 split at h
 ·rename_i n' e hu
  split at h
  ·rename_i hc
   injection h with h
   subst h
   simp only [ya,beq_iff_eq] at hc
   obtain ⟨⟨h1,h2⟩,h3⟩:=hc
   obtain ⟨i,hi⟩:=Option.isSome_iff_exists.1 h3
   rw [run_equalIn_array w 9999 xs ys hu hi,h2]
   exact zmX h1 9998 xs ys _ fun j hj => hb j (by simpa using hj)
  ·cases h
 ·rename_i fs hu
  split at h
  ·rename_i hc
   injection h with h
   subst h
   simp only [ya,Bool.not_eq_true',beq_iff_eq] at hc
   obtain ⟨⟨⟨h1,h2⟩,h3⟩,h4⟩:=hc
   have hf : P.fieldsOf t = fs:=by simp [Program.fieldsOf,hu]
   rw [run_equalIn_struct w 9999 t xs ys (by rw [hf]; exact hu) h1,hf]
   rw [zkW 9998 xs ys fs.toList fun f hf' => ?_,h3]
   have h5:=List.all_eq_true.1 h2 f hf'
   simp only [ya,decide_eq_true_eq] at h5
   have h6 : f.offset ∈ fs.toList.map (·.offset):=yg.2 ⟨f,hf',rfl⟩
   rw [h3] at h6
   exact ⟨h5.1,h5.2,hb _ (by simpa using h6)⟩
  ·cases h
 ·cases h
theorem zkF {σ : zb} : ∀ {cs ds : List C} {us vs : List Value} {b : Bool},zhd cs ds = some b → zp g w σ cs us → zp g w σ ds vs → us.length = cs.length ∧ vs.length = cs.length ∧ (∀ i,i < cs.length → zow us.toArray vs.toArray i) ∧ b = (yo cs.length).all (zjP us.toArray vs.toArray)
 | [],[],us,vs,b,h,hu,hv => by
   have e1 : us = []:=by simpa only [zp] using hu
   have e2 : vs = []:=by simpa only [zp] using hv
   subst e1 e2
   simp only [zhd,Option.some.injEq] at h
   subst h
   exact ⟨rfl,rfl,fun i hi => by simp at hi,by simp⟩
 | c :: cs,d :: ds,us,vs,b,h,hu,hv => by
   unfold zhd at h
   split at h
   ·rename_i heq _; cases heq
   ·rename_i k a xs k' b' ys heq1 heq2
    injection heq1 with e1 e2
    injection heq2 with e3 e4
    subst e1 e2 e3 e4
    split at h
    ·rename_i hk
     subst hk
     rw [yb] at h
     obtain ⟨b1,h1,h2⟩:=h
     simp only [zp] at hu hv
     obtain ⟨u,us',rfl,hu1,hu2⟩:=hu
     obtain ⟨v,vs',rfl,hv1,hv2⟩:=hv
     obtain ⟨q1,q2,q3,q4⟩:=zkF h1 hu2 hv2
     simp only [zr,rep] at hu1 hv1
     obtain ⟨rfl,_⟩:=hu1
     obtain ⟨rfl,_⟩:=hv1
     have hsucc : ∀ i,zjP (Value.int k a :: us').toArray (Value.int k b' :: vs').toArray (i + 1) = zjP us'.toArray vs'.toArray i:=fun i => by simp [zjP]
     refine ⟨by simp [q1],by simp [q2],fun i hi => ?_,?_⟩
     ·cases i with
      | zero => exact ⟨k,a,b',by simp,by simp⟩
      | succ i =>
        obtain ⟨k2,a2,b2,r1,r2⟩:=q3 i (by simpa using hi)
        exact ⟨k2,a2,b2,by simpa using r1,by simpa using r2⟩
     ·rw [← h2,q4,List.length_cons,List.range_succ_eq_map,yj,List.all_map]
      have h0 : zjP (Value.int k a :: us').toArray (Value.int k b' :: vs').toArray 0 = decide (a = b'):=by simp [zjP]; rfl
      rw [h0]
      congr 2
      funext i
      exact (hsucc i).symm
    ·cases h
   ·cases h
 | [],d :: ds,us,vs,b,h,_,_ => by simp [zhd] at h
 | c :: cs,[],us,vs,b,h,_,_ => by
   unfold zhd at h
   split at h <;> simp_all
theorem zvM {op : BinOp} {t yt : TypeId} {x y : Operand} {neg : Bool} {n : Nat} (ho : o.op = .binOp op t x y yt) (hop : (op = .eql ∧ neg = false) ∨ (op = .neq ∧ neg = true)) (hf : zs5 P t = some n) (hg : P.eqGuardType P.depth t = false)
  {vx vy v : V} (hx : zf g w r.st vx (a.eval x)) (hy : zf g w r.st vy (a.eval y)) (h : zBc n neg vx vy = some v) :
  ∃ u,(execOp a.eval o).run P w = .ok (.value u) w ∧ zf g w r.st v u:=by
 unfold zBc at h
 split at h
 ·rename_i cs ds
  split at h
  ·rename_i hn
   rw [yb] at h
   obtain ⟨b,h1,h2⟩:=h
   subst h2
   simp only [zf] at hx hy
   obtain ⟨us,hux,hcx⟩:=hx
   obtain ⟨vs,huy,hcy⟩:=hy
   obtain ⟨q1,q2,q3,q4⟩:=zkF h1 hcx hcy
   rw [hn] at q3 q4
   have hrun:=zxD (w:=w) hf (xs:=us) (ys:=vs) (by simpa using q3)
   have hguard:=run_eqGuard_agg (P:=P) w op t x y us vs hg
   have q4' : b = (yo n).all (zjP us vs):=by simpa using q4
   rcases hop with ⟨rfl,rfl⟩ | ⟨rfl,rfl⟩
   ·refine ⟨.bool b,?_,zn (v:=.bool b) rfl⟩
    unfold execOp
    simp only [ho,hux,huy]
    simp [hguard,run_eql_struct,hrun,q4']
   ·refine ⟨.bool (!b),?_,zn (v:=.bool (!b)) rfl⟩
    unfold execOp
    simp only [ho,hux,huy]
    simp [hguard,run_neq_struct,hrun,q4']
  ·cases h
 ·cases h
theorem znb {t e : TypeId} (ht : P.underlying t = some (.pointer e)) (p : Option Addr) : (Op.equal t (.pointer p) (.pointer none)).run P w = .ok p.isNone w:=by
 unfold Op.equal Op.maxDepth Op.equalIn
 cases p <;> simp [run_underlying ht]
theorem zuk {op : BinOp} {t e yt : TypeId} {x : Operand} {neg : Bool} (ho : o.op = .binOp op t x (.const (.pointer none)) yt) (hop : (op = .eql ∧ neg = false) ∨ (op = .neq ∧ neg = true)) (ht : P.underlying t = some (.pointer e))
  {vx v : V} (hx : zf g w r.st vx (a.eval x)) (h : zw5 neg vx = some v) :
  ∃ u,(execOp a.eval o).run P w = .ok (.value u) w ∧ zf g w r.st v u:=by
 have key : ∀ p : Option Addr,a.eval x = .pointer p → ∃ u,(execOp a.eval o).run P w = .ok (.value u) w ∧ zf g w r.st (zfL (if neg then !p.isNone else p.isNone)) u:=fun p ex => by
  have hr:=znb (P:=P) (w:=w) ht p
  have ec : a.eval (.const (.pointer none)) = .pointer none:=rfl
  rcases hop with ⟨rfl,rfl⟩ | ⟨rfl,rfl⟩
  ·refine ⟨.bool p.isNone,?_,zn (v:=.bool p.isNone) rfl⟩
   unfold execOp
   simp only [ho,ex]
   simp [eqGuard,binOp,ec,hr]
  ·refine ⟨.bool (!p.isNone),?_,zn (v:=.bool (!p.isNone)) rfl⟩
   unfold execOp
   simp only [ho,ex]
   simp [eqGuard,binOp,ec,hr]
 unfold zw5 at h
 split at h
 ·injection h with h
  subst h
  simp only [zf,zr] at hx
  obtain ⟨_,_,_,_,_,_,ad,e⟩:=hx
  have:=key _ e
  cases neg <;> exact this
 ·injection h with h
  subst h
  simp only [zf,zr] at hx
  obtain ⟨_,_,e,_⟩:=hx
  have:=key _ e
  cases neg <;> exact this
 ·injection h with h
  subst h
  have:=key none (zx hx).1
  cases neg <;> exact this
 ·cases h
theorem zu2 {op : BinOp} {t yt : TypeId} {x y : Operand} {neg : Bool} (ho : o.op = .binOp op t x y yt) (hop : (op = .eql ∧ neg = false) ∨ (op = .neq ∧ neg = true)) (ht : P.underlying t = some .bool)
  {vx vy v : V} (hx : zf g w r.st vx (a.eval x)) (hy : zf g w r.st vy (a.eval y)) (h : zBr neg vx vy = some v) :
  ∃ u,(execOp a.eval o).run P w = .ok (.value u) w ∧ zf g w r.st v u:=by
 unfold zBr at h
 split at h
 ·rename_i p q
  obtain ⟨ex,_⟩:=zx hx
  obtain ⟨ey,_⟩:=zx hy
  injection h with h
  subst h
  have hr:=run_equal_bool (P:=P) w t p q ht
  rcases hop with ⟨rfl,rfl⟩ | ⟨rfl,rfl⟩
  ·refine ⟨.bool (p == q),?_,zn (v:=.bool (p == q)) rfl⟩
   unfold execOp
   simp only [ho,ex,ey]
   simp [eqGuard,binOp,hr]
  ·refine ⟨.bool (!(p == q)),?_,zn (v:=.bool (!(p == q))) rfl⟩
   unfold execOp
   simp only [ho,ex,ey]
   simp [eqGuard,binOp,hr]
 ·cases h
end
end Go.A
namespace Go.A
def Ow.cut (n : Nat) : Ow → Ow
 | .no => .no
 | .ob id => if id < n then .ob id else .no
 | .tk t k => if t < n then .tk t k else .no
theorem Ow.cut_cut {n m : Nat} (h : n ≤ m) (o : Ow) (ho : o.cut n = o) : o.cut m = o:=by
 cases o with
 | no => rfl
 | ob id =>
   simp only [Ow.cut] at ho ⊢
   split at ho
   ·rw [if_pos (by omega)]
   ·cases ho
 | tk t k =>
   simp only [Ow.cut] at ho ⊢
   split at ho
   ·rw [if_pos (by omega)]
   ·cases ho
theorem Ow.cut_idem (n : Nat) (o : Ow) : (o.cut n).cut n = o.cut n:=by
 cases o with
 | no => rfl
 | ob id => by_cases h : id < n <;> simp [Ow.cut,h]
 | tk t k => by_cases h : t < n <;> simp [Ow.cut,h]
def G.drop (g : G) (n : Nat) (w : World) : G :=
 { g with
   ow:=fun b => (g.ow b).cut n
   N:=fun b o => g.N b o ∨ (b < w.heap.size ∧ ∃ id,n ≤ id ∧ g.ow b = .ob id) }
def Clean (g : G) (n : Nat) : Prop:=∀ b,(g.ow b).cut n = g.ow b
section
variable {g : G} {w : World} {σ : zb} {n : Nat}
theorem zf2 {α : Type} {l : List α} {i n : Nat} (h : i < n) : (l.take n)[i]? = l[i]?:=by rw [List.getElem?_take,if_pos h]
theorem zkD {id : Nat} (h : id < n) : shapeOf (σ.take n) id = shapeOf σ id:=by unfold shapeOf; rw [zf2 h]
theorem zwc {t k : Nat} (h : t < n) : zi7 (σ.take n) t k = zi7 σ t k:=by unfold zi7; rw [zf2 h]
theorem zr5 {t : Nat} (h : t < n) : zlh (σ.take n) t = zlh σ t:=by unfold zlh; rw [zf2 h]
theorem zd9 : zer w w g.N (g.drop n w).N:=fun _ _ h => ⟨.inl h,rfl⟩
mutual
theorem zmK : ∀ (c : C) (u : Value),zr g w σ c u → c.lt n = true → zr (g.drop n w) w (σ.take n) c u
 | .f x,u,h,_ => by
   simp only [zr] at h ⊢
   exact za8 zd9 x u h
 | .ap t k xs,u,h,hl => by
   have ht : t < n:=by simpa [C.lt] using hl
   simp only [zr] at h ⊢
   obtain ⟨h1,m,h2,h3,h4,sz,h5,h6⟩:=h
   exact ⟨za8 zd9 _ u h1,m,by rw [zwc ht]; exact h2,h3,h4,sz,by rw [zr5 ht]; exact h5,h6⟩
 | .ptr id ver i off,u,h,hl => by
   have ht : id < n:=by simpa [C.lt] using hl
   simp only [zr] at h ⊢
   rw [zkD ht]
   exact h
 | .fp cs off,u,h,_ => by
   simp only [zr] at h ⊢
   obtain ⟨b,o,h1,h2⟩:=h
   exact ⟨b,o,h1,zcY zd9 cs b o h2⟩
 | .own id ver lo m,u,h,hl => by
   have ht : id < n:=by simpa [C.lt] using hl
   simp only [zr] at h ⊢
   rw [zkD ht]
   exact h
 | .map id,u,h,hl => by
   have ht : id < n:=by simpa [C.lt] using hl
   simp only [zr] at h ⊢
   rw [zf2 ht]
   exact h
 | .fn f a b,u,h,hl => by
   simp only [C.lt,ya] at hl
   simp only [zr] at h ⊢
   obtain ⟨fs,cs,h1,h2,h3⟩:=h
   exact ⟨fs,cs,h1,zhD a _ h2 hl.1,zhD b _ h3 hl.2⟩
 | .un,_,_,_ => by simp only [zr]
theorem zhD : ∀ (cs : List C) (us : List Value),zp g w σ cs us → C.lts n cs = true → zp (g.drop n w) w (σ.take n) cs us
 | [],us,h,_ => by simpa only [zp] using h
 | c :: cs,us,h,hl => by
   simp only [C.lts,ya] at hl
   simp only [zp] at h ⊢
   obtain ⟨v,vs,h1,h2,h3⟩:=h
   exact ⟨v,vs,h1,zmK c v h2 hl.1,zhD cs vs h3 hl.2⟩
end
mutual
theorem zg4 : ∀ (c : V) (u : Value),zf g w σ c u → c.lt n = true → zf (g.drop n w) w (σ.take n) c u
 | .one c,u,h,hl => by
   simp only [V.lt] at hl
   simp only [zf] at h ⊢
   exact zmK c u h hl
 | .agg cs,u,h,hl => by
   simp only [V.lt] at hl
   simp only [zf] at h ⊢
   obtain ⟨us,h1,h2⟩:=h
   exact ⟨us,h1,zhD cs _ h2 hl⟩
 | .tup vs,u,h,hl => by
   simp only [V.lt] at hl
   simp only [zf] at h ⊢
   obtain ⟨us,h1,h2⟩:=h
   exact ⟨us,h1,znH vs _ h2 hl⟩
theorem znH : ∀ (vs : List V) (us : List Value),zv g w σ vs us → V.lts n vs = true → zv (g.drop n w) w (σ.take n) vs us
 | [],us,h,_ => by simpa only [zv] using h
 | c :: cs,us,h,hl => by
   simp only [V.lts,ya] at hl
   simp only [zv] at h ⊢
   obtain ⟨v,vs,h1,h2,h3⟩:=h
   exact ⟨v,vs,h1,zg4 c v h2 hl.1,znH cs vs h3 hl.2⟩
end
theorem zBa {os : List Ob} (h : Obs.lt n os = true) : ∀ {i : Nat} {o : Ob},os[i]? = some o → o.lt n = true:=by
 induction os with
 | nil => intro i o h; simp at h
 | cons x xs ih =>
   simp only [Obs.lt,ya] at h
   intro i o hi
   cases i with
   | zero => simp at hi; subst hi; exact h.1
   | succ i => exact ih h.2 (by simpa using hi)
theorem zqx : ∀ {es : List (Int × V)} {zaO : List MapEntry},znc g w σ es zaO → C.ltm n es = true → znc (g.drop n w) w (σ.take n) es zaO
 | [],_,h,_ => h
 | x :: xs,_,h,hl => by
   simp only [C.ltm,ya] at hl
   obtain ⟨e,rest,h1,h2,h3,h4⟩:=h
   exact ⟨e,rest,h1,h2,zg4 _ _ h3 hl.1,zqx h4 hl.2⟩
theorem zrJ : ∀ {es : List (Int × V)},C.ltm n es = true ↔ ∀ e ∈ es,e.2.lt n = true
 | [] => by simp [C.ltm]
 | e :: es => by simp [C.ltm,zrJ (es:=es)]
theorem zua {es : List (Int × V)} {zaO : List MapEntry} {clock : Nat} (h : zi4 g w σ es zaO clock) (hl : C.ltm n es = true) : zi4 (g.drop n w) w (σ.take n) es zaO clock:=by
 have:=zls (g':=g.drop n w) (w':=w) (σ':=σ.take n) h id (fun _ => rfl) (fun es' hp h => by
  rw [yk]
  exact zqx h (zrJ.2 fun e he => zrJ.1 hl e (hp.mem_iff.1 he)))
 rwa [yk] at this
theorem zsn (R : Rel g w σ) (hl : Obs.lt n (σ.take n) = true) : Rel (g.drop n w) w (σ.take n):=by
 refine ⟨fun b o h => h.elim (R.nb b o) fun h => h.1,fun id o ho => ?_⟩
 have hid : id < n:=by
  have:=za ho
  rw [yl] at this
  omega
 have hlt:=zBa hl ho
 rw [zf2 hid] at ho
 have hor:=R.ob id o ho
 have how : ∀ b i,g.ow b = .ob i → i < n → (g.drop n w).ow b = .ob i:=fun b i h hi => by simp [G.drop,Ow.cut,h,hi]
 have hno : ∀ b i,g.ow b = .ob i → i < n → (∀ o,¬ g.N b o) → ∀ o,¬ (g.drop n w).N b o:=fun b i h hi hN o hno => by
  rcases hno with hno | ⟨_,j,hj,hno⟩
  ·exact hN o hno
  ·rw [h] at hno; injection hno with hno; omega
 cases o with
 | cells ver sz es =>
   intro hne
   obtain ⟨h1,h2,arr,t,h3,h4,h5⟩:=hor hne
   refine ⟨how _ _ h1 hid,hno _ _ h1 hid h2,arr,t,h3,h4,fun i e hi => ⟨(h5 i e hi).1,fun j c hc => ?_⟩⟩
   obtain ⟨u,k1,k2,k3⟩:=(h5 i e hi).2 j c hc
   simp only [Ob.lt] at hlt
   exact ⟨u,k1,zmK c u k2 (zu5.1 (zsI.1 hlt e (yd hi)) c (yd hc)),k3⟩
 | mp es =>
   obtain ⟨h1,h2,zaO,clock,h3,h4⟩:=hor
   exact ⟨how _ _ h1 hid,hno _ _ h1 hid h2,zaO,clock,h3,zua h4 (by simpa [Ob.lt] using hlt)⟩
 | tok sz fr =>
   intro k m hm
   rcases hor k m hm with h | ⟨b,o,c,arr,t,h1,h2,h3,h4,h5,h6,h7⟩
   ·exact .inl h
   ·refine .inr ⟨b,o,c,arr,t,h1,h2,h3,by simp [G.drop,Ow.cut,h4,hid],h5,h6,fun o' ho' => ?_⟩
    rcases ho' with ho' | ⟨_,j,_,ho'⟩
    ·exact h7 o' ho'
    ·rw [h4] at ho'; cases ho'
theorem zsW {g0 : G} {w0 : World} {σ0 : zb} (H : Ext g0 w0 σ0 g w σ) (hc : Clean g0 σ0.length) (hn : σ0.length ≤ n) : Ext g0 w0 σ0 (g.drop n w) w (σ.take n) where
 os:=H.os
 tape:=H.tape
 output:=H.output
 size:=H.size
 keeps:=H.keeps.trans zd9
 len:=by have:=H.len; rw [yl]; omega
 shape:=fun id ver sz len h => by
  have hid : id < n:=by obtain ⟨es,h1,_⟩:=zak h; have:=za h1; omega
  rw [zkD hid]
  exact H.shape id ver sz len h
 map:=fun id es h => by
  have hid : id < n:=by have:=za h; omega
  rw [zf2 hid]
  exact H.map id es h
 tok:=fun t k m h => by
  have hid : t < n:=by obtain ⟨_,_,h1,_⟩:=zbJ h; have:=za h1; omega
  rw [zwc hid]
  exact H.tok t k m h
 tsz:=fun t sz h => by
  have hid : t < n:=by obtain ⟨_,h1⟩:=zcB h; have:=za h1; omega
  rw [zr5 hid]
  exact H.tsz t sz h
 ow:=fun b hb => by
  show (g.ow b).cut n = _
  rw [H.ow b hb]
  exact Ow.cut_cut hn _ (hc b)
 new:=fun b o h hb ho => by
  rcases h with h | ⟨_,id,_,h⟩
  ·exact H.new b o h hb ho
  ·rw [H.ow b hb,ho] at h; cases h
 frame:=H.frame
def G.clean (g : G) (n : Nat) : G :=
 { g with ow:=fun b => (g.ow b).cut n }
theorem zdx (g : G) (n : Nat) : Clean (g.clean n) n:=fun b => Ow.cut_idem n _
mutual
theorem zmb {g' : G} (h1 : g'.ρ = g.ρ) (h2 : g'.tv = g.tv) (h3 : g'.N = g.N) : ∀ (c : C) (u : Value),zr g w σ c u → zr g' w σ c u
 | .f x,u,h => by simp only [zr] at h ⊢; rw [h3]; exact h
 | .ap t k xs,u,h => by simp only [zr] at h ⊢; rw [h3,h2]; exact h
 | .ptr id ver i off,u,h => by simp only [zr] at h ⊢; rw [h1]; exact h
 | .fp cs off,u,h => by simp only [zr] at h ⊢; rw [h3]; exact h
 | .own id ver lo m,u,h => by simp only [zr] at h ⊢; rw [h1]; exact h
 | .map id,u,h => by simp only [zr] at h ⊢; rw [h1]; exact h
 | .fn f a b,u,h => by
   simp only [zr] at h ⊢
   obtain ⟨fs,cs,k1,k2,k3⟩:=h
   exact ⟨fs,cs,k1,zhT h1 h2 h3 a _ k2,zhT h1 h2 h3 b _ k3⟩
 | .un,_,_ => by simp only [zr]
theorem zhT {g' : G} (h1 : g'.ρ = g.ρ) (h2 : g'.tv = g.tv) (h3 : g'.N = g.N) : ∀ (cs : List C) (us : List Value),zp g w σ cs us → zp g' w σ cs us
 | [],us,h => by simpa only [zp] using h
 | c :: cs,us,h => by
   simp only [zp] at h ⊢
   obtain ⟨v,vs,k1,k2,k3⟩:=h
   exact ⟨v,vs,k1,zmb h1 h2 h3 c v k2,zhT h1 h2 h3 cs vs k3⟩
end
mutual
theorem zeG {g' : G} (h1 : g'.ρ = g.ρ) (h2 : g'.tv = g.tv) (h3 : g'.N = g.N) : ∀ (c : V) (u : Value),zf g w σ c u → zf g' w σ c u
 | .one c,u,h => by simp only [zf] at h ⊢; exact zmb h1 h2 h3 c u h
 | .agg cs,u,h => by
   simp only [zf] at h ⊢
   obtain ⟨us,k1,k2⟩:=h
   exact ⟨us,k1,zhT h1 h2 h3 cs _ k2⟩
 | .tup vs,u,h => by
   simp only [zf] at h ⊢
   obtain ⟨us,k1,k2⟩:=h
   exact ⟨us,k1,zoi h1 h2 h3 vs _ k2⟩
theorem zoi {g' : G} (h1 : g'.ρ = g.ρ) (h2 : g'.tv = g.tv) (h3 : g'.N = g.N) : ∀ (vs : List V) (us : List Value),zv g w σ vs us → zv g' w σ vs us
 | [],us,h => by simpa only [zv] using h
 | c :: cs,us,h => by
   simp only [zv] at h ⊢
   obtain ⟨v,vs,k1,k2,k3⟩:=h
   exact ⟨v,vs,k1,zeG h1 h2 h3 c v k2,zoi h1 h2 h3 cs vs k3⟩
end
theorem zql {g' : G} (h1 : g'.ρ = g.ρ) (h2 : g'.tv = g.tv) (h3 : g'.N = g.N) : ∀ {es : List (Int × V)} {zaO : List MapEntry},znc g w σ es zaO → znc g' w σ es zaO
 | [],_,h => h
 | x :: xs,_,h => by
   obtain ⟨e,rest,k1,k2,k3,k4⟩:=h
   exact ⟨e,rest,k1,k2,zeG h1 h2 h3 _ _ k3,zql h1 h2 h3 k4⟩
theorem zt3 {g' : G} (h1 : g'.ρ = g.ρ) (h2 : g'.tv = g.tv) (h3 : g'.N = g.N) {es : List (Int × V)} {zaO : List MapEntry} {clock : Nat} (h : zi4 g w σ es zaO clock) : zi4 g' w σ es zaO clock:=by
 have:=zls (g':=g') (w':=w) (σ':=σ) h id (fun _ => rfl) (fun es' hp h => by
  rw [yk]
  exact zql h1 h2 h3 h)
 rwa [yk] at this
theorem zwA {g' : G} (R : Rel g w σ) (h1 : g'.ρ = g.ρ) (h2 : g'.tv = g.tv) (h3 : g'.N = g.N) (hob : ∀ b id,id < σ.length → g.ow b = .ob id → g'.ow b = .ob id) (htk : ∀ b t k,t < σ.length → g.ow b = .tk t k → g'.ow b = .tk t k) : Rel g' w σ:=by
 refine ⟨by rw [h3]; exact R.nb,fun id o ho => ?_⟩
 have hlt:=za ho
 have hor:=R.ob id o ho
 cases o with
 | cells ver sz es =>
   intro hne
   obtain ⟨k1,k2,arr,t,k3,k4,k5⟩:=hor hne
   rw [h1,h3]
   refine ⟨hob _ _ hlt k1,k2,arr,t,k3,k4,fun i e hi => ⟨(k5 i e hi).1,fun j c hc => ?_⟩⟩
   obtain ⟨u,m1,m2,m3⟩:=(k5 i e hi).2 j c hc
   exact ⟨u,m1,zmb h1 h2 h3 c u m2,m3⟩
 | mp es =>
   obtain ⟨k1,k2,zaO,clock,k3,k4⟩:=hor
   unfold zwZ
   rw [h1,h3]
   exact ⟨hob _ _ hlt k1,k2,zaO,clock,k3,zt3 h1 h2 h3 k4⟩
 | tok sz fr =>
   intro k m hm
   rw [h2,h3]
   rcases hor k m hm with h | ⟨b,o,c,arr,t,k1,k2,k3,k4,k5⟩
   ·exact .inl h
   ·exact .inr ⟨b,o,c,arr,t,k1,k2,k3,htk _ _ _ hlt k4,k5⟩
theorem zwJ (R : Rel g w σ) : Rel (g.clean σ.length) w σ :=
 zwA R rfl rfl rfl (fun b id hid h => by simp [G.clean,Ow.cut,h,hid]) (fun b t k ht h => by simp [G.clean,Ow.cut,h,ht])
def G.under (g0 : G) (w0 : World) (g : G) : G:={ g with ow:=fun b => if b < w0.heap.size then g0.ow b else g.ow b }
theorem zma {w' : World} {σ' : zb} {g' : G} (H : Ext (g.clean σ.length) w σ g' w' σ') : Ext g w σ (g.under w g') w' σ' where
 os:=H.os
 tape:=H.tape
 output:=H.output
 size:=H.size
 keeps:=H.keeps
 len:=H.len
 shape:=H.shape
 map:=H.map
 tok:=H.tok
 tsz:=H.tsz
 ow:=fun b hb => by
  show (if b < w.heap.size then g.ow b else g'.ow b) = _
  rw [if_pos hb]
 new:=fun b o h hb ho => H.new b o h hb (by simp [G.clean,Ow.cut,ho])
 frame:=fun b hb ho => H.frame b hb (by simp [G.clean,Ow.cut,ho])
theorem zmr {w' : World} {σ' : zb} {g' : G} (H : Ext (g.clean σ.length) w σ g' w' σ') (R : Rel g' w' σ') : Rel (g.under w g') w' σ':=by
 have key : ∀ b,b < w.heap.size → g'.ow b ≠ .no → g.ow b = g'.ow b:=fun b hb hne => by
  have:=H.ow b hb
  change g'.ow b = (g.ow b).cut σ.length at this
  rw [this] at hne ⊢
  cases h : g.ow b with
  | no => rfl
  | ob id =>
    rw [h] at hne
    simp only [Ow.cut] at hne ⊢
    split
    ·rfl
    ·rename_i hn; rw [if_neg hn] at hne; exact absurd rfl hne
  | tk t k =>
    rw [h] at hne
    simp only [Ow.cut] at hne ⊢
    split
    ·rfl
    ·rename_i hn; rw [if_neg hn] at hne; exact absurd rfl hne
 refine zwA (g':=g.under w g') R rfl rfl rfl (fun b id hid h => ?_) (fun b t k ht h => ?_)
 ·show (if b < w.heap.size then g.ow b else g'.ow b) = _
  split
  ·rw [key b (by assumption) (by rw [h]; simp),h]
  ·exact h
 ·show (if b < w.heap.size then g.ow b else g'.ow b) = _
  split
  ·rw [key b (by assumption) (by rw [h]; simp),h]
  ·exact h
end
end Go.A
