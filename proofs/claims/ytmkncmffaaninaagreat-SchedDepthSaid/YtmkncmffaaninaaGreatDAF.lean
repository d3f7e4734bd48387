/- A part of the proof of SchedDepth. Conditions: none. -/
import Derived.Test.YtmkncmffaaninaaGreatDAE
set_option linter.unusedVariables false
set_option linter.unusedSimpArgs false
set_option linter.unusedSectionVars false
open List renaming eq_nil_of_length_eq_zero → ya,replicate → yb,getElem?_take → yc,getElem?_eq_getElem → yg,getElem?_drop → yi,range → yj,mem_of_mem_take → yl,length_take → ym,map_toArray → yn,map_cons → yr,replicate_succ' → yt,length_map → yu,getElem?_append → yv,map_nil → yw,mem_replicate → yx,ext_getElem? → yz,size_toArray → yA,mem_range → yD,mem_map → yG
open Option renaming bind_eq_some_iff → yd
open Nat renaming mul_le_mul_right → ye,add_mul → yk,eq_zero_or_pos → yp,le_refl → yq,min_eq_left → yC,add_zero → yE,zero_le → yH
open Array renaming getElem?_toList → yf,toArray_toList → yo,length_toList → yy,size_append → yB
open Int renaming mul_le_mul_of_nonneg_right → yh,le_refl → yF
namespace Go.A
section
variable {P : Program} {κ : List Tmp} {loc : List (Option Tmp)} {nt : Nat} {g : G} {w : World} {r r' : R} {a : Act} {o : Go.Oper} {d : D} {next : Act → World → Prop} {Q : Exit → Act → World → Prop}
theorem zyO {σ : zd} {sz : Nat} {f : Nat → Value} (fr : List Nat) {k : Nat} (hk : fr[k]? = some 0) (hf : f k = .slice none 0 0) : zw (g.nils σ.length f) w (σ ++ [.tok sz fr]) (.ap σ.length k []) (.slice none 0 0):=by
 rw [zw]
 exact ⟨zq8,0,zdD (sz:=sz) (fr:=fr) (by simp) hk,yq _,fun _ => by rw [G.nils_tv,hf],sz,zce (fr:=fr) (by simp),by simp only [zbO]⟩
theorem zu5 (R0 : Rel g w r.st) (L : Low r.base r.lim r.st) (F : Fr κ loc nt g w r a) {b : B} {sz : Nat} (ho : o.op = .move (.const (.slice none 0 0)) ∨ o.op = .assign (.const (.slice none 0 0))) (hd : okD κ nt o.dst d = true)
  {r1 : R} (h : anl r d sz b = some r1) (k : znE κ (zaO o.dst d :: loc) nt g w r r1 (a.put o.dst) next) : o.wp P a w next Q:=by
 have hrun:=zog (P:=P) (w:=w) (a:=a) ho
 cases b with
 | fz =>
   simp only [anl,Option.some.injEq] at h
   subst h
   exact zlM R0 L F hd hrun (by simpa only [vsl,zf,zw,Act.eval] using zq8) k
 | tk =>
   simp only [anl,Option.some.injEq] at h
   subst h
   obtain ⟨H,R1⟩:=zrs R0 sz [0] (fun _ => .slice none 0 0) (fun k n hn => ⟨by
    cases k with
    | zero => simp at hn; exact hn.symm
    | succ k => simp at hn,none,rfl⟩)
   exact zaV (r1:=r.alloc (.tok sz [0])) F hd H R1 (L.append _) rfl rfl hrun (by simp only [zf]; exact zyO (sz:=sz) [0] (by simp) rfl) k
 | rw =>
   simp only [anl,Option.some.injEq] at h
   subst h
   obtain ⟨H,R1⟩:=zn7 R0 sz
   refine zaV (r1:=r.alloc (.cells 0 sz [])) F hd H R1 (L.append _) rfl rfl hrun ?_ k
   simp only [zf,zw,Act.eval]
   exact ⟨0,sz,0,zn (zkn _ _),yq _,fun _ => ⟨none,0,rfl,yq _,fun _ => rfl,fun h => absurd rfl h⟩,_,_,rfl⟩
theorem zoB {t e : TypeId} {i : TypeInfo} {z : Value} (ht : P.underlying t = some (.slice e)) (hi : P.info? e = some i) (hz : i.zero = some z) {kk : IntKind} {k : Int} (h0 : 0 ≤ k) (hk : k ≤ LIM) (hb : i.bytes ≤ 32768) :
  (Instr.makeSlice t (.int kk k) (.int kk k)).run P w = .ok (.slice (some ⟨w.heap.size,0,none⟩) k.toNat k.toNat) (w.alloc (.cells (madeCells z.cells (k.toNat * i.size)) e)):=by
 unfold LIM at hk
 refine run_make w t e i z ht hi hz kk kk k k h0 (yF _) ?_ (by omega)
 have h1 : (i.bytes : Int) * k ≤ 32768 * k:=yh (by omega) h0
 omega
theorem zyr (R0 : Rel g w r.st) (L : Low r.base r.lim r.st) (F : Fr κ loc nt g w r a) {t e : TypeId} {x : Operand} {sz : Nat} {i : TypeInfo} {zs : List Value} {zero : List C} {fresh : Option (Nat × Nat)}
  (ho : o.op = .makeSlice t x x) (hd : okD κ nt o.dst d = true) (ht : P.underlying t = some (.slice e)) (hi : P.info? e = some i) (hb : i.bytes ≤ 32768) (hs : i.size = sz) (h0 : 0 < sz) (hz : zeroOf P e = some zs) (hzs : zs.length = sz) (hc : ze5 zs zero = true)
  (hf : ∀ j,fresh = some j → zs[j.1]? = some (.slice none 0 0)) {vx : V} (hx : zf g w r.st vx (a.eval x)) {r1 : R} (h : zDV r d zero fresh vx = some r1) (k : znE κ (zaO o.dst d :: loc) nt g w r r1 (a.put o.dst) next) : o.wp P a w next Q:=by
 obtain ⟨i',z,h1,h2,h3⟩:=zdc hz
 rw [hi] at h1
 injection h1 with h1
 subst h1
 subst h3
 have hzc : z.cells.size = sz:=by simpa using hzs
 obtain ⟨hz1,hz2⟩:=zax (g:=g) (w:=w) (σ:=r.st) hc
 have hzl : zero.length = sz:=by rw [← zC hz1]; exact hzs
 have hrun : ∀ kk m,a.eval x = .int kk m → 0 ≤ m → m ≤ LIM → (execOp a.eval o).run P w = .ok (.value (.slice (some ⟨w.heap.size,0,none⟩) m.toNat m.toNat)) (w.alloc (.cells (madeCells z.cells (m.toNat * sz)).toList.toArray e)):=fun kk m ex m0 m1 => by
  unfold execOp
  simp only [ho,ex,Sem.run_bind,zoB (P:=P) (w:=w) ht hi h2 m0 m1 hb,Result.andThen_ok,Sem.run_pure,hs]
 unfold zDV at h
 split at h
 ·rename_i kk m
  obtain ⟨ex,_⟩:=zA hx
  split at h
  ·rename_i hm
   injection h with h
   subst h
   rw [hzl] at k
   have hlen : (yb m.toNat zero).length = m.toNat:=by simp
   have hl : (madeCells z.cells (m.toNat * sz)).toList.length = (yb m.toNat zero).length * sz:=by simp [size_madeCells]
   have hrow : zco g w r.st (madeCells z.cells (m.toNat * sz)).toList.toArray sz (yb m.toNat zero):=by
    have:=zjj (g:=g) (w:=w) (σ:=r.st) (es:=yb m.toNat zero) hzc h0 (fun e he => by rw [(yx.1 he).2]; exact hz1) hz2
    rw [hlen] at this
    rw [yo]
    exact this
   obtain ⟨H,R1⟩:=zgH R0 e hl hrow
   have hv:=zmp (g:=g) (w:=w) (σ:=r.st) e hl
   rw [hlen] at hv
   exact zaV (r1:=r.alloc (.cells 0 sz (yb m.toNat zero))) F hd H R1 (L.append _) rfl rfl (hrun kk m ex hm.1 hm.2) hv k
  ·cases h
 ·rename_i j kk m
  obtain ⟨ex,_⟩:=zA hx
  split at h
  ·rename_i hm
   injection h with h
   subst h
   rw [hzl] at k
   obtain ⟨H1,R1⟩:=zrs R0 j.2 (yb m.toNat 0) (fun _ => .slice none 0 0) (fun q n hn => ⟨(yx.1 (List.mem_of_getElem? hn)).2,none,rfl⟩)
   have hlen : ((yj m.toNat).map (nest r.st.length zero j.1)).length = m.toNat:=by simp
   have hl : (madeCells z.cells (m.toNat * sz)).toList.length = ((yj m.toNat).map (nest r.st.length zero j.1)).length * sz:=by simp [size_madeCells]
   have hrow : zco (g.nils r.st.length fun _ => .slice none 0 0) w (r.st ++ [.tok j.2 (yb m.toNat 0)]) (madeCells z.cells (m.toNat * sz)).toList.toArray sz ((yj m.toNat).map (nest r.st.length zero j.1)):=by
    have:=zjj (g:=g.nils r.st.length fun _ => .slice none 0 0) (w:=w) (σ:=r.st ++ [.tok j.2 (yb m.toNat 0)]) (es:=(yj m.toNat).map (nest r.st.length zero j.1)) hzc h0 (fun e he => by
     obtain ⟨q,hq,rfl⟩:=yG.1 he
     rw [yD] at hq
     exact zl3 (H1.zv _ _ hz1) (hf j rfl) (zyO _ (by simp [List.getElem?_replicate,hq]) rfl)) hz2
    rw [hlen] at this
    rw [yo]
    exact this
   obtain ⟨H,R2⟩:=zgH R1 e hl hrow
   have hv:=zmp (g:=g.nils r.st.length fun _ => .slice none 0 0) (w:=w) (σ:=r.st ++ [.tok j.2 (yb m.toNat 0)]) e hl
   rw [hlen] at hv
   refine zaV (r1:=r.allocs [.tok j.2 (yb m.toNat 0),.cells 0 sz ((yj m.toNat).map (nest r.st.length zero j.1))]) F hd (H1.trans (by simpa [R.allocs] using H)) (by simpa [R.allocs] using R2) (L.append _) rfl rfl (hrun kk m ex hm.1 hm.2) (by simpa [R.allocs] using hv) k
  ·cases h
 ·cases h
theorem ztV {σ : zd} (R : Rel g w σ) (sz : Nat) : ∀ n : Nat,∃ g',Ext g w σ g' w (σ ++ yb n (.cells 0 sz [])) ∧ Rel g' w (σ ++ yb n (.cells 0 sz []))
 | 0 => ⟨g,by simpa using Ext.refl g w σ,by simpa using R⟩
 | n + 1 => by
   obtain ⟨g1,H1,R1⟩:=ztV R sz n
   obtain ⟨H2,R2⟩:=zn7 R1 sz
   refine ⟨_,H1.trans (by simpa [yt] using H2),by simpa [yt] using R2⟩
theorem zyc (R0 : Rel g w r.st) (L : Low r.base r.lim r.st) (F : Fr κ loc nt g w r a) {t e : TypeId} {x : Operand} {sz szi : Nat} {i : TypeInfo} {zs : List Value} {zero : List C} {j : Nat}
  (ho : o.op = .makeSlice t x x) (hd : okD κ nt o.dst d = true) (ht : P.underlying t = some (.slice e)) (hi : P.info? e = some i) (hb : i.bytes ≤ 32768) (hs : i.size = sz) (h0 : 0 < sz) (hz : zeroOf P e = some zs) (hzs : zs.length = sz) (hc : ze5 zs zero = true)
  (hf : zs[j]? = some (.slice none 0 0)) {vx : V} (hx : zf g w r.st vx (a.eval x)) {r1 : R} (h : zEe r d zero j szi vx = some r1) (k : znE κ (zaO o.dst d :: loc) nt g w r r1 (a.put o.dst) next) : o.wp P a w next Q:=by
 obtain ⟨i',z,h1,h2,h3⟩:=zdc hz
 rw [hi] at h1
 injection h1 with h1
 subst h1
 subst h3
 have hzc : z.cells.size = sz:=by simpa using hzs
 obtain ⟨hz1,hz2⟩:=zax (g:=g) (w:=w) (σ:=r.st) hc
 have hzl : zero.length = sz:=by rw [← zC hz1]; exact hzs
 have hrun : ∀ kk m,a.eval x = .int kk m → 0 ≤ m → m ≤ LIM → (execOp a.eval o).run P w = .ok (.value (.slice (some ⟨w.heap.size,0,none⟩) m.toNat m.toNat)) (w.alloc (.cells (madeCells z.cells (m.toNat * sz)).toList.toArray e)):=fun kk m ex m0 m1 => by
  unfold execOp
  simp only [ho,ex,Sem.run_bind,zoB (P:=P) (w:=w) ht hi h2 m0 m1 hb,Result.andThen_ok,Sem.run_pure,hs]
 unfold zEe at h
 split at h
 ·rename_i kk m
  obtain ⟨ex,_⟩:=zA hx
  split at h
  ·rename_i hm
   injection h with h
   subst h
   rw [hzl] at k
   obtain ⟨g1,H1,R1⟩:=ztV R0 szi m.toNat
   have hlen : ((yj m.toNat).map (zpS r.st.length zero j)).length = m.toNat:=by simp
   have hl : (madeCells z.cells (m.toNat * sz)).toList.length = ((yj m.toNat).map (zpS r.st.length zero j)).length * sz:=by simp [size_madeCells]
   have hrow : zco g1 w (r.st ++ yb m.toNat (.cells 0 szi [])) (madeCells z.cells (m.toNat * sz)).toList.toArray sz ((yj m.toNat).map (zpS r.st.length zero j)):=by
    have:=zjj (g:=g1) (w:=w) (σ:=r.st ++ yb m.toNat (.cells 0 szi [])) (es:=(yj m.toNat).map (zpS r.st.length zero j)) hzc h0 (fun e he => by
     obtain ⟨q,hq,rfl⟩:=yG.1 he
     rw [yD] at hq
     exact zl3 (H1.zv _ _ hz1) hf (zzC hq g1)) hz2
    rw [hlen] at this
    rw [yo]
    exact this
   obtain ⟨H,R2⟩:=zgH R1 e hl hrow
   have hv:=zmp (g:=g1) (w:=w) (σ:=r.st ++ yb m.toNat (.cells 0 szi [])) e hl
   rw [hlen] at hv
   have hll : (r.st ++ yb m.toNat (Ob.cells 0 szi [])).length = r.st.length + m.toNat:=by simp
   rw [hll] at hv
   refine zaV (r1:=r.allocs (yb m.toNat (.cells 0 szi []) ++ [.cells 0 sz ((yj m.toNat).map (zpS r.st.length zero j))])) F hd (H1.trans (by simpa [R.allocs] using H)) (by simpa [R.allocs] using R2) (L.append _) rfl rfl (hrun kk m ex hm.1 hm.2) (by simpa [R.allocs] using hv) k
  ·cases h
 ·cases h
theorem zys (R0 : Rel g w r.st) (L : Low r.base r.lim r.st) (F : Fr κ loc nt g w r a) {t : TypeId} (ho : o.op = .makeMap t none) (hd : okD κ nt o.dst d = true)
  (k : znE κ (zaO o.dst d :: loc) nt g w r ((r.alloc (.mp [])).put d (.one (.map r.st.length))) (a.put o.dst) next) : o.wp P a w next Q:=by
 obtain ⟨H,R1⟩:=zsp R0 (.mp []) (.map #[] 0) fun H h1 h2 h3 => ⟨by rw [h1]; exact h2,by rw [h1]; exact h3,#[],0,by rw [h1]; exact zbb w _,⟨[],.nil,by simp,rfl⟩,by simp,by simp⟩
 refine zaV (r1:=r.alloc (.mp [])) F hd H R1 (L.append _) rfl rfl (u:=.map (some w.heap.size)) ?_ ?_ k
 ·unfold execOp
  simp [ho,Instr.makeMap]
 ·simp only [zf,zw]
  exact ⟨⟨[],zkn _ _⟩,by simp [G.own]⟩
theorem zwQ {σ : zd} (R0 : Rel g w σ) {sz c : Nat} {cur : Array Value} (t : TypeId) (hs : cur.size = c * sz) :
  ∃ g',Ext g w σ g' (w.alloc (.cells cur t)) (σ ++ [.tok sz [0]]) ∧ Rel g' (w.alloc (.cells cur t)) (σ ++ [.tok sz [0]]) ∧
    zf g' (w.alloc (.cells cur t)) (σ ++ [.tok sz [0]]) (.one (.ap σ.length 0 [])) (.slice (some ⟨w.heap.size,0,none⟩) 0 c):=by
 let g' : G:={ g with tv:=fun t' k => if t' = σ.length then .slice (some ⟨w.heap.size,0,none⟩) 0 c else g.tv t' k,ow:=zxD g.ow w.heap.size (.tk σ.length 0) }
 have how : ∀ b,b < w.heap.size → g'.ow b = g.ow b:=fun b hb => zaF g.ow (k:=w.heap.size) (i:=b) _ (by omega)
 have htv : ∀ t' k,t' < σ.length → g'.tv t' k = g.tv t' k:=fun t' k h => by
  show (if t' = σ.length then _ else g.tv t' k) = _
  rw [if_neg (by omega)]
 have htv' : ∀ k,g'.tv σ.length k = .slice (some ⟨w.heap.size,0,none⟩) 0 c:=fun k => by
  show (if σ.length = σ.length then _ else _) = _
  rw [if_pos rfl]
 have H : Ext g w σ g' (w.alloc (.cells cur t)) (σ ++ [.tok sz [0]]) :=
  Ext.alloc R0 _ g' (fun _ _ => rfl) (fun t' k n h => htv t' k (by obtain ⟨_,_,h1,_⟩:=zcX h; exact zb h1)) how (fun _ _ _ => Iff.rfl) _
 have hat:=zbb w (.cells cur t)
 refine ⟨g',H,⟨fun b o h => ?_,fun id o h => ?_⟩,?_⟩
 ·rw [size_alloc]
  have:=R0.nb b o h
  omega
 ·by_cases hlt : id < σ.length
  ·rw [List.getElem?_append_left hlt] at h
   exact zcV H rfl (fun k => htv id k hlt) (fun b hb _ => ⟨heap_alloc_old w _ hb,how b hb,fun _ h => h⟩) (R0.ob id o h)
  ·have hid : id = σ.length:=by
    have:=zb h
    simp at this
    omega
   subst hid
   simp at h
   subst h
   intro k n hn
   cases k with
   | succ k => simp at hn
   | zero =>
     simp at hn
     subst hn
     rw [htv']
     rcases yp c with h0 | h0
     ·exact .inl ⟨rfl,_,by rw [h0]⟩
     ·exact .inr ⟨_,_,_,cur,t,rfl,h0,yH _,zha _ _ _,hat,by simp [hs],fun o' ho' => absurd (R0.nb _ _ ho') (Nat.lt_irrefl _)⟩
 ·simp only [zf,zw,rep]
  exact ⟨⟨_,c,sz,rfl,yH _,by simp only [zbO],.inl trivial⟩,0,zdD (sz:=sz) (fr:=[0]) (by simp) (by simp),yq _,fun _ => (htv' 0).symm,sz,zce (fr:=[0]) (by simp),by simp only [zbO]⟩
theorem zy4 (R0 : Rel g w r.st) (L : Low r.base r.lim r.st) (F : Fr κ loc nt g w r a) {t e : TypeId} {x : Operand} {kl : IntKind} {sz : Nat} {i : TypeInfo} {z : Value}
  (ho : o.op = .makeSlice t (.const (.int kl 0)) x) (hd : okD κ nt o.dst d = true) (ht : P.underlying t = some (.slice e)) (hi : P.info? e = some i) (hb : i.bytes ≤ 32768) (hs : i.size = sz) (hz : i.zero = some z)
  {vx : V} (hx : zf g w r.st vx (a.eval x)) {r1 : R} (h : zED r d sz vx = some r1) (k : znE κ (zaO o.dst d :: loc) nt g w r r1 (a.put o.dst) next) : o.wp P a w next Q:=by
 unfold zED at h
 split at h
 ·rename_i kk m
  obtain ⟨ex,_⟩:=zA hx
  split at h
  ·rename_i hm
   injection h with h
   subst h
   have hl : m ≤ LIM:=hm.2
   unfold LIM at hl
   have hrun:=run_make (P:=P) w t e i z ht hi hz kl kk 0 m (yF _) hm.1 (by
    have h1 : (i.bytes : Int) * m ≤ 32768 * m:=yh (by omega) hm.1
    omega) (by omega)
   simp only [Int.toNat_zero] at hrun
   obtain ⟨g',H,R1,hv⟩:=zwQ (c:=m.toNat) (sz:=sz) (cur:=madeCells z.cells (m.toNat * i.size)) R0 e (by rw [size_madeCells,hs])
   refine zaV (r1:=r.alloc (.tok sz [0])) F hd H R1 (L.append _) rfl rfl ?_ hv k
   unfold execOp
   have e0 : a.eval (.const (.int kl 0)) = .int kl 0:=rfl
   simp only [ho,ex,e0,Sem.run_bind,hrun,Result.andThen_ok,Sem.run_pure]
  ·cases h
 ·cases h
end
end Go.A
namespace Go.A
section
variable {P : Program} {κ : List Tmp} {loc : List (Option Tmp)} {nt : Nat} {g : G} {w : World} {r r' : R} {a : Act} {o : Go.Oper} {d : D} {next : Act → World → Prop} {Q : Exit → Act → World → Prop}
def At (w : World) (b : Option Addr) (vs : List Value) : Prop:=∀ ad,b = some ad → ∀ j v,vs[j]? = some v → w.cell? (ad.add j) = some v
theorem zi3 {t ty e : TypeId} {i : TypeInfo} {z : Value} (ht : P.underlying t = some (.slice e)) (hi : P.info? e = some i) (hz : i.zero = some z) {base a' : Option Addr} {sLen sCap n c : Nat} {olds news : List Value}
  (hlo : olds.length = sLen * i.size) (holds : At w base olds) (hb : base = none → sCap = 0) (hle : sLen ≤ sCap) (hl : news.length = n * i.size) (hnews : At w a' news) (ha : a' = none → n = 0)
  (hg : sCap < sLen + n) (hlim : sLen + n ≤ LIM) (hby : i.bytes ≤ 32768) :
  (Builtin.append_ #[t,t] ty #[.slice base sLen sCap,.slice a' n c]).run P w =
   .ok (.slice (some ⟨w.heap.size,0,none⟩) (sLen + n) (grownCap w (sLen + n) sCap e)) (w.drew.alloc (.cells (olds.toArray ++ news.toArray ++ Builtin.zeroCells z.cells (grownCap w (sLen + n) sCap e - (sLen + n))) e)):=by
 unfold LIM at hlim
 have hbytes : (sLen + n) * i.bytes ≤ 140737488355328:=by
  have h1 : (sLen + n) * i.bytes ≤ 4294967296 * 32768:=Nat.mul_le_mul hlim hby
  omega
 cases a' with
 | none => have:=ha rfl; omega
 | some ad =>
   cases base with
   | some b => exact run_append_grow w t ty e i z ht hi hz b sLen sCap olds hlo (holds b rfl) ad n c news hl (hnews ad rfl) hg (by omega) (growslice_fits hg hbytes)
   | none =>
     have h0:=hb rfl
     subst h0
     have h1 : sLen = 0:=by omega
     subst h1
     have h2 : olds = []:=ya (by simpa using hlo)
     subst h2
     have:=run_append_nil w t ty e i z ht hi hz ad n c news hl (hnews ad rfl) (by omega) (by omega) (by rw [Nat.zero_add] at hbytes; omega)
     simpa using this
theorem zi2 {t ty e : TypeId} {i : TypeInfo} (ht : P.underlying t = some (.slice e)) (hi : P.info? e = some i) {b off : Nat} {a' : Option Addr} {sLen sCap n c : Nat} {news : List Value} {cur : Array Value} {te : TypeId} (hh : w.heap[b]? = some (.cells cur te (0,0)))
  (hl : news.length = n * i.size) (hnews : At w a' news) (ha : a' = none → n = 0) (h1 : ∀ u ∈ news,u.oneCell' = true) (hroom : sLen + n ≤ sCap) (hfit : off + sLen * i.size + news.length ≤ cur.size) :
  (Builtin.append_ #[t,t] ty #[.slice (some ⟨b,off,none⟩) sLen sCap,.slice a' n c]).run P w = .ok (.slice (some ⟨b,off,none⟩) (sLen + n) sCap) (w.setRow b (zcS cur (off + sLen * i.size) news)):=by
 have hf : (Builtin.firstCells i.size n (.slice a' n c)).run P w = .ok news.toArray w:=by
  cases a' with
  | none =>
    have:=ha rfl
    subst this
    have h2 : news = []:=ya (by simpa using hl)
    subst h2
    exact run_firstCells_none w _ _ _ _
  | some ad => exact run_firstCells_some w i.size n ad n c news hl (hnews ad rfl)
 have hst:=run_storeCells_at P b (off + sLen * i.size) te news 0 cur w hh (by simpa using hfit) h1
 simp only [yE] at hst
 simp [Builtin.append_,run_underlying ht,sizeOf,typeInfo,hi,Builtin.lenOf,hroom,hf,Addr.add_lit,hst,zcS]
theorem zjE {t ty e : TypeId} {i : TypeInfo} (ht : P.underlying t = some (.slice e)) (hi : P.info? e = some i) {base a' : Option Addr} {c0 c : Nat} :
  (Builtin.append_ #[t,t] ty #[.slice base 0 c0,.slice a' 0 c]).run P w = .ok (.slice base 0 c0) w:=by
 have hf : (Builtin.firstCells i.size 0 (.slice a' 0 c)).run P w = .ok #[] w:=by
  cases a' with
  | none => exact run_firstCells_none w _ _ _ _
  | some ad => simpa using run_firstCells_some (P:=P) w i.size 0 ad 0 c [] (by simp) (by simp)
 cases base <;> simp [Builtin.append_,run_underlying ht,sizeOf,typeInfo,hi,Builtin.lenOf,hf,storeCells]
theorem zt8 {sz : Nat} {xs : List (List Fz)} (h : znv sz xs = true) : zbO sz xs:=zdm (zj2 h)
theorem zgK (R0 : Rel g w r.st) {v : V} {u : Value} {ys : List (List Fz)} {sz : Nat} (hv : zf g w r.st v u) (h : elems r.st v = some ys) (hsz : znv sz ys = true) :
  ∃ a' c news,u = .slice a' ys.length c ∧ Lay w g.N sz ys news ∧ At w a' news ∧ (a' = none → ys.length = 0):=by
 have frz : rep w g.N (.sl ys) u → ∃ a' c news,u = .slice a' ys.length c ∧ Lay w g.N sz ys news ∧ At w a' news ∧ (a' = none → ys.length = 0):=fun hr => by
  obtain ⟨a',c,sz',us,e,_,hl,hc⟩:=zmI hr fun _ _ h => zo3 h
  rcases hc with rfl | ⟨b,oo,rfl,hc⟩
  ·refine ⟨a',c,[],e,⟨by simp,by simp only [zbO],fun i e h => by simp at h⟩,fun ad _ j v h => by simp at h,fun _ => rfl⟩
  ·refine ⟨_,c,us,e,?_,fun ad e1 j v hj => ?_,fun h => by cases h⟩
   ·cases ys with
    | nil => exact ⟨by simpa using hl.1,by simp only [zbO],fun i e h => by simp at h⟩
    | cons y ys =>
      have e1 : sz' = sz:=by rw [← zfm hl.2.1 y (by simp),zj2 hsz y (by simp)]
      rwa [e1] at hl
   ·injection e1 with e1
    subst e1
    rw [zaz]
    exact hc j v hj
 unfold elems at h
 split at h
 ·rename_i id ver lo n
  rw [yd] at h
  obtain ⟨ob,h1,h2⟩:=h
  unfold Ob.frz at h2
  split at h2
  ·rename_i ver' sz0 es
   split at h2
   ·rename_i hver
    subst hver
    obtain ⟨a',c,e1,e2,e3,e4⟩:=zfY hv h1
    obtain ⟨hyl,hyg⟩:=zd0 h2
    by_cases hes : es = []
    ·subst hes
     have:=e3 rfl
     have hn : n = 0:=by omega
     subst hn
     simp at hyl
     subst hyl
     exact ⟨a',c,[],e1,⟨by simp,by simp only [zbO],fun i e h => by simp at h⟩,fun ad _ j v h => by simp at h,fun _ => rfl⟩
    ·obtain ⟨f1,f2,arr,t,f3,f4⟩:=e4 fun h => hes (ya h)
     obtain ⟨_,_,arr',t',m1,m2,m3⟩:=R0.ob id _ h1 hes
     rw [m1] at f3
     injection f3 with f3
     injection f3 with f3 _
     subst f3
     have hyn : ys.length = n:=by rw [hyl]; simp; omega
     have hsub : ∀ i e,((es.drop lo).take n)[i]? = some e → es[lo + i]? = some e:=fun i e hi => by
      rw [yc] at hi
      split at hi
      ·rwa [yi] at hi
      ·cases hi
     have hszz : ys ≠ [] → sz0 = sz:=fun hne => by
      cases ys with
      | nil => exact absurd rfl hne
      | cons y ys =>
        obtain ⟨e,h3,h4⟩:=hyg 0 y (by simp)
        rw [← (m3 _ e (hsub 0 e h3)).1,← (zet h4).1]
        exact zj2 hsz y (by simp)
     refine ⟨a',c,(arr'.toList.drop (lo * sz0)).take (n * sz),by rw [hyn]; exact e1,⟨?_,zt8 hsz,fun i y hi j x hj => ?_⟩,fun ad ead j v hj => ?_,fun ha => ?_⟩
     ·rw [hyn,ym,List.length_drop,yy]
      by_cases hne : ys = []
      ·have : n = 0:=by rw [← hyn,hne]; rfl
       simp [this]
      ·have h5:=hszz hne
       subst h5
       have : (lo + n) * sz0 ≤ es.length * sz0:=ye _ f1
       rw [yk] at this
       omega
     ·have hne : ys ≠ []:=fun h => by subst h; simp at hi
      have h5:=hszz hne
      subst h5
      obtain ⟨e,h3,h4⟩:=hyg i y hi
      obtain ⟨cc,h6,h7⟩:=(zet h4).2 j x hj
      obtain ⟨h8,h9⟩:=m3 _ e (hsub i e h3)
      obtain ⟨u',q1,q2,q3⟩:=h9 j cc h6
      refine ⟨u',?_,zfG h7 q2,q3⟩
      have hi':=zb hi
      have hj' : j < sz0:=by have:=zb h6; omega
      have hlt:=inside (n:=n) (by omega : i < n) hj'
      rw [yc,if_pos hlt,yi,yf]
      rw [yk,Nat.add_assoc] at q1
      exact q1
     ·have hlt:=zb hj
      rw [yc] at hj
      split at hj
      ·rw [yi,yf] at hj
       have hn0 : n ≠ 0:=fun h0 => by subst h0; simp at hlt
       have hc0 : c ≠ 0:=by omega
       rw [f2 hc0] at ead
       injection ead with ead
       subst ead
       rw [zaz,zgX m1]
       exact hj
      ·cases hj
     ·rw [hyn]
      have : c = 0:=by
       rcases yp c with h0 | h0
       ·exact h0
       ·rw [f2 (by omega)] at ha; cases ha
      omega
   ·cases h2
  ·cases h2
 ·injection h with h
  subst h
  exact frz (zsd hv)
 ·injection h with h
  subst h
  exact frz (zsa hv)
 ·cases h
theorem zB2 {σ : zd} {t : Nat} {ob : Ob} (h : σ[t]? = some ob) : σ.set t ob = σ:=by
 refine yz fun i => ?_
 rw [zxS]
 split
 ·rename_i hc; rw [← hc.1]; exact h.symm
 ·rfl
theorem zyC {fr : List Nat} {k n : Nat} (h : fr[k]? = some n) : fr.set k n = fr:=by
 refine yz fun i => ?_
 rw [List.getElem?_set]
 split
 ·rename_i hc
  subst hc
  rw [if_pos (zb h)]
  exact h.symm
 ·rfl
theorem zwF {sz k n : Nat} {ob : Ob} (h : ob.front sz k = some n) : ∃ fr,ob = .tok sz fr ∧ fr[k]? = some n:=by
 unfold Ob.front at h
 split at h
 ·split at h
  ·rename_i e; subst e; exact ⟨_,rfl,h⟩
  ·cases h
 ·cases h
theorem zrx {N : zf1} {sz : Nat} (h0 : 0 < sz) {ys : List (List Fz)} {news : List Value} (hlay : Lay w N sz ys news) : ∀ v ∈ news,v.oneCell' = true:=fun v hv => by
 obtain ⟨q,hq⟩:=List.mem_iff_getElem?.1 hv
 have hlt:=zb hq
 rw [hlay.1] at hlt
 have e1 : q / sz < ys.length:=(Nat.div_lt_iff_lt_mul h0).2 hlt
 have e2 : q % sz < sz:=Nat.mod_lt _ h0
 have e3:=zbQ hlay.2.1 (yg e1)
 obtain ⟨u,k1,_,k3⟩:=hlay.2.2 _ _ (yg e1) _ _ (yg (by rw [e3]; exact e2))
 have e4 : q / sz * sz + q % sz = q:=by rw [Nat.mul_comm]; exact Nat.div_add_mod q sz
 rw [e4,hq] at k1
 injection k1 with k1
 rw [k1]; exact k3
theorem zDo (R0 : Rel g w r.st) (L : Low r.base r.lim r.st) (F : Fr κ loc nt g w r a) {t e : TypeId} {s x : Operand} {sz : Nat} {i : TypeInfo} {zs : List Value} {ct : Go.Call}
  (ho : o.op = .call ct) (hcal : ct.callee = .builtin .append) (hargs : ct.args = #[s,x]) (htys : ct.argTypes = #[t,t])
  (hd : okD κ nt o.dst d = true) (ht : P.underlying t = some (.slice e)) (hi : P.info? e = some i) (hb : i.bytes ≤ 32768) (hs : i.size = sz) (h0 : 0 < sz) (hz : zeroOf P e = some zs) (hzs : zs.length = sz)
  {tk k : Nat} {xs ys : List (List Fz)} (hvs : zf g w r.st (.one (.ap tk k xs)) (a.eval s)) {vx : V} (hvx : zf g w r.st vx (a.eval x)) (hel : elems r.st vx = some ys) (hok : znv sz ys = true)
  {r1 : R} (h : (r.st[tk]?).bind (zoE r d sz tk k xs ys) = some r1) (kk : znE κ (zaO o.dst d :: loc) nt g w r r1 (a.put o.dst) next) : o.wp P a w next Q:=by
 subst hs
 rw [yd] at h
 obtain ⟨ob,hob,h⟩:=h
 unfold zoE at h
 split at h
 ·rename_i hc
  obtain ⟨hfr,hlim⟩:=hc
  injection h with h
  subst h
  obtain ⟨fr,rfl,hn⟩:=zwF hfr
  obtain ⟨iz,z,h1,h2,h3⟩:=zdc hz
  rw [hi] at h1
  injection h1 with h1
  subst h1
  subst h3
  have hzl : z.cells.size = i.size:=by simpa using hzs
  simp only [zf,zw] at hvs
  obtain ⟨hrep,n,hfn,_,htv,sz',htz,hlx⟩:=hvs
  rw [zdD hob hn] at hfn
  injection hfn with hfn
  subst hfn
  rw [zce hob] at htz
  injection htz with htz
  subst htz
  have hu:=htv rfl
  obtain ⟨a',c,news,ex,hlay,hat,hnone⟩:=zgK R0 hvx hel hok
  have h1news:=zrx h0 hlay
  have hexec : ∀ {v' : Value} {w' : World},(Builtin.append_ #[t,t] o.type #[a.eval s,a.eval x]).run P w = .ok v' w' → (execOp a.eval o).run P w = .ok (.value v') w':=fun {v' w'} hr => by
   unfold execOp
   simp only [ho,resolve,hcal,hargs,htys,invoke,builtin,Sem.run_bind,Sem.run_pure,Result.andThen_ok,yn,yr,yw,hr]
  obtain ⟨b0,c0,us,e0,hc0,hlayx,hxs⟩ : ∃ b0 c0 us,a.eval s = .slice b0 xs.length c0 ∧ xs.length ≤ c0 ∧ Lay w g.N i.size xs us ∧ At w b0 us:=by
   obtain ⟨b0,c0,sz1,us,e1,e2,e3,e4⟩:=zmI hrep fun _ _ h => zo3 h
   rcases e4 with rfl | ⟨bb,oo,rfl,e5⟩
   ·exact ⟨b0,c0,[],e1,e2,⟨by simp,by simp only [zbO],fun i e h => by simp at h⟩,fun ad _ j v h => by simp at h⟩
   ·refine ⟨_,c0,us,e1,e2,?_,fun ad ead j v hj => ?_⟩
    ·cases xs with
     | nil => exact ⟨by simpa using e3.1,by simp only [zbO],fun i e h => by simp at h⟩
     | cons y ys =>
       have e6 : sz1 = i.size:=by rw [← zfm e3.2.1 y (by simp),zfm hlx y (by simp)]
       rwa [e6] at e3
    ·injection ead with ead
     subst ead
     rw [zaz]
     exact e5 j v hj
  have htok:=R0.ob tk _ hob k _ hn
  by_cases hroom : xs.length + ys.length ≤ c0
  ·by_cases hzero : xs.length + ys.length = 0
   ·
    have hy0 : ys = []:=ya (by omega)
    have hx0 : xs = []:=ya (by omega)
    subst hy0 hx0
    have hst : r.setOb tk ((Ob.tok i.size fr).setFront k 0) = r:=by
     have e1 : (Ob.tok i.size fr).setFront k 0 = .tok i.size fr:=by
      show Ob.tok i.size (fr.set k 0) = _
      rw [zyC (by simpa using hn)]
     rw [e1]
     unfold R.setOb
     rw [zB2 hob]
    have kk' : znE κ (zaO o.dst d :: loc) nt g w r (r.put d (.one (.ap tk k []))) (a.put o.dst) next:=by simpa [hst] using kk
    refine zlM R0 L F hd (hexec (v':=.slice b0 0 c0) ?_) ?_ kk'
    ·rw [e0,ex]
     exact zjE ht hi
    ·simp only [zf,zw]
     have e0' : a.eval s = .slice b0 0 c0:=by simpa using e0
     rw [← e0']
     exact ⟨hrep,_,zdD hob hn,yq _,fun _ => hu,_,zce hob,hlx⟩
   ·rcases htok with ⟨m0,ma,m1⟩ | ⟨bb,oo,cc,arr,ty,m1,m2,m3,m4,m5,m6,m7⟩
    ·rw [← hu,e0] at m1
     injection m1 with _ _ m1
     omega
    ·rw [← hu,e0] at m1
     injection m1 with m1 _ m1c
     subst m1 m1c
     rw [e0] at hrep
     obtain ⟨arr',ty',g',q1,q2,q3,q4,q5⟩:=zBO R0 hob hn (by rw [← hu,e0]) (by omega) hrep hlx hlay hroom
     refine zaV (r1:=r.setOb tk (.tok i.size (fr.set k (xs.length + ys.length)))) F hd q3 q4 L.set rfl rfl (hexec ?_) (by simp only [zf]; exact q5) kk
     rw [e0,ex]
     exact zi2 ht hi q1 hlay.1 hat hnone h1news hroom q2
  ·have hge:=grownCap_ge w (xs.length + ys.length) c0 e
   have hb0 : b0 = none → c0 = 0:=fun hb => by
    rcases htok with ⟨m0,ma,m1⟩ | ⟨bb,oo,cc,arr,ty,m1,_⟩
    ·rw [← hu,e0] at m1
     injection m1
    ·rw [← hu,e0] at m1
     injection m1 with m1 _ _
     rw [hb] at m1
     cases m1
   have hrun:=zi3 (P:=P) (w:=w) (ty:=o.type) ht hi h2 hlayx.1 hxs hb0 hc0 (c:=c) hlay.1 hat hnone (by omega) hlim hb
   obtain ⟨D1,D2⟩:=drawn R0 1
   obtain ⟨g',q3,q4,q5⟩:=zAM (e:=e) (c:=grownCap w (xs.length + ys.length) c0 e) (arr:=us.toArray ++ news.toArray ++ Builtin.zeroCells z.cells (grownCap w (xs.length + ys.length) c0 e - (xs.length + ys.length))) D2 hob hn (hlayx.mono D1.keeps) (hlay.mono D1.keeps) (by omega) hge
    ⟨(Builtin.zeroCells z.cells (grownCap w (xs.length + ys.length) c0 e - (xs.length + ys.length))).toList,by simp⟩ (by
      simp only [yB,yA,size_zeroCells,hzl,hlayx.1,hlay.1,← yk]
      congr 1
      omega) (by omega)
   refine zaV (r1:=r.setOb tk (.tok i.size (fr.set k (xs.length + ys.length)))) F hd (D1.trans q3) q4 L.set rfl rfl (hexec ?_) (by simp only [zf]; exact q5) kk
   rw [e0,ex]
   exact hrun
 ·cases h
theorem zCC (R0 : Rel g w r.st) (L : Low r.base r.lim r.st) (F : Fr κ loc nt g w r a) {t e : TypeId} {s x : Operand} {sz : Nat} {i : TypeInfo} {zs : List Value} {ct : Go.Call}
  (ho : o.op = .call ct) (hcal : ct.callee = .builtin .append) (hargs : ct.args = #[s,x]) (htys : ct.argTypes = #[t,t])
  (hd : okD κ nt o.dst d = true) (ht : P.underlying t = some (.slice e)) (hi : P.info? e = some i) (hb : i.bytes ≤ 32768) (hs : i.size = sz) (h0 : 0 < sz) (hz : zeroOf P e = some zs) (hzs : zs.length = sz)
  {id ver n : Nat} {ys : List (List Fz)} (hvs : zf g w r.st (.one (.own id ver 0 n)) (a.eval s)) {vx : V} (hvx : zf g w r.st vx (a.eval x)) (hel : elems r.st vx = some ys) (hok : znv sz ys = true)
  {r1 : R} (h : (r.st[id]?).bind (zsq r d sz id ver n ys) = some r1) (kk : znE κ (zaO o.dst d :: loc) nt g w r r1 (a.put o.dst) next) : o.wp P a w next Q:=by
 subst hs
 rw [yd] at h
 obtain ⟨ob,hob,h⟩:=h
 unfold zsq at h
 split at h
 ·rename_i hc
  obtain ⟨hrow,hpos,hlim⟩:=hc
  injection h with h
  subst h
  obtain ⟨es,rfl⟩:=zj4 hrow
  obtain ⟨iz,z,h1,h2,h3⟩:=zdc hz
  rw [hi] at h1
  injection h1 with h1
  subst h1
  subst h3
  have hzl : z.cells.size = i.size:=by simpa using hzs
  have hown:=zfY hvs hob
  obtain ⟨b0,c0,e0,hc0,hl0,hl1⟩:=hown
  obtain ⟨a',c,news,ex,hlay,hat,hnone⟩:=zgK R0 hvx hel hok
  have h1news:=zrx h0 hlay
  have hexec : ∀ {v' : Value} {w' : World},(Builtin.append_ #[t,t] o.type #[a.eval s,a.eval x]).run P w = .ok v' w' → (execOp a.eval o).run P w = .ok (.value v') w':=fun {v' w'} hr => by
   unfold execOp
   simp only [ho,resolve,hcal,hargs,htys,invoke,builtin,Sem.run_bind,Sem.run_pure,Result.andThen_ok,yn,yr,yw,hr]
  have hrowl:=ziQ (σ:=r.st) hlay
  have hgrow : (Ob.cells ver i.size es).grow n (ys.map fun e => e.map C.f) = .cells (ver + 1) i.size (es.take n ++ ys.map fun e => e.map C.f):=rfl
  rw [hgrow] at kk
  have hlow : ∀ ob',Low r.base r.lim (r.setOb id ob').st:=fun ob' => L.set
  by_cases hroom : n + ys.length ≤ c0
  ·have hes : es ≠ []:=fun h => by
    have:=hl0 (by rw [h]; rfl)
    omega
   obtain ⟨arr,ty,q0,q1,q2,q3,q4,q5⟩:=zBj R0 hob hes ⟨b0,c0,rfl,hc0,hl0,hl1⟩ (by simpa using hlay.1) hrowl (by simpa using hroom) (by simpa using hpos)
   subst q0
   rw [yu] at q5
   refine zaV (r1:=r.setOb id (.cells (ver + 1) i.size (es.take n ++ ys.map fun e : List Fz => e.map C.f))) F hd q3 q4 (hlow _) rfl rfl (hexec ?_) (by simp only [zf]; exact q5) kk
   rw [e0,ex]
   have:=zi2 (P:=P) (w:=w) (ty:=o.type) (off:=0) (sLen:=n) (sCap:=c0) (c:=c) ht hi q1 hlay.1 hat hnone h1news hroom (by simpa using q2)
   simpa using this
  ·have hge:=grownCap_ge w (n + ys.length) c0 e
   obtain ⟨us,hul,hat0,hrow0,hb0⟩ : ∃ us,us.length = n * i.size ∧ At w b0 us ∧ zco g w r.st us.toArray i.size (es.take n) ∧ (b0 = none → c0 = 0):=by
    by_cases hes : es = []
    ·have h3:=hl0 (by rw [hes]; rfl)
     have h4 : n = 0:=by omega
     subst h4
     exact ⟨[],by simp,fun ad _ j v h => by simp at h,fun i e h => by simp at h,fun _ => h3⟩
    ·obtain ⟨f1,f2,arr,ty,f3,f4⟩:=hl1 fun h => hes (ya h)
     obtain ⟨_,_,arr',ty',m1,m2,m3⟩:=R0.ob id _ hob hes
     rw [m1] at f3
     injection f3 with f3
     injection f3 with f3 _
     subst f3
     have hfit : n * i.size ≤ es.length * i.size:=ye _ (by omega)
     refine ⟨arr'.toList.take (n * i.size),by rw [ym,yy]; omega,fun ad ead j v hj => ?_,fun q e hq => ?_,fun hb => ?_⟩
     ·rw [yc] at hj
      split at hj
      ·have hc : c0 ≠ 0:=fun h => by
        have h4 : n = 0:=by omega
        subst h4
        omega
       rw [f2 hc] at ead
       injection ead with ead
       subst ead
       rw [zaz,zgX m1]
       rw [yf] at hj
       simpa using hj
      ·cases hj
     ·rw [yc] at hq
      split at hq
      ·refine ⟨(m3 q e hq).1,fun j c hc => ?_⟩
       obtain ⟨u,k1,k2,k3⟩:=(m3 q e hq).2 j c hc
       have hj : j < i.size:=by have:=zb hc; have:=(m3 q e hq).1; omega
       refine ⟨u,?_,k2,k3⟩
       rw [List.getElem?_toArray,yc,if_pos (inside (by assumption) hj),yf]
       exact k1
      ·cases hq
     ·rcases yp c0 with h5 | h5
      ·exact h5
      ·rw [f2 (by omega)] at hb; cases hb
   have hnl : n ≤ es.length:=by
    by_cases hes : es = []
    ·have:=hl0 (by rw [hes]; rfl); omega
    ·have:=(hl1 fun h => hes (ya h)).1; omega
   have hrun:=zi3 (P:=P) (w:=w) (ty:=o.type) ht hi h2 hul hat0 hb0 hc0 (c:=c) hlay.1 hat hnone (by omega) hlim hb
   obtain ⟨D1,D2⟩:=drawn R0 1
   obtain ⟨g',q3,q4,q5⟩:=zBE (e:=e) (c:=grownCap w (n + ys.length) c0 e) (arr:=us.toArray ++ news.toArray ++ Builtin.zeroCells z.cells (grownCap w (n + ys.length) c0 e - (n + ys.length))) D2 hob hnl hul (D1.zco hrow0) (by simpa using hlay.1) (D1.zco hrowl) (by simpa using hge) (by simpa using hpos)
    ⟨(Builtin.zeroCells z.cells (grownCap w (n + ys.length) c0 e - (n + ys.length))).toList,by simp⟩ (by
      simp only [yB,yA,size_zeroCells,hzl,hul,hlay.1,← yk]
      congr 1
      omega)
   rw [yu] at q5
   refine zaV (r1:=r.setOb id (.cells (ver + 1) i.size (es.take n ++ ys.map fun e : List Fz => e.map C.f))) F hd (D1.trans q3) q4 (hlow _) rfl rfl (hexec ?_) (by simp only [zf]; exact q5) kk
   rw [e0,ex]
   exact hrun
 ·split at h
  ·rename_i hc
   obtain ⟨hrow,hz0⟩:=hc
   injection h with h
   subst h
   have hy0 : ys = []:=ya (by omega)
   have hn0 : n = 0:=by omega
   subst hy0 hn0
   obtain ⟨es,rfl⟩:=zj4 hrow
   have hown:=zfY hvs hob
   obtain ⟨b0,c0,e0,hc0,hl0,hl1⟩:=hown
   obtain ⟨a',c,news,ex,hlay,hat,hnone⟩:=zgK R0 hvx hel hok
   have hexec : ∀ {v' : Value} {w' : World},(Builtin.append_ #[t,t] o.type #[a.eval s,a.eval x]).run P w = .ok v' w' → (execOp a.eval o).run P w = .ok (.value v') w':=fun {v' w'} hr => by
    unfold execOp
    simp only [ho,resolve,hcal,hargs,htys,invoke,builtin,Sem.run_bind,Sem.run_pure,Result.andThen_ok,yn,yr,yw,hr]
   refine zlM R0 L F hd (hexec (v':=.slice b0 0 c0) ?_) ?_ kk
   ·rw [e0,ex]
    exact zjE ht hi
   ·rw [← e0]
    exact hvs
  ·cases h
theorem zx1 (R0 : Rel g w r.st) (L : Low r.base r.lim r.st) (F : Fr κ loc nt g w r a) {t e : TypeId} {s x : Operand} {sz : Nat} {i : TypeInfo} {zs : List Value} {ct : Go.Call}
  (ho : o.op = .call ct) (hcal : ct.callee = .builtin .append) (hargs : ct.args = #[s,x]) (htys : ct.argTypes = #[t,t])
  (hd : okD κ nt o.dst d = true) (ht : P.underlying t = some (.slice e)) (hi : P.info? e = some i) (hb : i.bytes ≤ 32768) (hs : i.size = sz) (h0 : 0 < sz) (hz : zeroOf P e = some zs) (hzs : zs.length = sz)
  {vs vx : V} (hvs : zf g w r.st vs (a.eval s)) (hvx : zf g w r.st vx (a.eval x))
  {r1 : R} (h : ((elems r.st vx).bind fun ys => if znv sz ys then zCH r d sz ys vs else none) = some r1) (kk : znE κ (zaO o.dst d :: loc) nt g w r r1 (a.put o.dst) next) : o.wp P a w next Q:=by
 rw [yd] at h
 obtain ⟨ys,hel,h⟩:=h
 split at h
 ·rename_i hok
  unfold zCH at h
  split at h
  ·exact zDo R0 L F ho hcal hargs htys hd ht hi hb hs h0 hz hzs hvs hvx hel hok h kk
  ·exact zCC R0 L F ho hcal hargs htys hd ht hi hb hs h0 hz hzs hvs hvx hel hok h kk
  ·cases h
 ·cases h
theorem zBP {σ : zd} (R : Rel g w σ) {id ver sz lo : Nat} {es : List (List C)} {ys : List (List Fz)} {news : List Value} (hid : σ[id]? = some (.cells ver sz es)) (hne : es ≠ []) (hlay : Lay w g.N sz ys news) (h1 : ∀ v ∈ news,v.oneCell' = true) (h0 : 0 < sz) (hle : lo + ys.length ≤ es.length) :
  ∃ arr t,w.heap[g.ρ id]? = some (.cells arr t (0,0)) ∧ lo * sz + news.length ≤ arr.size ∧
    Ext g w σ g (w.setRow (g.ρ id) (zcS arr (lo * sz) news)) (σ.set id (.cells ver sz (es.take lo ++ (ys.map (fun e => e.map C.f) ++ es.drop (lo + ys.length))))) ∧
    Rel g (w.setRow (g.ρ id) (zcS arr (lo * sz) news)) (σ.set id (.cells ver sz (es.take lo ++ (ys.map (fun e => e.map C.f) ++ es.drop (lo + ys.length))))):=by
 obtain ⟨how,hN,arr,t,hh,hsz,hrow⟩:=R.ob id _ hid hne
 have hnl : news.length = ys.length * sz:=hlay.1
 have hfit : lo * sz + news.length ≤ arr.size:=by
  have : (lo + ys.length) * sz ≤ es.length * sz:=ye _ hle
  rw [yk] at this
  omega
 refine ⟨arr,t,hh,hfit,?_⟩
 have hrowl:=ziQ (σ:=σ) hlay
 have hglt : g.ρ id < w.heap.size:=(Array.getElem?_eq_some_iff.1 hh).1
 have hlen' : (es.take lo ++ (ys.map (fun e => e.map C.f) ++ es.drop (lo + ys.length))).length = es.length:=by
  simp
  omega
 refine replace (g':=g) R hid (fun b => b = g.ρ id) rfl rfl rfl (by simp) (fun b hb ht => ⟨setRow_other w _ _ _ ht,rfl,fun _ h => h⟩)
  (fun b hb => ⟨.inl (by rw [hb]; exact how),rfl,fun o h => absurd (by rw [hb] at h; exact h) (hN o)⟩) (fun _ _ _ h => h) (fun _ _ => rfl) (fun _ _ _ => rfl) (fun b o h => by simpa using R.nb b o h) ?_ ?_ ?_ (fun _ _ h => by cases h) ?_
 ·intro ver' sz' len' hs
  refine .inl ⟨?_,rfl,fun _ arr0 t0 hq0 => ?_⟩
  ·rw [zn hid] at hs
   injection hs with hs
   rw [zn (zx hid),← hs,hlen']
  ·rw [hh] at hq0
   injection hq0 with hq0
   injection hq0 with hq0 hq1
   subst hq0
   subst hq1
   exact ⟨_,setRow_heap w _ _ _ _ _ hh,ze8 hfit⟩
 ·intro es' h; cases h
 ·intro k n h; simp [zlw,hid,Ob.fr] at h
 ·intro H hne'
  refine ⟨how,hN,_,t,setRow_heap w _ _ _ _ _ hh,by rw [ze8 hfit,hlen']; exact hsz,fun i x hx => ?_⟩
  have old : ∀ i x,es[i]? = some x → (i < lo ∨ lo + ys.length ≤ i) → x.length = sz ∧ ∀ j c,x[j]? = some c → ∃ u,(zcS arr (lo * sz) news)[i * sz + j]? = some u ∧ zw g (w.setRow (g.ρ id) (zcS arr (lo * sz) news)) (σ.set id (.cells ver sz (es.take lo ++ (ys.map (fun e => e.map C.f) ++ es.drop (lo + ys.length))))) c u ∧ u.oneCell' = true:=fun i x hx hi => by
   refine ⟨(hrow i x hx).1,fun j c hc => ?_⟩
   obtain ⟨u,a,b,d⟩:=(hrow i x hx).2 j c hc
   have hj : j < sz:=by have:=zb hc; have:=(hrow i x hx).1; omega
   refine ⟨u,?_,H.zw c u b,d⟩
   rw [zfh hfit]
   rcases hi with hi | hi
   ·have:=inside (q:=j) hi hj
    rw [if_pos (by omega)]
    exact a
   ·have h2 : (lo + ys.length) * sz ≤ i * sz:=ye _ hi
    rw [yk] at h2
    rw [if_neg (by omega),if_neg (by omega)]
    exact a
  rw [yv] at hx
  by_cases c1 : i < lo
  ·rw [if_pos (by simp; omega),yc,if_pos c1] at hx
   exact old i x hx (.inl c1)
  ·rw [if_neg (by simp; omega),yv] at hx
   have htl : (es.take lo).length = lo:=by simp; omega
   rw [htl] at hx
   by_cases c2 : i - lo < ys.length
   ·rw [if_pos (by simpa using c2)] at hx
    obtain ⟨k1,k2⟩:=hrowl (i - lo) x hx
    refine ⟨k1,fun j c hc => ?_⟩
    obtain ⟨u,a,b,d⟩:=k2 j c hc
    have hj : j < sz:=by have:=zb hc; omega
    refine ⟨u,?_,H.zw c u b,d⟩
    rw [zfh hfit]
    have e1 : i * sz = lo * sz + (i - lo) * sz:=by rw [← yk]; congr 1; omega
    have e2:=inside (q:=j) c2 hj
    rw [if_neg (by omega),if_pos (by omega),show i * sz + j - lo * sz = (i - lo) * sz + j from by omega]
    simpa using a
   ·rw [if_neg (by simpa using c2),yi] at hx
    simp only [yu] at hx
    rw [show lo + ys.length + (i - lo - ys.length) = i from by omega] at hx
    exact old i x hx (.inr (by omega))
theorem zAK {N : zf1} {sz k : Nat} {ys : List (List Fz)} {news : List Value} (h : Lay w N sz ys news) (hk : k ≤ ys.length) : Lay w N sz (ys.take k) (news.take (k * sz)):=by
 obtain ⟨h1,h2,h3⟩:=h
 have hks : k * sz ≤ ys.length * sz:=ye _ hk
 refine ⟨by rw [ym,ym,h1,yC hks,yC hk],zdm fun e he => zfm h2 e (yl he),fun i e hi j x hj => ?_⟩
 rw [yc] at hi
 split at hi
 ·rename_i hik
  obtain ⟨u,a,b,c⟩:=h3 i e hi j x hj
  have hj' : j < sz:=by have:=zb hj; have:=zbQ h2 hi; omega
  have:=inside (q:=j) hik hj'
  exact ⟨u,by rw [yc,if_pos this]; exact a,b,c⟩
 ·cases hi
theorem zzr (R0 : Rel g w r.st) (L : Low r.base r.lim r.st) (F : Fr κ loc nt g w r a) {t t' e : TypeId} {x y : Operand} {sz : Nat} {ct : Go.Call}
  (ho : o.op = .call ct) (hcal : ct.callee = .builtin .copy) (hargs : ct.args = #[x,y]) (htys : ct.argTypes = #[t,t'])
  (hd : okD κ nt o.dst d = true) (ht : P.underlying t = some (.slice e)) (hs : zhf P e = some sz) (h0 : 0 < sz)
  {vx vy : V} (hvx : zf g w r.st vx (a.eval x)) (hvy : zf g w r.st vy (a.eval y))
  {r1 : R} (h : ((elems r.st vy).bind fun ys => if znv sz ys then zEd r d sz ys vx else none) = some r1) (kk : znE κ (zaO o.dst d :: loc) nt g w r r1 (a.put o.dst) next) : o.wp P a w next Q:=by
 rw [yd] at h
 obtain ⟨ys,hel,h⟩:=h
 split at h
 ·rename_i hok
  unfold zEd at h
  split at h
  ·rename_i id ver lo n
   split at h
   ·cases h
   ·rename_i hk0
    rw [yd] at h
    obtain ⟨ob,hob,h⟩:=h
    cases ob with
    | tok _ _ => simp [zjp] at h
    | mp _ => simp [zjp] at h
    | cells ver' sz' es =>
      simp only [zjp] at h
      split at h
      ·rename_i hc
       obtain ⟨rfl,rfl,hle⟩:=hc
       injection h with h
       subst h
       have hown:=zfY hvx hob
       obtain ⟨b0,c0,e0,hc0,hl0,hl1⟩:=hown
       obtain ⟨a',c,news,ex,hlay,hat,hnone⟩:=zgK R0 hvy hel hok
       have h1news:=zrx h0 hlay
       have hes : es ≠ []:=fun h => by
        rw [h,List.length_nil] at hle
        omega
       have hlen0 : es.length ≠ 0:=fun h => hes (ya h)
       obtain ⟨hb1,hb2,_⟩:=hl1 hlen0
       have hb:=hb2 (by omega)
       subst hb
       have hk : min ys.length n ≤ ys.length:=Nat.min_le_left _ _
       have hlay':=zAK hlay hk
       have htl : (ys.take (min ys.length n)).length = min ys.length n:=by simp
       obtain ⟨arr,ty,hh,hfit,H,R1⟩:=zBP (lo:=lo) R0 hob hes hlay' (fun v hv => h1news v (yl hv)) h0 (by rw [htl]; exact hle)
       rw [htl] at H R1
       obtain ⟨ad,rfl⟩ : ∃ ad,a' = some ad:=by
        cases a' with
        | none => have:=hnone rfl; omega
        | some ad => exact ⟨ad,rfl⟩
       have hnl : (news.take (min ys.length n * sz')).length = min ys.length n * sz':=by rw [hlay'.1,htl]
       have hload : (loadCells ad (min ys.length n * sz')).run P w = .ok (news.take (min ys.length n * sz')).toArray w:=by
        have:=run_loadCells_list (P:=P) w ad (news.take (min ys.length n * sz')) (fun j v hj => by
         rw [yc] at hj
         split at hj
         ·exact hat ad rfl j v hj
         ·cases hj)
        rwa [hnl] at this
       have hst:=run_storeCells_at P (g.ρ id) (lo * sz') ty (news.take (min ys.length n * sz')) 0 arr w hh (by simpa using hfit) (fun v hv => h1news v (yl hv))
       simp only [yE] at hst
       have hrun : (execOp a.eval o).run P w = .ok (.value (goInt (min ys.length n : Nat))) (w.setRow (g.ρ id) (zcS arr (lo * sz') (news.take (min ys.length n * sz')))):=by
        unfold zhf at hs
        cases hq : P.info? e with
        | none => simp [hq] at hs
        | some inf =>
          have hsz : inf.size = sz':=by simpa [hq] using hs
          have hmin : Nat.min ys.length n = min ys.length n:=rfl
          unfold execOp
          simp only [ho,resolve,hcal,hargs,htys,invoke,builtin,Sem.run_bind,Sem.run_pure,Result.andThen_ok,yn,yr,yw,e0,ex]
          simp [Builtin.copy_,run_underlying ht,Builtin.lenOf,Builtin.firstCells,sizeOf,typeInfo,hq,hsz,hmin,hload,hst,zcS]
       refine zaV (r1:=r.setOb id _) F hd H R1 L.set rfl rfl hrun ?_ kk
       exact zt rfl
      ·cases h
  ·cases h
 ·cases h
end
end Go.A
