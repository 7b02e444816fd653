/- An abstract executor, sixteenth part: each operation that calls nothing comes to what the executor says. -/
import Derived.Test.YtapkhldfbdcblaaGreatDoorAxExec
set_option linter.unusedSectionVars false
set_option linter.unnecessarySimpa false
set_option linter.unusedSimpArgs false
set_option linter.unusedVariables false
namespace Go.Ax
noncomputable section
variable {P : Program}

theorem foldl_set (off : Nat) : ∀ (vs : List Value) (j : Nat) (cs : Array Value), off + j + vs.length ≤ cs.size →
    ((vs.zipIdx j).foldl (fun cs (cj : Value × Nat) => cs.setIfInBounds (off + cj.2) cj.1) cs).size = cs.size ∧
    ∀ i, ((vs.zipIdx j).foldl (fun cs (cj : Value × Nat) => cs.setIfInBounds (off + cj.2) cj.1) cs)[i]? = if off + j ≤ i ∧ i < off + j + vs.length then vs[i - (off + j)]? else cs[i]?
  | [], j, cs, h => ⟨rfl, fun i => by rw [if_neg (by simp only [List.length_nil]; omega)]; rfl⟩
  | v :: vs, j, cs, h => by
    simp only [List.length_cons] at h
    have ih := foldl_set off vs (j + 1) (cs.setIfInBounds (off + j) v) (by simp; omega)
    simp only [List.zipIdx_cons, List.foldl_cons]
    refine ⟨by rw [ih.1]; simp, fun i => ?_⟩
    rw [ih.2 i]
    by_cases h1 : off + (j + 1) ≤ i ∧ i < off + (j + 1) + vs.length
    · rw [if_pos h1, if_pos (by simp only [List.length_cons]; omega), show i - (off + j) = (i - (off + (j + 1))) + 1 by omega, List.getElem?_cons_succ]
    · rw [if_neg h1]
      by_cases h2 : i = off + j
      · subst h2
        rw [if_pos (by simp only [List.length_cons]; omega)]
        have : off + j < cs.size := by omega
        simp [this]
      · rw [if_neg (by simp only [List.length_cons]; omega), Array.getElem?_setIfInBounds_ne (by omega)]

theorem splice_get : ∀ (i : Nat) (vs cs : List AV), i + vs.length ≤ cs.length → ∀ j : Nat, (splice i vs cs)[j]? = if i ≤ j ∧ j < i + vs.length then vs[j - i]? else cs[j]?
  | 0, [], cs, _, j => by rw [if_neg (by simp)]; simp [splice]
  | 0, v :: vs, c :: cs, h, j => by
    simp only [List.length_cons] at h
    simp only [splice]
    cases j with
    | zero => simp
    | succ j =>
      simp only [List.getElem?_cons_succ]
      rw [splice_get 0 vs cs (by omega) j]
      simp only [List.length_cons, Nat.zero_add, Nat.zero_le, true_and, Nat.sub_zero, List.getElem?_cons_succ]
      by_cases h1 : j < vs.length
      · rw [if_pos h1, if_pos (by omega)]
      · rw [if_neg h1, if_neg (by omega)]
  | 0, v :: vs, [], h, j => by simp at h
  | i + 1, vs, c :: cs, h, j => by
    simp only [List.length_cons] at h
    simp only [splice]
    cases j with
    | zero => rw [if_neg (by omega)]; rfl
    | succ j =>
      simp only [List.getElem?_cons_succ]
      rw [splice_get i vs cs (by omega) j]
      by_cases h1 : i ≤ j ∧ j < i + vs.length
      · rw [if_pos h1, if_pos (by omega), Nat.add_sub_add_right]
      · rw [if_neg h1, if_neg (by omega)]
  | i + 1, vs, [], h, j => by simp at h

/-- Parts, filled in. -/
def PartsRel (E : Env) : List (Nat × AV) → List (Nat × Value) → Prop
  | [], ps => ps = []
  | (i, a) :: as, ps => ∃ v ps', ps = (i, v) :: ps' ∧ VRel E a v ∧ PartsRel E as ps'
theorem fillA_ok {E : Env} {place : Nat → Option (Nat × Nat)} : ∀ {parts : List (Nat × AV)} {ps : List (Nat × Value)} {cs : List AV} {C : Array Value} {out : List AV}, fillA place cs parts = some out → PartsRel E parts ps → VRelL E cs C.toList →
    ∃ C', Instr.fill place C ps = some C' ∧ VRelL E out C'.toList ∧ (allCells cs = true → (∀ p ∈ parts, ∀ vc, p.2.cellsOf = some vc → allCells vc = true) → allCells out = true)
  | [], ps, cs, C, out, e, hp, hc => by
    simp only [PartsRel] at hp; subst hp
    simp [fillA] at e; subst e
    exact ⟨C, rfl, hc, fun h _ => h⟩
  | (i, a) :: parts, ps, cs, C, out, e, hp, hc => by
    simp only [PartsRel] at hp
    obtain ⟨v, ps', rfl, hv, hps⟩ := hp
    simp only [fillA] at e
    split at e
    · rename_i off size vc hpl hvc
      cases hcond : Nat.beq vc.length size && Nat.ble (off + vc.length) cs.length
      · simp [hcond] at e
      · simp only [hcond, cond_true] at e
        simp only [Bool.and_eq_true, Nat.beq_eq] at hcond
        obtain ⟨rfl, hle⟩ := hcond
        have hle := Nat.le_of_ble_eq_true hle
        have hvcr := hv.cells hvc
        have hvl : v.cells.size = vc.length := by have := hvcr.length; simpa using this
        have hCl : C.size = cs.length := by have := hc.length; simpa using this
        have hf := foldl_set off v.cells.toList 0 C (by simp; omega)
        have hnew : VRelL E (splice off vc cs) ((v.cells.zipIdx.foldl (fun cs (cj : Value × Nat) => cs.setIfInBounds (off + cj.2) cj.1) C)).toList := by
          have e1 : v.cells.zipIdx.foldl (fun cs (cj : Value × Nat) => cs.setIfInBounds (off + cj.2) cj.1) C = (v.cells.toList.zipIdx 0).foldl (fun cs (cj : Value × Nat) => cs.setIfInBounds (off + cj.2) cj.1) C := by
            rw [← Array.foldl_toList]
            simp
          rw [e1]
          refine VRelL.of_get ?_ fun j x hj => ?_
          · rw [Array.length_toList, hf.1, hCl, splice_length _ _ _ hle]
          · rw [splice_get off vc cs hle] at hj
            rw [Array.getElem?_toList, hf.2 j]
            simp only [Nat.add_zero, Array.length_toList, hvl]
            by_cases h1 : off ≤ j ∧ j < off + vc.length
            · rw [if_pos h1] at hj ⊢
              exact hvcr.get hj
            · rw [if_neg h1] at hj ⊢
              obtain ⟨u, hu, hr⟩ := hc.get hj
              exact ⟨u, by simpa using hu, hr⟩
        obtain ⟨C', k1, k2, k3⟩ := fillA_ok e hps hnew
        refine ⟨C', ?_, k2, fun h1 h2 => k3 (allCells_of fun x hx => ?_) fun p hp => h2 p (by simp [hp])⟩
        · simp only [Instr.fill, hpl]
          rw [if_neg (by rw [hvl, hCl]; simp; omega)]
          exact k1
        · obtain ⟨j, hj⟩ := List.getElem?_of_mem hx
          rw [splice_get off vc cs hle] at hj
          split at hj
          · exact allCells_mem (h2 (i, a) (by simp) vc hvc) x (List.mem_of_getElem? hj)
          · exact allCells_mem h1 x (List.mem_of_getElem? hj)
    · cases e

theorem evParts_ok {E : Env} {n : Nat} {T : PM AV} {a : Act} (tr : TRel E n T a.tmps) : ∀ {ps : List (Nat × Operand)} {as : List (Nat × AV)}, evParts T ps = some as → PartsRel E as (ps.map fun (i, x) => (i, a.eval x))
  | [], as, e => by simp [evParts] at e; subst e; simp [PartsRel]
  | (i, x) :: ps, as, e => by
    simp only [evParts] at e
    split at e
    · rename_i b bs h1 h2
      simp at e; subst e
      simp only [List.map_cons, PartsRel]
      exact ⟨_, _, rfl, evA_rel h1 tr, evParts_ok tr h2⟩
    · cases e

theorem placesA_ok {w : World} : ∀ {fs : List Field} {pl : List (Nat × Nat)}, placesA P fs = some pl → (fs.mapM fun f => Prod.mk f.offset <$> sizeOf f.type : Sem (List (Nat × Nat))).run P w = .ok pl w
  | [], pl, e => by simp [placesA] at e; subst e; simp
  | f :: fs, pl, e => by
    simp only [placesA] at e
    split at e
    · rename_i n r h1 h2
      simp at e; subst e
      simp [List.mapM_cons, run_sizeA w h1, placesA_ok h2]
    · cases e

theorem buildA_ok {E : Env} {h : AH} {w : World} {t : TypeId} {parts : List (Nat × AV)} {ps : Array (Nat × Value)} {r : ORes} (hp : PartsRel E parts ps.toList) (e : buildA P t parts = some r) :
    ResOK E h w ((do pure (Next.value (← Instr.build t ps)) : Sem Next).run P w) r := by
  unfold buildA at e
  split at e
  · rename_i z hz
    obtain ⟨i, zv, hi, hz', hrel⟩ := zeroA_ok hz
    split at e
    · rename_i zs fs hzs hu
      split at e
      · rename_i pl hpl
        split at e
        · rename_i cs hcs
          simp at e; subst e
          obtain ⟨C', k1, k2, _⟩ := fillA_ok hcs hp ((hrel E).cells hzs)
          refine ⟨.agg C', w, .inl (run_value ?_), by simp only [VRel]; exact ⟨C', rfl, k2⟩, .refl w⟩
          have hpl' := placesA_ok (w := w) hpl
          have e1 : (fun i : Nat => (pl.toArray)[i]?) = fun i => pl[i]? := by funext i; simp
          simp [Instr.build, run_zero w hi hz', run_underlying hu, Array.mapM_eq_mapM_toList, hpl', k1]
        · cases e
      · cases e
    · rename_i zs n el hzs hu
      split at e
      · rename_i sz hsz
        split at e
        · rename_i cs hcs
          simp at e; subst e
          obtain ⟨C', k1, k2, _⟩ := fillA_ok hcs hp ((hrel E).cells hzs)
          refine ⟨.agg C', w, .inl (run_value ?_), by simp only [VRel]; exact ⟨C', rfl, k2⟩, .refl w⟩
          simp [Instr.build, run_zero w hi hz', run_underlying hu, run_sizeA w hsz, k1]
        · cases e
      · cases e
    · cases e
  · cases e

theorem repeatA_get (zs : List AV) (h : 0 < zs.length) : ∀ (n j : Nat), j < n * zs.length → (repeatA zs n)[j]? = zs[j % zs.length]?
  | 0, j, hj => by omega
  | n + 1, j, hj => by
    simp only [repeatA]
    by_cases hlt : j < zs.length
    · rw [List.getElem?_append_left hlt, Nat.mod_eq_of_lt hlt]
    · rw [List.getElem?_append_right (by omega), repeatA_get zs h n _ (by rw [Nat.add_mul] at hj; omega)]
      congr 1
      rw [Nat.mod_eq_sub_mod (by omega : j ≥ zs.length)]
theorem repeatA_length (zs : List AV) : ∀ n, (repeatA zs n).length = n * zs.length
  | 0 => by simp [repeatA]
  | n + 1 => by simp [repeatA, repeatA_length zs n, Nat.add_mul]; omega

theorem buildSliceA_ok {E : Env} {h : AH} {w : World} {t : TypeId} {len : Nat} {parts : List (Nat × AV)} {ps : Array (Nat × Value)} {r : ORes} (hp : PartsRel E parts ps.toList) (e : buildSliceA P t len parts = some r) :
    ResOK E h w ((do pure (Next.value (← Instr.buildSlice t len ps)) : Sem Next).run P w) r := by
  unfold buildSliceA at e
  split at e
  · rename_i el hu
    split at e
    · rename_i sz z hsz hz
      obtain ⟨i, zv, hi, hz', hrel⟩ := zeroA_ok hz
      split at e
      · rename_i zs hzs
        cases hc : (Nat.beq zs.length sz && Nat.blt 0 sz) && Nat.ble (len * sz) 65536
        · simp [hc] at e
        · simp only [hc, cond_true] at e
          simp only [Bool.and_eq_true, Nat.beq_eq, Nat.blt_eq] at hc
          obtain ⟨⟨rfl, hpos⟩, hle⟩ := hc
          have hle := Nat.le_of_ble_eq_true hle
          split at e
          · rename_i cs hcs
            cases hall : allCells cs <;> simp [hall] at e
            subst e
            have hcells := (hrel E).cells hzs
            have hzl : zv.cells.size = zs.length := by have := hcells.length; simpa using this
            let C0 : Array Value := (Array.range (len * zs.length)).map (zv.cells[· % zv.cells.size]!)
            have hC0 : VRelL E (repeatA zs len) C0.toList := by
              refine VRelL.of_get (by simp [C0, repeatA_length]) fun j x hj => ?_
              have hlt : j < len * zs.length := by
                have := (List.getElem?_eq_some_iff.1 hj).1
                rwa [repeatA_length] at this
              rw [repeatA_get zs hpos len j hlt] at hj
              obtain ⟨q, hq, hqr⟩ := hcells.get hj
              refine ⟨q, ?_, hqr⟩
              have hq' : zv.cells[j % zs.length]? = some q := by simpa using hq
              rw [Array.getElem?_toList]
              simp only [C0, Array.getElem?_map, Array.getElem?_range, hlt, if_true, Option.map_some, hzl]
              congr 1
              rw [getElem!_def, hq']
            obtain ⟨C', k1, k2, _⟩ := fillA_ok hcs hp hC0
            have hlen : (fillA (fun i => some (i * zs.length, zs.length)) (repeatA zs len) parts = some cs) → cs.length = len * zs.length := by
              have : ∀ (parts : List (Nat × AV)) (a b : List AV), fillA (fun i => some (i * zs.length, zs.length)) a parts = some b → b.length = a.length := by
                intro parts
                induction parts with
                | nil => intro a b hb; simp [fillA] at hb; subst hb; rfl
                | cons p parts ih =>
                  intro a b hb
                  obtain ⟨i0, v0⟩ := p
                  simp only [fillA] at hb
                  split at hb
                  · rename_i off size vc h1 h2
                    cases hq : Nat.beq vc.length size && Nat.ble (off + vc.length) a.length
                    · simp [hq] at hb
                    · simp only [hq, cond_true] at hb
                      simp only [Bool.and_eq_true] at hq
                      rw [ih _ _ hb, splice_length _ _ _ (Nat.le_of_ble_eq_true hq.2)]
                  · cases hb
              intro hh
              rw [this _ _ _ hh, repeatA_length]
            have hcl := hlen hcs
            have hC'l : C'.size = len * zs.length := by have := k2.length; simp at this; omega
            refine ⟨.slice (some ⟨w.heap.size, 0, none⟩) len len, { w with heap := w.heap.push (.cells C' el) }, .cells C' el, C'.size, .inl (run_value ?_), .refl _, ORel.row k2 hall, fun E' p hp' => ?_⟩
            · have hbig : ¬ (len * zs.length > 2 ^ 24) := by omega
              simp only [Instr.buildSlice, Sem.run_bind, run_underlying hu, Result.andThen_ok, run_sizeA w hsz, hbig, if_false]
              by_cases h0 : len * zs.length = 0
              · have hl0 : len = 0 := by
                  rcases Nat.mul_eq_zero.1 h0 with h1 | h1
                  · exact h1
                  · omega
                subst hl0
                simp only [h0, if_true, Sem.run_pure, Result.andThen_ok]
                have e0 : ∀ f : Nat → Value, Array.map f (Array.range 0) = #[] := fun f => by simp
                have hC00 : C0 = #[] := by simp [C0]
                rw [hC00] at k1
                simp only [e0, k1, Sem.run_bind, run_newRow, Result.andThen_ok, Sem.run_pure]
              · simp only [h0, if_false, Sem.run_bind, run_zero w hi hz', Result.andThen_ok, Sem.run_pure]
                have : Instr.fill (fun i => some (i * zs.length, zs.length)) (Array.map (fun x => zv.cells[x % zv.cells.size]!) (Array.range (len * zs.length))) ps.toList = some C' := k1
                simp only [this, Sem.run_bind, run_newRow, Result.andThen_ok, Sem.run_pure]
            · simp only [AK.av, VRel]
              exact ⟨_, _, _, len, hp', by simp, Nat.le_refl _, by rw [hC'l]; omega, by simp⟩
          · cases e
      · cases e
    · cases e
  · cases e

theorem two {E : Env} {T : PM AV} {n : Nat} {a : Act} (tr : TRel E n T a.tmps) {xs : List Operand} {as : List AV} (h : evAs T xs = some as) : VRelL E as (xs.map a.eval) := evAs_rel tr h

theorem builtin_ok {E : Env} {h : AH} {w : World} {b : Builtin} {ts : Array TypeId} {ty : TypeId} {cs : Array Bool} {args : List AV} {us : Array Value} {r : ORes} (hr : HRel E h w) (hx : VRelL E args us.toList) (e : builtinA P h b ts args = some r) :
    ResOK E h w ((builtin b ts ty cs us).run P w) r := by
  have one : ∀ {x : AV}, args = [x] → ∃ u, us = #[u] ∧ VRel E x u := by
    intro x hx1
    subst hx1
    simp only [VRelL] at hx
    obtain ⟨u, vs, h1, h2, rfl⟩ := hx
    exact ⟨u, Array.ext' h1, h2⟩
  have pair : ∀ {x y : AV}, args = [x, y] → ∃ u v, us = #[u, v] ∧ VRel E x u ∧ VRel E y v := by
    intro x y hx1
    subst hx1
    simp only [VRelL] at hx
    obtain ⟨u, vs, h1, h2, v, vs', rfl, h3, rfl⟩ := hx
    exact ⟨u, v, Array.ext' h1, h2, h3⟩
  unfold builtinA at e
  split at e
  · rename_i t ht
    split at e
    · obtain ⟨u, rfl, h1⟩ := one rfl
      exact lenA_ok hr h1 e ht
    · cases e
  · rename_i t ht
    split at e
    · obtain ⟨u, rfl, h1⟩ := one rfl
      exact capA_ok h1 e ht
    · cases e
  · rename_i t ht
    split at e
    · rename_i xt hxt
      obtain ⟨u, v, rfl, h1, h2⟩ := pair rfl
      exact appendA_ok hr h1 h2 e ht hxt
    · cases e
  · rename_i t ht
    split at e
    · obtain ⟨u, v, rfl, h1, h2⟩ := pair rfl
      exact copyA_ok hr h1 h2 e ht
    · cases e
  · rename_i t ht
    split at e
    · obtain ⟨u, v, rfl, h1, h2⟩ := pair rfl
      exact deleteA_ok hr h1 h2 e ht rfl
    · cases e
  · rename_i t ht
    split at e
    · obtain ⟨u, rfl, h1⟩ := one rfl
      exact clearA_ok hr h1 e ht
    · cases e
  · exact minA_ok hx e
  · exact maxA_ok hx e
  · cases e

theorem bind1_ok {a : Option AV} {f : AV → Option ORes} {r : ORes} (e : bind1 a f = some r) : ∃ x, a = some x ∧ f x = some r := by
  unfold bind1 at e; split at e <;> first | exact ⟨_, rfl, e⟩ | cases e
theorem bind2_ok {a b : Option AV} {f : AV → AV → Option ORes} {r : ORes} (e : bind2 a b f = some r) : ∃ x y, a = some x ∧ b = some y ∧ f x y = some r := by
  unfold bind2 at e; split at e <;> first | exact ⟨_, _, rfl, rfl, e⟩ | cases e
theorem bind3_ok {a b c : Option AV} {f : AV → AV → AV → Option ORes} {r : ORes} (e : bind3 a b c f = some r) : ∃ x y z, a = some x ∧ b = some y ∧ c = some z ∧ f x y z = some r := by
  unfold bind3 at e; split at e <;> first | exact ⟨_, _, _, rfl, rfl, rfl, e⟩ | cases e
theorem valO_ok {a : Option AV} {r : ORes} (e : valO a = some r) : ∃ v, a = some v ∧ r = .val v := by
  unfold valO at e; split at e <;> simp at e
  exact ⟨_, rfl, e.symm⟩

set_option maxHeartbeats 1000000 in
/-- **Each operation that calls nothing.** -/
theorem opA_ok {E : Env} {n : Nat} {T : PM AV} {h : AH} {w : World} {a : Act} {o : Oper} {r : ORes} (tr : TRel E n T a.tmps) (hr : HRel E h w) (e : opA P o T h = some r) :
    ResOK E h w ((execOp a.eval o).run P w) r := by
  have ev := fun {x : Operand} {v : AV} (hx : evA T x = some v) => evA_rel (E := E) hx tr
  obtain ⟨dst, op, type, pos, after, guard⟩ := o
  unfold opA at e
  cases op <;> simp only [opF] at e <;> try (simp [oNone] at e; done)
  case move x =>
    obtain ⟨v, h1, rfl⟩ := valO_ok e
    exact ⟨a.eval x, w, .inl rfl, ev h1, .refl w⟩
  case assign x =>
    obtain ⟨v, h1, rfl⟩ := valO_ok e
    exact ⟨a.eval x, w, .inl rfl, ev h1, .refl w⟩
  case pick c x y =>
    simp only [oPick, pickO] at e
    split at e
    · rename_i hc
      obtain ⟨v, h1, rfl⟩ := valO_ok e
      have := ev hc
      simp only [VRel] at this
      exact ⟨a.eval x, w, .inl (by simp [execOp, this, asBool]), ev h1, .refl w⟩
    · rename_i hc
      obtain ⟨v, h1, rfl⟩ := valO_ok e
      have := ev hc
      simp only [VRel] at this
      exact ⟨a.eval y, w, .inl (by simp [execOp, this, asBool]), ev h1, .refl w⟩
    · cases e
  case alloc t =>
    obtain ⟨z, hz, h1⟩ := bind1_ok e
    obtain ⟨i, zv, hi, hz', hrel⟩ := zeroA_ok hz
    simp only [execOp]
    exact boxA_ok (hrel E) h1 (run_alloc w hi hz')
  case box t x =>
    obtain ⟨z, hz, h1⟩ := bind1_ok e
    simp only [execOp]
    exact boxA_ok (ev hz) h1 (run_box w t _)
  case build t ps =>
    simp only [oBuild] at e
    split at e
    · rename_i as has
      have := evParts_ok tr has
      simp only [execOp]
      exact buildA_ok (ps := ps.map fun (i, x) => (i, a.eval x)) (by simpa using this) e
    · cases e
  case buildSlice t len ps =>
    simp only [oBuildSlice] at e
    split at e
    · rename_i as has
      have := evParts_ok tr has
      have h0 : PartsRel E as (ps.map fun (i, x) => (i, a.eval x)).toList := by simpa using this
      have h2 := buildSliceA_ok (P := P) (h := h) (w := w) h0 e
      exact h2
    · cases e
  case insert t m k v =>
    obtain ⟨x, y, z, h1, h2, h3, h4⟩ := bind3_ok e
    simp only [execOp]
    exact updateA_ok hr (ev h1) (ev h2) (ev h3) h4
  case load t x =>
    obtain ⟨z, hz, h1⟩ := bind1_ok e
    simp only [execOp]
    exact loadA_ok hr (ev hz) h1
  case store t x y =>
    obtain ⟨z, z', hz, hz', h1⟩ := bind2_ok e
    simp only [execOp]
    exact storeA_ok hr (ev hz) (ev hz') h1
  case nilCheck x =>
    obtain ⟨z, hz, h1⟩ := bind1_ok e
    exact nilCheckA_ok (x := x) (ev hz) rfl h1
  case binOp op t x y t' =>
    obtain ⟨z, z', hz, hz', h1⟩ := bind2_ok e
    simp only [execOp]
    exact binA_ok (p := x) (q := y) (ev hz) (ev hz') h1
  case unOp op t x =>
    obtain ⟨z, hz, h1⟩ := bind1_ok e
    simp only [execOp]
    exact unA_ok (ev hz) h1
  case convert s d x =>
    obtain ⟨z, hz, h1⟩ := bind1_ok e
    simp only [execOp]
    exact convA_ok hr (ev hz) h1
  case makeInterface t x =>
    obtain ⟨z, hz, h1⟩ := bind1_ok e
    simp only [execOp]
    exact mkIfaceA_ok (ev hz) h1
  case makeFunc fn x y =>
    simp only [execOp]
    exact makeFuncA_ok tr e
  case makeMap t res =>
    simp only [execOp]
    exact makeMapA_ok e
  case makeSlice t l c =>
    obtain ⟨z, z', hz, hz', h1⟩ := bind2_ok e
    simp only [execOp]
    exact makeSliceA_ok (ev hz) (ev hz') h1
  case slice t x lo hi mx =>
    obtain ⟨z, hz, h1⟩ := bind1_ok e
    simp only [execOp]
    exact sliceA_ok hr tr (ev hz) h1
  case fieldAddr t x f =>
    obtain ⟨z, hz, h1⟩ := bind1_ok e
    simp only [execOp]
    exact fieldAddrA_ok (ev hz) h1
  case field t x f =>
    obtain ⟨z, hz, h1⟩ := bind1_ok e
    simp only [execOp]
    exact fieldA_ok (ev hz) h1
  case indexAddr t x i =>
    obtain ⟨z, z', hz, hz', h1⟩ := bind2_ok e
    simp only [execOp]
    exact indexAddrA_ok (ev hz) (ev hz') h1
  case index t x i =>
    obtain ⟨z, z', hz, hz', h1⟩ := bind2_ok e
    simp only [execOp]
    exact indexA_ok (ev hz) (ev hz') h1
  case lookup t x i ok =>
    obtain ⟨z, z', hz, hz', h1⟩ := bind2_ok e
    simp only [execOp]
    exact lookupA_ok hr (ev hz) (ev hz') h1
  case mapUpdate t m k v =>
    obtain ⟨x, y, z, h1, h2, h3, h4⟩ := bind3_ok e
    simp only [execOp]
    exact updateA_ok hr (ev h1) (ev h2) (ev h3) h4
  case mapEntry t m k =>
    obtain ⟨z, z', hz, hz', h1⟩ := bind2_ok e
    simp only [execOp]
    exact mapEntryA_ok hr (ev hz) (ev hz') h1
  case entryStore t m k v =>
    obtain ⟨x, y, z, h1, h2, h3, h4⟩ := bind3_ok e
    simp only [execOp]
    exact entryStoreA_ok hr (ev h1) (ev h2) (ev h3) h4
  case range t x =>
    obtain ⟨z, hz, h1⟩ := bind1_ok e
    simp only [execOp]
    exact rangeA_ok hr (ev hz) h1
  case next it s =>
    simp only [oNext] at e
    cases s
    · simp only [cond_false] at e
      obtain ⟨z, hz, h1⟩ := bind1_ok e
      simp only [execOp]
      exact nextA_ok hr (ev hz) h1
    · simp at e
  case entry it =>
    obtain ⟨z, hz, h1⟩ := bind1_ok e
    simp only [execOp]
    exact entryA_ok hr (ev hz) h1
  case typeAssert x t t' ok =>
    obtain ⟨z, hz, h1⟩ := bind1_ok e
    simp only [execOp]
    exact assertA_ok (ev hz) h1
  case extract x i =>
    obtain ⟨z, hz, h1⟩ := bind1_ok e
    simp only [execOp]
    exact extractA_ok (ev hz) h1
  case call c =>
    obtain ⟨callee, args, argTypes⟩ := c
    simp only [oCall, callF] at e
    cases callee with
    | value f => simp [oNone] at e
    | invoke f m => simp [oNone] at e
    | builtin b =>
      simp only [oBuiltin] at e
      split at e
      · rename_i as has
        have hx := evAs_rel tr has
        have h1 := builtin_ok (P := P) (w := w) (ty := type) (cs := args.map fun | .const _ => true | _ => false) (us := args.map a.eval) hr (by simpa using hx) e
        have h2 : (execOp a.eval { dst, op := .call { callee := .builtin b, args, argTypes }, type, pos, after, guard }).run P w = (builtin b argTypes type (args.map fun | .const _ => true | _ => false) (args.map a.eval)).run P w := by
          simp only [execOp, resolve, Sem.run_bind, Sem.run_pure, Result.andThen_ok, invoke]
          rfl
        rw [h2]
        exact h1
      · cases e
end
end Go.Ax
