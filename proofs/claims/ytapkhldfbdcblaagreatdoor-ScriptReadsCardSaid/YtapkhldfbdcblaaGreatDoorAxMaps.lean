/- An abstract executor, ninth part: maps. -/
import Derived.Test.YtapkhldfbdcblaaGreatDoorAxOps4
set_option linter.unusedSectionVars false
set_option linter.unnecessarySimpa false
set_option linter.unusedSimpArgs false
set_option linter.unusedVariables false
namespace Go.Ax
noncomputable section
variable {P : Program}

def kEqL : List AV → List AV → Option Bool
  | [], [] => some true
  | .int k a :: cs, .int k' b :: ds => bif decide (k = k') then (bif eqI a b then kEqL cs ds else some false) else none
  | _, _ => none
def kEq : AV → AV → Option Bool
  | .int k a, .int k' b => bif decide (k = k') then some (eqI a b) else none
  | .str la a, .str lb b => some (strEq la a lb b)
  | .bool a, .bool b => some (a == b)
  | .agg cs, .agg ds => kEqL cs ds
  | _, _ => none

/-- A key fits its type. -/
def keyFits (P : Program) (kt : TypeId) : AV → Bool
  | .int _ _ => match P.underlying kt with | some (.int _) => true | _ => false
  | .str _ _ => match P.underlying kt with | some .string => true | _ => false
  | .bool _ => match P.underlying kt with | some .bool => true | _ => false
  | .agg cs => match P.underlying kt with
    | some (.array n el) => (match P.underlying el with | some (.int _) => true | _ => false) && (match sizeA P el with | some 1 => true | _ => false) && Nat.beq cs.length n
    | _ => false
  | _ => false

theorem kEqL_eq {E : Env} : ∀ {cs ds : List AV} {us vs : List Value}, kEqL cs ds = some true → VRelL E cs us → VRelL E ds vs → us = vs ∧ ∀ u ∈ us, ∃ k n, u = .int k n
  | [], [], us, vs, _, r, s => by simp only [VRelL] at r s; subst r s; exact ⟨rfl, by simp⟩
  | [], _ :: _, _, _, e, _, _ => by simp [kEqL] at e
  | c :: cs, ds, us, vs, e, r, s => by
    unfold kEqL at e
    split at e
    · rename_i h1; cases h1
    · rename_i k a cs' k' b ds' h1
      simp only [List.cons.injEq] at h1
      obtain ⟨rfl, rfl⟩ := h1
      cases hk : decide (k = k')
      · simp [hk] at e
      · simp only [hk, cond_true] at e
        have hk' : k = k' := by simpa using hk
        subst hk'
        cases hb : eqI a b
        · simp [hb] at e
        · simp only [hb, cond_true] at e
          rw [eqI_eq] at hb
          have hab : a = b := by simpa using hb
          subst hab
          simp only [VRelL, VRel] at r s
          obtain ⟨_, us', rfl, rfl, r'⟩ := r
          obtain ⟨_, vs', rfl, rfl, s'⟩ := s
          obtain ⟨h3, h4⟩ := kEqL_eq e r' s'
          subst h3
          exact ⟨rfl, fun u hu => by
            rcases List.mem_cons.1 hu with rfl | hu
            · exact ⟨k, a, rfl⟩
            · exact h4 u hu⟩
    · cases e

theorem sameBits_ints : ∀ (us : List Value) (n : Nat), (∀ u ∈ us, ∃ k n, u = .int k n) → ((us.zip us).all fun (x, y) => Instr.sameBits n x y) = true
  | [], _, _ => rfl
  | u :: us, n, h => by
    obtain ⟨k, m, rfl⟩ := h u (by simp)
    simp only [List.zip_cons_cons, List.all_cons, Bool.and_eq_true]
    refine ⟨?_, sameBits_ints us n fun v hv => h v (by simp [hv])⟩
    cases n <;> simp [Instr.sameBits]

theorem kEq_true {E : Env} {x y : AV} {u v : Value} (e : kEq x y = some true) (hx : VRel E x u) (hy : VRel E y v) : u = v ∧ Instr.sameBits 10000 u u = true := by
  unfold kEq at e
  split at e
  · rename_i k a k' b
    cases hk : decide (k = k') <;> simp [hk] at e
    have hk' : k = k' := by simpa using hk
    subst hk'
    rw [eqI_eq] at e
    have hab : a = b := by simpa using e
    subst hab
    simp only [VRel] at hx hy
    subst hx hy
    exact ⟨rfl, by simp [Instr.sameBits]⟩
  · simp at e
    have := (strEq_iff _ _ _ _).1 e
    simp only [VRel] at hx hy
    subst hx hy
    refine ⟨?_, ?_⟩
    · unfold unpack
      rw [this]
    · show (unpack _ _ == unpack _ _) = true
      rw [beq_toListBytes]
      simp
  · rename_i a b
    simp at e
    subst e
    simp only [VRel] at hx hy
    subst hx hy
    exact ⟨rfl, by simp [Instr.sameBits]⟩
  · simp only [VRel] at hx hy
    obtain ⟨us, rfl, hus⟩ := hx
    obtain ⟨vs, rfl, hvs⟩ := hy
    obtain ⟨h1, h2⟩ := kEqL_eq e hus hvs
    have : us = vs := Array.ext' h1
    subst this
    refine ⟨rfl, ?_⟩
    have := sameBits_ints us.toList 9999 h2
    simp only [Instr.sameBits, beq_self_eq_true, Bool.true_and]
    exact this
  · cases e

theorem eqItems_ok {E : Env} {w : World} {el : TypeId} {k0 : IntKind} (hu : P.underlying el = some (.int k0)) (hs : sizeA P el = some 1) (d : Nat) {us vs : Array Value} :
    ∀ (m : Nat) (j : Nat) (cs ds : List AV) (b : Bool), kEqL cs ds = some b → cs.length = m → VRelL E cs (us.toList.drop j) → VRelL E ds (vs.toList.drop j) →
      (Op.eqItems (d + 1) el 1 us vs (List.range' j m)).run P w = .ok b w := by
  intro m
  induction m with
  | zero =>
    intro j cs ds b e hl r s
    have : cs = [] := by simpa using hl
    subst this
    cases ds with
    | nil => simp [kEqL] at e; subst e; simp [Op.eqItems]
    | cons d ds => simp [kEqL] at e
  | succ m ih =>
    intro j cs ds b e hl r s
    unfold kEqL at e
    split at e
    · simp at hl
    · rename_i k a cs' k' b' ds'
      simp only [VRelL, VRel] at r s
      obtain ⟨_, us', hus, rfl, r'⟩ := r
      obtain ⟨_, vs', hvs, rfl, s'⟩ := s
      cases hk : decide (k = k')
      · simp [hk] at e
      · simp only [hk, cond_true] at e
        have hk' : k = k' := by simpa using hk
        subst hk'
        have g1 : us[j]? = some (.int k a) := by
          rw [← Array.getElem?_toList]
          have := congrArg (·[0]?) hus
          simpa using this
        have g2 : vs[j]? = some (.int k b') := by
          rw [← Array.getElem?_toList]
          have := congrArg (·[0]?) hvs
          simpa using this
        have hag : aggOf P el = some false := by simp [aggOf, hu]
        have p1 : (part el us (j * 1)).run P w = .ok (.int k a) w := by simp [part, Sem.run_bind, run_aggOf w hag, g1]
        have p2 : (part el vs (j * 1)).run P w = .ok (.int k b') w := by simp [part, Sem.run_bind, run_aggOf w hag, g2]
        simp only [List.range'_succ, Op.eqItems, Sem.run_bind, p1, p2, Result.andThen_ok, run_equalIn_int w d el k k0 a b' hu]
        rw [eqI_eq] at e
        cases hb : (a == b')
        · simp [hb] at e; subst e; simp
        · simp only [hb, cond_true] at e
          simp only [Bool.not_true, Bool.false_eq_true, if_false]
          have d1 : us.toList.drop (j + 1) = us' := by
            have := congrArg (List.drop 1) hus
            simpa [List.drop_drop, Nat.add_comm] using this
          have d2 : vs.toList.drop (j + 1) = vs' := by
            have := congrArg (List.drop 1) hvs
            simpa [List.drop_drop, Nat.add_comm] using this
          exact ih (j + 1) cs' ds' b e (by simpa using hl) (by rw [d1]; exact r') (by rw [d2]; exact s')
    · cases e

/-- Two keys held against each other by the model. -/
theorem keyEqual_ok {E : Env} {w : World} {kt : TypeId} {cs ds : List AV} {us vs : Array Value} {b : Bool} (hf : keyFits P kt (.agg cs) = true) (e : kEqL cs ds = some b) (hx : VRelL E cs us.toList) (hy : VRelL E ds vs.toList) :
    (Op.equal kt (.agg us) (.agg vs)).run P w = .ok b w := by
  simp only [keyFits] at hf
  split at hf
  · rename_i n el hu
    simp only [Bool.and_eq_true, Nat.beq_eq] at hf
    obtain ⟨⟨h1, h2⟩, h3⟩ := hf
    split at h1
    · rename_i k0 hel
      split at h2
      · rename_i hs
        have hi : ∃ i, P.info? el = some i ∧ i.size = 1 := by
          unfold sizeA at hs
          split at hs
          · rename_i i hi; simp at hs; exact ⟨i, hi, hs⟩
          · cases hs
        obtain ⟨i, hi, hsz⟩ := hi
        have h4 := run_equalIn_array (P := P) w 9999 us vs hu hi
        have h5 : P.cellsOf el = 1 := by simp [Program.cellsOf, hi, hsz]
        rw [h5, List.range_eq_range', eqItems_ok hel hs 9998 n 0 cs ds b e h3 (by simpa using hx) (by simpa using hy)] at h4
        exact h4
      · cases h2
    · cases h1
  · cases hf

theorem run_checkKey_ints (em : Bool) (w : World) {el : TypeId} {k0 : IntKind} (hu : P.underlying el = some (.int k0)) {n : Nat} {v : Value} : (Instr.checkKey em (n + 1) el v).run P w = .ok () w := by
  simp only [Instr.checkKey, Sem.run_bind, run_underlying hu, Result.andThen_ok]
  cases v <;> rfl

theorem run_checkKey_ints' (em : Bool) (w : World) {el : TypeId} {k0 : IntKind} (hu : P.underlying el = some (.int k0)) {m : Nat} (hm : 0 < m) {v : Value} : (Instr.checkKey em m el v).run P w = .ok () w := by
  obtain ⟨n, rfl⟩ : ∃ n, m = n + 1 := ⟨m - 1, by omega⟩
  exact run_checkKey_ints em w hu

theorem checkKey_at {E : Env} {w : World} {kt : TypeId} {x : AV} {u : Value} (em : Bool) (m : Nat) (hm : 0 < m) (hf : keyFits P kt x = true) (hx : VRel E x u) : (Instr.checkKey em (m + 1) kt u).run P w = .ok () w := by
  unfold keyFits at hf
  split at hf
  · simp only [VRel] at hx; subst hx
    split at hf
    · rename_i hu; simp only [Instr.checkKey, Sem.run_bind, run_underlying hu, Result.andThen_ok, Sem.run_pure]
    · cases hf
  · simp only [VRel] at hx; subst hx
    split at hf
    · rename_i hu; simp only [Instr.checkKey, Sem.run_bind, run_underlying hu, Result.andThen_ok, Sem.run_pure]
    · cases hf
  · simp only [VRel] at hx; subst hx
    split at hf
    · rename_i hu; simp only [Instr.checkKey, Sem.run_bind, run_underlying hu, Result.andThen_ok, Sem.run_pure]
    · cases hf
  · rename_i cs
    simp only [VRel] at hx
    obtain ⟨us, rfl, hus⟩ := hx
    split at hf
    · rename_i n el hu
      simp only [Bool.and_eq_true, Nat.beq_eq] at hf
      obtain ⟨⟨h1, h2⟩, h3⟩ := hf
      split at h1
      · rename_i k0 hel
        split at h2
        · rename_i hs
          have hl : us.size = n := by have := hus.length; simp at this; omega
          simp only [Instr.checkKey, Sem.run_bind, run_underlying hu, Result.andThen_ok]
          simp only [Std.Legacy.Range.forIn_eq_forIn_range', Std.Legacy.Range.size, Nat.sub_zero, Nat.add_one_sub_one, Nat.div_one]
          have key : ∀ (is : List Nat), (∀ j ∈ is, j < n) → (forIn is PUnit.unit (fun (i : Nat) (_ : PUnit) => do
              let __do_lift ← sizeOf el
              let __do_lift ← part el us (i * __do_lift)
              Instr.checkKey em m el __do_lift
              pure (ForInStep.yield PUnit.unit)) : Sem PUnit).run P w = .ok PUnit.unit w := by
            intro is
            induction is with
            | nil => intro _; simp
            | cons j is ih =>
              intro hj
              have hlt := hj j (by simp)
              obtain ⟨v, hv⟩ : ∃ v, us[j]? = some v := ⟨_, Array.getElem?_eq_getElem (by omega)⟩
              have hag : aggOf P el = some false := by simp [aggOf, hel]
              have p1 : (part el us (j * 1)).run P w = .ok v w := by simp [part, Sem.run_bind, run_aggOf w hag, hv]
              simp only [List.forIn_cons, Sem.run_bind, run_sizeA w hs, Result.andThen_ok, p1, run_checkKey_ints' em w hel hm, Sem.run_pure]
              exact ih fun k hk => hj k (by simp [hk])
          have hk := key (List.range' 0 n) (fun j hj => by simpa using (List.mem_range'_1.1 hj).2)
          simp at hk ⊢
          rw [hk]
          rfl
        · cases h2
      · cases h1
    · cases hf
  · cases hf

theorem checkKey_ok {E : Env} {w : World} {kt : TypeId} {x : AV} {u : Value} (em : Bool) (hf : keyFits P kt x = true) (hx : VRel E x u) : (Instr.checkKey em 10000 kt u).run P w = .ok () w := checkKey_at em 9999 (by decide) hf hx

def findA (key : AV) : List AEnt → Nat → Option (Option (Nat × AV))
  | [], _ => some none
  | (k, v, _) :: es, i => match kEq key k with
    | some true => some (some (i, v))
    | some false => findA key es (i + 1)
    | none => none

def FoundRel (E : Env) (key : Value) (es : List MapEntry) (i0 : Nat) : Option (Nat × AV) → Option (Nat × Value) → Prop
  | none, r => r = none
  | some (i, a), r => ∃ v, r = some (i, v) ∧ VRel E a v ∧ i0 ≤ i ∧ ∃ e, es[i - i0]? = some e ∧ e.key = key ∧ e.val = v

theorem findNow_ok {E : Env} {d : TypeDesc} {x : AV} {u : Value} (hx : VRel E x u) (hsame : ∀ (y : AV) (v : Value) (b : Bool), kEq x y = some b → VRel E y v → Instr.sameNow d u v = some b) :
    ∀ {es : List AEnt} {es' : List MapEntry} {i : Nat} {r : Option (Nat × AV)}, findA x es i = some r → MRel E es es' → ∃ r', Instr.findNow d u es' i = some r' ∧ FoundRel E u es' i r r'
  | [], es', i, r, e, m => by simp only [MRel] at m; subst m; simp [findA] at e; subst e; exact ⟨none, rfl, rfl⟩
  | (k, v, b) :: es, es', i, r, e, m => by
    simp only [MRel] at m
    obtain ⟨e0, es'', rfl, hk, hv, hb, hs⟩ := m
    simp only [findA] at e
    split at e
    · rename_i he
      simp at e; subst e
      have := hsame k e0.key true he hk
      refine ⟨some (i, e0.val), by simp [Instr.findNow, this], e0.val, rfl, hv, Nat.le_refl _, e0, by simp, (kEq_true he hx hk).1.symm, rfl⟩
    · rename_i he
      have := hsame k e0.key false he hk
      obtain ⟨r', h1, h2⟩ := findNow_ok hx hsame e hs
      refine ⟨r', by simp [Instr.findNow, this, h1], ?_⟩
      cases r with
      | none => exact h2
      | some p =>
        obtain ⟨v', q1, q2, q3, e1, q4, q5⟩ := h2
        refine ⟨v', q1, q2, by omega, e1, ?_, q5⟩
        rw [show p.1 - i = (p.1 - (i + 1)) + 1 by omega, List.getElem?_cons_succ]
        exact q4
    · cases e

theorem findAsking_ok {E : Env} {w : World} {kt : TypeId} {x : AV} {u : Value} (hx : VRel E x u) (hsame : ∀ (y : AV) (v : Value) (b : Bool), kEq x y = some b → VRel E y v → (Op.equal kt u v).run P w = .ok b w) :
    ∀ {es : List AEnt} {es' : List MapEntry} {i : Nat} {r : Option (Nat × AV)}, findA x es i = some r → MRel E es es' → ∃ r', (Instr.findAsking kt u es' i).run P w = .ok r' w ∧ FoundRel E u es' i r r'
  | [], es', i, r, e, m => by simp only [MRel] at m; subst m; simp [findA] at e; subst e; exact ⟨none, rfl, rfl⟩
  | (k, v, b) :: es, es', i, r, e, m => by
    simp only [MRel] at m
    obtain ⟨e0, es'', rfl, hk, hv, hb, hs⟩ := m
    simp only [findA] at e
    split at e
    · rename_i he
      simp at e; subst e
      have := hsame k e0.key true he hk
      refine ⟨some (i, e0.val), by simp [Instr.findAsking, Sem.run_bind, this], e0.val, rfl, hv, Nat.le_refl _, e0, by simp, (kEq_true he hx hk).1.symm, rfl⟩
    · rename_i he
      have := hsame k e0.key false he hk
      obtain ⟨r', h1, h2⟩ := findAsking_ok hx hsame e hs
      refine ⟨r', by simp [Instr.findAsking, Sem.run_bind, this, h1], ?_⟩
      cases r with
      | none => exact h2
      | some p =>
        obtain ⟨v', q1, q2, q3, e1, q4, q5⟩ := h2
        refine ⟨v', q1, q2, by omega, e1, ?_, q5⟩
        rw [show p.1 - i = (p.1 - (i + 1)) + 1 by omega, List.getElem?_cons_succ]
        exact q4
    · cases e

theorem findKey_ok {E : Env} {w : World} {kt : TypeId} {x : AV} {u : Value} {es : List AEnt} {es' : List MapEntry} {r : Option (Nat × AV)} (hf : keyFits P kt x = true) (hx : VRel E x u) (e : findA x es 0 = some r) (m : MRel E es es') :
    ∃ r', (Instr.findKey kt u es').run P w = .ok r' w ∧ FoundRel E u es' 0 r r' := by
  have scalar : ∀ d, P.underlying kt = some d → (∀ (y : AV) (v : Value) (b : Bool), kEq x y = some b → VRel E y v → Instr.sameNow d u v = some b) → ∃ r', (Instr.findKey kt u es').run P w = .ok r' w ∧ FoundRel E u es' 0 r r' := by
    intro d hd hs
    obtain ⟨r', h1, h2⟩ := findNow_ok hx hs e m
    exact ⟨r', by simp [Instr.findKey, Sem.run_bind, run_underlying hd, h1], h2⟩
  unfold keyFits at hf
  split at hf
  · split at hf
    · rename_i k a _ k0 hu
      refine scalar _ hu fun y v b he hy => ?_
      simp only [VRel] at hx; subst hx
      cases y <;> simp only [kEq, reduceCtorEq] at he
      rename_i k' b'
      cases hk : decide (k = k') <;> simp [hk] at he
      have hk' : k = k' := by simpa using hk
      subst hk'
      simp only [VRel] at hy; subst hy
      subst he
      simp [Instr.sameNow, eqI_eq]
    · cases hf
  · split at hf
    · rename_i la a _ hu
      refine scalar _ hu fun y v b he hy => ?_
      simp only [VRel] at hx; subst hx
      cases y <;> simp only [kEq, reduceCtorEq, Option.some.injEq] at he
      simp only [VRel] at hy; subst hy
      subst he
      simp only [Instr.sameNow, beq_toListBytes, beq_unpack]
    · cases hf
  · split at hf
    · rename_i a _ hu
      refine scalar _ hu fun y v b he hy => ?_
      simp only [VRel] at hx; subst hx
      cases y <;> simp only [kEq, reduceCtorEq, Option.some.injEq] at he
      simp only [VRel] at hy; subst hy
      subst he
      simp [Instr.sameNow]
    · cases hf
  · rename_i cs
    have hf' := hf
    simp only [VRel] at hx
    have hx' := hx
    obtain ⟨us, rfl, hus⟩ := hx
    split at hf
    · rename_i n el hu
      have hsame : ∀ (y : AV) (v : Value) (b : Bool), kEq (.agg cs) y = some b → VRel E y v → (Op.equal kt (.agg us) v).run P w = .ok b w := by
        intro y v b he hy
        cases y <;> simp only [kEq, reduceCtorEq] at he
        simp only [VRel] at hy
        obtain ⟨vs, rfl, hvs⟩ := hy
        exact keyEqual_ok (by simp only [keyFits, hu]; exact hf) he hus hvs
      obtain ⟨r', h1, h2⟩ := findAsking_ok (E := E) (x := .agg cs) (by simp only [VRel]; exact hx') hsame e m
      cases es with
      | nil =>
        simp only [MRel] at m; subst m
        simp [findA] at e; subst e
        exact ⟨none, by simp [Instr.findKey, Sem.run_bind, run_underlying hu, Instr.findNow], rfl⟩
      | cons e0 es =>
        obtain ⟨k, v, b⟩ := e0
        simp only [MRel] at m
        obtain ⟨e1, es'', rfl, hk, hv, hb, hs⟩ := m
        refine ⟨r', ?_, h2⟩
        simp only [Instr.findKey, Sem.run_bind, run_underlying hu, Result.andThen_ok, Instr.findNow, Instr.sameNow]
        exact h1
    · cases hf
  · cases hf
end
end Go.Ax
