/- An abstract executor, twenty-second part: what the run of a drawn region in the order of the text has looked at. -/
import Derived.Test.YtapkhldfbdcblaaGreatDoorAxSnd6
set_option linter.unusedSectionVars false
set_option linter.unnecessarySimpa false
set_option linter.unusedSimpArgs false
set_option linter.unusedVariables false
namespace Go.Ax
noncomputable section
variable {P : Program}

theorem beqL_eq : ∀ {a b : List AV}, beqL a b = true → a = b
  | [], [], _ => rfl
  | [], _ :: _, h => by simp [beqL] at h
  | x :: r, [], h => by cases x <;> simp [beqL] at h
  | x :: r, y :: s, h => by
    cases x <;> cases y <;> simp only [beqL, Bool.and_eq_true, decide_eq_true_eq, beq_iff_eq, Bool.false_eq_true] at h
    case int.int => obtain ⟨⟨rfl, h1⟩, h2⟩ := h; rw [eqI_eq, beq_iff_eq] at h1; rw [h1, beqL_eq h2]
    case str.str => obtain ⟨⟨h0, h1⟩, h2⟩ := h; rw [Nat.eq_of_beq_eq_true h0, Nat.eq_of_beq_eq_true h1, beqL_eq h2]
    case bool.bool => obtain ⟨rfl, h2⟩ := h; rw [beqL_eq h2]
    case ptr.ptr => obtain ⟨⟨rfl, h1⟩, h2⟩ := h; rw [Nat.eq_of_beq_eq_true h1, beqL_eq h2]
    case nilp.nilp => rw [beqL_eq h]
    case nils.nils => rw [beqL_eq h]
    case nilm.nilm => rw [beqL_eq h]
    case map.map => obtain ⟨rfl, h2⟩ := h; rw [beqL_eq h2]
    case slice.slice => obtain ⟨⟨⟨⟨rfl, h0⟩, h1⟩, rfl, h3⟩, h2⟩ := h; rw [Nat.eq_of_beq_eq_true h0, Nat.eq_of_beq_eq_true h1, Nat.eq_of_beq_eq_true h3, beqL_eq h2]
theorem beqV_eq {a b : AV} (h : beqV a b = true) : a = b := by
  unfold beqV at h
  split at h
  · rw [beqL_eq h]
  · rw [beqL_eq h]
  · have := beqL_eq h; simpa using this
theorem sameQ_ok {o : Oper} {T : PM AV} {v : AV} {h : AH} (e : sameQ P o T v h = true) : opA P o T h = some (.val v) := by
  unfold sameQ at e
  split at e
  · rename_i u hu; rw [hu, beqV_eq e]
  · cases e
theorem isNew_ok {o : Oper} {T : PM AV} {ob : AObj} {kd : AK} (hn : isNew o = true) (e : opA P o T ⟨.nil, .one⟩ = some (.alloc ob kd)) : ∀ h, opA P o T h = some (.alloc ob kd) := by
  intro h
  obtain ⟨dst, op, type, pos, after, guard⟩ := o
  unfold opA at *
  cases op <;> simp only [isNew, Bool.false_eq_true] at hn <;> simp only [opF] at * <;> try exact e
  rename_i s d x
  simp only [oConv] at *
  cases hx : evA T x with
  | none => rw [hx] at e; cases e
  | some v =>
    rw [hx] at e
    simp only [bind1] at *
    unfold convA at *
    cases v <;> try exact e
    simp only [cellsAt, PM.get_nil] at e
    split at e
    · rename_i q; cases q
    · cases e

theorem frontK_ok {bl : Nat} {h : AH} : ∀ {qs : List (Nat × Oper × PM AV × AV)} {k : List (Nat × Oper × PM AV × AV) → Bool}, frontK P bl h qs k = true →
    ∃ qs', k qs' = true ∧ ∀ x ∈ qs, Nat.testBit bl x.1 = false → x ∈ qs' ∧ opA P x.2.1 x.2.2.1 h = some (.val x.2.2.2)
  | [], k, e => ⟨[], e, fun x hx => by cases hx⟩
  | (j, o, T, v) :: r, k, e => by
    simp only [frontK] at e
    cases hb : Nat.testBit bl j with
    | true =>
      rw [hb] at e
      obtain ⟨qs', e1, h1⟩ := frontK_ok e
      refine ⟨qs', e1, fun x hx ht => ?_⟩
      rcases List.mem_cons.1 hx with rfl | hx
      · rw [hb] at ht; cases ht
      · exact h1 x hx ht
    | false =>
      rw [hb] at e
      simp only [cond_false, Bool.and_eq_true] at e
      obtain ⟨qs', e1, h1⟩ := frontK_ok e.2
      refine ⟨_, e1, fun x hx ht => ?_⟩
      rcases List.mem_cons.1 hx with rfl | hx
      · exact ⟨List.mem_cons_self .., sameQ_ok e.1⟩
      · exact ⟨List.mem_cons_of_mem _ (h1 x hx ht).1, (h1 x hx ht).2⟩

theorem AH.get_set {h : AH} {b p : Pos} {o : AObj} : (h.set b o).m.get p = if b = p then some o else h.m.get p := by simp only [AH.set, PM.get_put]

theorem mergeK_ok {bl : Nat} : ∀ {ps : List (Nat × Pos × AObj)} {h : AH} {k : AH → List (Nat × Pos × AObj) → Bool}, mergeK bl h ps k = true →
    ∃ h' ps', k h' ps' = true ∧ h'.nx = h.nx ∧ (∀ x, x ∈ ps' ↔ x ∈ ps ∧ Nat.testBit bl x.1 = false) ∧ (∀ p ob, h'.m.get p = some ob → h.m.get p = some ob ∨ ∃ j, Nat.testBit bl j = true ∧ (j, p, ob) ∈ ps) ∧
      (∀ p, (h.m.get p).isSome = true → (h'.m.get p).isSome = true) ∧ (∀ j p ob, Nat.testBit bl j = true → (j, p, ob) ∈ ps → (h'.m.get p).isSome = true)
  | [], h, k, e => ⟨h, [], e, rfl, fun x => by simp, fun p ob hp => .inl hp, fun p hp => hp, fun j p ob _ hm => by cases hm⟩
  | (j, p, o) :: r, h, k, e => by
    simp only [mergeK] at e
    cases hb : Nat.testBit bl j with
    | true =>
      rw [hb] at e
      simp only [cond_true, setK_eq] at e
      obtain ⟨h', ps', e1, h1, h2, h3, h4, h5⟩ := mergeK_ok e
      refine ⟨h'.set p o, ps', e1, h1, fun x => ?_, fun q ob hq => ?_, fun q hq => ?_, fun j' q ob ht hm => ?_⟩
      · rw [h2 x, List.mem_cons]
        constructor
        · intro ⟨a, b⟩; exact ⟨.inr a, b⟩
        · rintro ⟨rfl | a, b⟩
          · rw [hb] at b; cases b
          · exact ⟨a, b⟩
      · rw [AH.get_set] at hq
        by_cases e2 : p = q
        · subst e2; simp at hq; subst hq; exact .inr ⟨j, hb, List.mem_cons_self ..⟩
        · rw [if_neg e2] at hq
          rcases h3 q ob hq with a | ⟨j', a, b⟩
          · exact .inl a
          · exact .inr ⟨j', a, List.mem_cons_of_mem _ b⟩
      · rw [AH.get_set]; by_cases e2 : p = q
        · rw [if_pos e2]; rfl
        · rw [if_neg e2]; exact h4 q hq
      · rw [AH.get_set]; by_cases e2 : p = q
        · rw [if_pos e2]; rfl
        · rw [if_neg e2]
          rcases List.mem_cons.1 hm with a | a
          · injection a with _ a; injection a with a _; exact absurd a.symm e2
          · exact h5 j' q ob ht a
    | false =>
      rw [hb] at e
      simp only [cond_false] at e
      obtain ⟨h', ps', e1, h1, h2, h3, h4, h5⟩ := mergeK_ok e
      refine ⟨h', (j, p, o) :: ps', e1, h1, fun x => ?_, fun q ob hq => ?_, h4, fun j' q ob ht hm => ?_⟩
      · rw [List.mem_cons, h2 x, List.mem_cons]
        constructor
        · rintro (rfl | ⟨a, b⟩)
          · exact ⟨.inl rfl, hb⟩
          · exact ⟨.inr a, b⟩
        · rintro ⟨rfl | a, b⟩
          · exact .inl rfl
          · exact .inr ⟨a, b⟩
      · rcases h3 q ob hq with a | ⟨j', a, b⟩
        · exact .inl a
        · exact .inr ⟨j', a, List.mem_cons_of_mem _ b⟩
      · rcases List.mem_cons.1 hm with a | a
        · injection a with a _; subst a; rw [hb] at ht; cases ht
        · exact h5 j' q ob ht a
theorem mergeAllK_ok : ∀ {ps : List (Nat × Pos × AObj)} {h : AH} {k : AH → Bool}, mergeAllK h ps k = true →
    ∃ h', k h' = true ∧ h'.nx = h.nx ∧ (∀ p ob, h'.m.get p = some ob → h.m.get p = some ob ∨ ∃ j, (j, p, ob) ∈ ps)
  | [], h, k, e => ⟨h, e, rfl, fun p ob hp => .inl hp⟩
  | (j, p, o) :: r, h, k, e => by
    simp only [mergeAllK, setK_eq] at e
    obtain ⟨h', e1, h1, h3⟩ := mergeAllK_ok e
    refine ⟨h'.set p o, e1, h1, fun q ob hq => ?_⟩
    rw [AH.get_set] at hq
    by_cases e2 : p = q
    · subst e2; simp at hq; subst hq; exact .inr ⟨j, List.mem_cons_self ..⟩
    · rw [if_neg e2] at hq
      rcases h3 q ob hq with a | ⟨j', b⟩
      · exact .inl a
      · exact .inr ⟨j', List.mem_cons_of_mem _ b⟩
theorem backOK_ok {b : Nat} {o : Oper} {T : PM AV} {v : AV} : ∀ {ls : List (Nat × AH)}, ls.Pairwise (fun x y => y.1 < x.1) → backOK P b o T v ls = true →
    ∀ l h, (l, h) ∈ ls → (∀ l' h', (l', h') ∈ ls → l ≤ l' → Nat.testBit b l' = false) → opA P o T h = some (.val v)
  | [], _, _, l, h, hm, _ => by cases hm
  | (l₀, h₀) :: r, hp, e, l, h, hm, hw => by
    simp only [backOK] at e
    have hpr := List.pairwise_cons.1 hp
    have hle : l ≤ l₀ := by
      rcases List.mem_cons.1 hm with a | a
      · injection a with a _; omega
      · have := hpr.1 _ a; simp at this; omega
    rw [hw l₀ h₀ (List.mem_cons_self ..) hle] at e
    simp only [cond_false, Bool.and_eq_true] at e
    rcases List.mem_cons.1 hm with a | a
    · injection a with _ a; subst a; exact sameQ_ok e.1
    · exact backOK_ok hpr.2 e.2 l h a fun l' h' hm' hl => hw l' h' (List.mem_cons_of_mem _ hm') hl
end
end Go.Ax
