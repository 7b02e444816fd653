/- An abstract executor, twenty-fifth part: a drawn region comes, in whatever order, to what its plan says. -/
import Derived.Test.YtapkhldfbdcblaaGreatDoorAxSnd9
set_option linter.unusedSectionVars false
set_option linter.unnecessarySimpa false
set_option linter.unusedSimpArgs false
set_option linter.unusedVariables false
namespace Go.Ax
noncomputable section
variable {P : Program}

/-! what stands ahead of what -/
theorem before_go (l : List Oper) : ∀ (acc : Array Nat),
    let r := l.foldl (fun acc (o : Oper) => acc.push (o.after.foldl (fun s e => if Region.binds .any e then s ||| 2 ^ e.on ||| acc.getD e.on 0 else s) 0)) acc
    r.size = acc.size + l.length ∧ (∀ j, j < acc.size → r[j]? = acc[j]?) ∧
      ∀ j i, acc.size ≤ j → Nat.testBit (r.getD j 0) i = true → ∃ o, l[j - acc.size]? = some o ∧ ∃ e ∈ o.after, Region.binds .any e = true ∧ (i = e.on ∨ (e.on < j ∧ Nat.testBit (r.getD e.on 0) i = true)) := by
  induction l with
  | nil =>
    intro acc
    refine ⟨rfl, fun j _ => rfl, fun j i hj ht => ?_⟩
    simp only [List.foldl_nil] at ht
    rw [Array.getD_eq_getD_getElem?, Array.getElem?_eq_none hj] at ht
    simp at ht
  | cons o l ih =>
    intro acc
    simp only [List.foldl_cons]
    generalize hx : (o.after.foldl (fun s e => if Region.binds .any e then s ||| 2 ^ e.on ||| acc.getD e.on 0 else s) 0) = x
    have h := ih (acc.push x)
    simp only [] at h
    generalize hr : l.foldl (fun acc (o : Oper) => acc.push (o.after.foldl (fun s e => if Region.binds .any e then s ||| 2 ^ e.on ||| acc.getD e.on 0 else s) 0)) (acc.push x) = r at *
    obtain ⟨h1, h2, h3⟩ := h
    simp only [Array.size_push] at h1 h2 h3
    refine ⟨by rw [h1, List.length_cons]; omega, fun j hj => ?_, fun j i hj ht => ?_⟩
    · rw [h2 j (by omega), Array.getElem?_push, if_neg (by omega)]
    · by_cases e : j = acc.size
      · subst e
        refine ⟨o, by simp, ?_⟩
        have hjr : r.getD acc.size 0 = x := by
          rw [Array.getD_eq_getD_getElem?, h2 acc.size (by omega), Array.getElem?_push, if_pos rfl]; rfl
        rw [hjr, ← hx] at ht
        have key : ∀ (es : List Edge) (s : Nat), Nat.testBit (es.foldl (fun s e => if Region.binds .any e then s ||| 2 ^ e.on ||| acc.getD e.on 0 else s) s) i = true →
            Nat.testBit s i = true ∨ ∃ e ∈ es, Region.binds .any e = true ∧ (i = e.on ∨ Nat.testBit (acc.getD e.on 0) i = true) := by
          intro es
          induction es with
          | nil => intro s hs; exact .inl hs
          | cons e es ihe =>
            intro s hs
            rw [List.foldl_cons] at hs
            rcases ihe _ hs with hb | ⟨e', he', hb'⟩
            · by_cases hbe : Region.binds .any e = true
              · rw [if_pos hbe, Nat.testBit_or, Nat.testBit_or, Bool.or_eq_true, Bool.or_eq_true] at hb
                rcases hb with (hb | hb) | hb
                · exact .inl hb
                · rw [Nat.testBit_two_pow] at hb
                  exact .inr ⟨e, List.mem_cons_self .., hbe, .inl (by have := hb; simp at this; omega)⟩
                · exact .inr ⟨e, List.mem_cons_self .., hbe, .inr hb⟩
              · rw [if_neg hbe] at hb; exact .inl hb
            · exact .inr ⟨e', List.mem_cons_of_mem _ he', hb'⟩
        rw [← Array.foldl_toList] at ht
        rcases key _ _ ht with hb | ⟨e, he, hb, hc⟩
        · simp at hb
        · refine ⟨e, by simpa using he, hb, ?_⟩
          rcases hc with hc | hc
          · exact .inl hc
          · right
            by_cases hlt : e.on < acc.size
            · refine ⟨hlt, ?_⟩
              rw [Array.getD_eq_getD_getElem?] at hc ⊢
              rw [h2 e.on (by omega), Array.getElem?_push, if_neg (by omega)]
              exact hc
            · rw [Array.getD_eq_getD_getElem?, Array.getElem?_eq_none (by omega)] at hc
              simp at hc
      · obtain ⟨o', g1, g2⟩ := h3 j i (by omega) ht
        exact ⟨o', by rw [show j - acc.size = (j - (acc.size + 1)) + 1 by omega, List.getElem?_cons_succ]; exact g1, g2⟩
theorem prec_spec {ops : Array Oper} {i j : Nat} (h : Prec ops i j) : ∃ o, ops[j]? = some o ∧ ∃ e ∈ o.after, Region.binds .any e = true ∧ (i = e.on ∨ Prec ops i e.on) := by
  unfold Prec Region.before at h
  rw [← Array.foldl_toList] at h
  obtain ⟨_, _, h3⟩ := before_go ops.toList #[]
  obtain ⟨o, g1, e, g2, g3, g4⟩ := h3 j i (Nat.zero_le _) h
  refine ⟨o, by simpa using g1, e, g2, g3, ?_⟩
  rcases g4 with g4 | ⟨_, g4⟩
  · exact .inl g4
  · right
    unfold Prec Region.before
    rw [← Array.foldl_toList]
    exact g4

theorem tempsAt_spec {before : Array Nat} {j : Nat} {t : Tmp} : ∀ (ops : List Oper) (i₀ : Nat), tempsAt ops before j t i₀ = true → ∀ i o, ops[i]? = some o → o.dst = some t →
    i₀ + i = j ∨ (i₀ + i < j ∧ Nat.testBit (before.getD j 0) (i₀ + i) = true) ∨ (j < i₀ + i ∧ Nat.testBit (before.getD (i₀ + i) 0) j = true)
  | [], _, _, i, o, h, _ => by simp at h
  | p :: ops, i₀, h, i, o, ho, hd => by
    change ((bif decide (p.dst = some t) then Nat.beq i₀ j || (bif Nat.blt i₀ j then Nat.testBit (before.getD j 0) i₀ else Nat.testBit (before.getD i₀ 0) j) else true) && tempsAt ops before j t (i₀ + 1)) = true at h
    simp only [Bool.and_eq_true] at h
    cases i with
    | zero =>
      simp at ho
      subst ho
      have h1 := h.1
      rw [show decide (p.dst = some t) = true from by simp [hd]] at h1
      simp only [cond_true, Bool.or_eq_true] at h1
      rcases h1 with h1 | h1
      · exact .inl (by simpa using Nat.eq_of_beq_eq_true h1)
      · cases hb : Nat.blt i₀ j with
        | true =>
          rw [hb] at h1
          exact .inr (.inl ⟨by have := Nat.le_of_ble_eq_true hb; omega, h1⟩)
        | false =>
          rw [hb] at h1
          by_cases e : i₀ = j
          · exact .inl (by omega)
          · refine .inr (.inr ⟨?_, h1⟩)
            have : ¬ (i₀ < j) := fun hlt => by rw [show Nat.blt i₀ j = true from Nat.ble_eq_true_of_le hlt] at hb; cases hb
            omega
    | succ i =>
      have := tempsAt_spec ops (i₀ + 1) h.2 i o (by simpa using ho) hd
      rw [show i₀ + (i + 1) = i₀ + 1 + i by omega]
      exact this
structure ROK (ops : Array Oper) : Prop where
  edge : ∀ j o, ops[j]? = some o → ∀ e ∈ o.after, Region.binds .any e = true → e.on < j
  temps : ∀ j o, ops[j]? = some o → ∀ t ∈ looks ops o, ∀ i oi, ops[i]? = some oi → oi.dst = some t → i = j ∨ (i < j ∧ Prec ops i j) ∨ (j < i ∧ Prec ops j i)
  louds : ∀ j o, ops[j]? = some o → isLoud o = true → ∀ i oi, i < j → ops[i]? = some oi → isLoud oi = true → Prec ops i j
theorem regionOK_spec {ops : Array Oper} (h : regionOK ops = true) : ROK ops := by
  unfold regionOK at h
  simp only [List.all_eq_true, List.mem_range] at h
  have at' : ∀ j o, ops[j]? = some o → _ := fun j o ho => by
    have hj : j < ops.size := (Array.getElem?_eq_some_iff.1 ho).1
    have := h j hj
    rw [ho] at this
    simp only [Bool.and_eq_true, List.all_eq_true] at this
    exact this
  refine ⟨fun j o ho e he hb => ?_, fun j o ho t ht i oi hoi hd => ?_, fun j o ho hl i oi hij hoi hli => ?_⟩
  · have h1 := (at' j o ho).1.1 e (by simpa using he)
    rw [hb] at h1
    simp at h1
    exact h1
  · have h1 := (at' j o ho).1.2 t ht
    have := tempsAt_spec ops.toList 0 h1 i oi (by simpa using hoi) hd
    simpa [Prec] using this
  · have h1 := (at' j o ho).2
    rw [hl] at h1
    simp only [Bool.not_true, Bool.false_or, List.all_eq_true, List.mem_range] at h1
    have := h1 i hij
    rw [hoi] at this
    simp only [hli, Bool.not_true, Bool.false_or] at this
    exact this

/-! the guard -/
def gtemps (ops : Array Oper) (o : Oper) : List Nat := match o.guard with
  | some (g, _) => match ops[g]? with
    | some q => q.dst.toList
    | none => []
  | none => []
theorem wantedA_restr (ops : Array Oper) (o : Oper) (T : PM AV) : wantedA ops (restr T (gtemps ops o)) o = wantedA ops T o := by
  unfold wantedA gtemps
  cases o.guard with
  | none => rfl
  | some g =>
    obtain ⟨g, want⟩ := g
    simp only
    cases ops[g]? with
    | none => rfl
    | some q =>
      simp only
      cases q.dst with
      | none => rfl
      | some d =>
        simp only
        cases hb : Nat.ble d 1000000 with
        | false => rfl
        | true =>
          simp only [cond_true]
          rw [restr_get (t := d) (by simp) (Nat.le_of_ble_eq_true hb)]
theorem wantedA_ok2 {E : Env} {ops : Array Oper} {T : PM AV} {tmps : Array Value} {o : Oper} {b : Bool} (r : ROn E (gtemps ops o) T tmps) (e : wantedA ops T o = some b) : Region.wanted o (yielded ops tmps) = b := by
  rw [← wantedA_restr] at e
  exact wantedA_ok (r.trel rfl) e
theorem looks_op {ops : Array Oper} {o : Oper} {t : Nat} (h : t ∈ opTemps o.op) : t ∈ looks ops o := by
  unfold looks opTemps at *
  simp only [List.mem_append]
  exact .inl (.inr h)
theorem looks_guard {ops : Array Oper} {o : Oper} {t : Nat} (h : t ∈ gtemps ops o) : t ∈ looks ops o := by
  unfold looks gtemps at *
  simp only [List.mem_append]
  exact .inr h
theorem looks_dst {ops : Array Oper} {o : Oper} {t : Tmp} (h : o.dst = some t) : t ∈ looks ops o := by
  unfold looks
  simp only [List.mem_append]
  exact .inl (.inl (by rw [h]; simp))

theorem tstep_get {n : Nat} (hn : n ≤ 1000000) {T : PM AV} {dst : Option Tmp} {v : AV} (hd : ∀ d, dst = some d → d < n) {t : Nat} (ht : t < 2 ^ 62) :
    (tstep T dst v).get (posOf t) = if dst = some t then some v else T.get (posOf t) := by
  cases dst with
  | none => rw [if_neg (by intro q; cases q)]; rfl
  | some d =>
    have hd' : d < n := hd d rfl
    show (T.put (posOf d) (some v)).get (posOf t) = _
    rw [PM.get_put]
    by_cases e : d = t
    · subst e; rw [if_pos rfl, if_pos rfl]
    · rw [if_neg (fun q => e (posOf_inj (Nat.lt_of_lt_of_le hd' (by omega)) ht q)), if_neg (fun q => e (by injection q))]
theorem Tget {ops : Array Oper} {n : Nat} (hn : n ≤ 1000000) {base : List Pos} {pl : Pl} (st : ∀ j, j < ops.size → StepOK P ops n base pl ops.size j) {t : Nat} (ht : t < 2 ^ 62) {v : AV} : ∀ j, j ≤ ops.size → (pl.T j).get (posOf t) = some v →
    (∃ i o, i < j ∧ ops[i]? = some o ∧ o.dst = some t ∧ pl.v i = v ∧ ∀ i' o', i' < j → ops[i']? = some o' → o'.dst = some t → i' ≤ i) ∨
    ((pl.T 0).get (posOf t) = some v ∧ ∀ i o, i < j → ops[i]? = some o → o.dst ≠ some t) := by
  intro j
  induction j with
  | zero => intro _ h; exact .inr ⟨h, fun i o hi => by omega⟩
  | succ j ih =>
    intro hj h
    obtain ⟨o, ho, hd, hT, _⟩ := st j (by omega)
    rw [hT, tstep_get hn hd ht] at h
    by_cases e : o.dst = some t
    · rw [if_pos e] at h
      injection h with h
      exact .inl ⟨j, o, by omega, ho, e, h, fun i' o' hi' _ _ => by omega⟩
    · rw [if_neg e] at h
      rcases ih (by omega) h with ⟨i, oi, g1, g2, g3, g4, g5⟩ | ⟨g1, g2⟩
      · refine .inl ⟨i, oi, by omega, g2, g3, g4, fun i' o' hi' ho' hd' => ?_⟩
        by_cases ei : i' = j
        · subst ei; rw [ho] at ho'; injection ho' with ho'; subst ho'; exact absurd hd' e
        · exact g5 i' o' (by omega) ho' hd'
      · refine .inr ⟨g1, fun i oi hi hoi hd' => ?_⟩
        by_cases ei : i = j
        · subst ei; rw [ho] at hoi; injection hoi with hoi; subst hoi; exact absurd hd' e
        · exact g2 i oi (by omega) hoi hd'
end
end Go.Ax
