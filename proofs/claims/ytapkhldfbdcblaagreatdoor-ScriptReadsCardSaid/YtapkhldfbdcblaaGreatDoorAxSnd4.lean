/- An abstract executor, nineteenth part: what an operation looks at; heaps as functions; regions that draw their order. -/
import Derived.Test.YtapkhldfbdcblaaGreatDoorAxSnd5
set_option linter.unusedSectionVars false
set_option linter.unnecessarySimpa false
set_option linter.unusedSimpArgs false
set_option linter.unusedVariables false
namespace Go.Ax
noncomputable section
variable {P : Program}

/-! an operation looks at its operands alone -/
def opTemps (o : Op) : List Nat := o.operands.toList.filterMap fun | .tmp t => some t | _ => none
def restr (T : PM AV) : List Nat → PM AV
  | [] => .nil
  | t :: ts => if t ≤ 1000000 then (restr T ts).put (posOf t) (T.get (posOf t)) else restr T ts
theorem restr_get {T : PM AV} : ∀ {ts : List Nat} {t : Nat}, t ∈ ts → t ≤ 1000000 → (restr T ts).get (posOf t) = T.get (posOf t)
  | s :: ts, t, hm, ht => by
    unfold restr
    by_cases hs : s ≤ 1000000
    · rw [if_pos hs, PM.get_put]
      by_cases e : s = t
      · subst e; simp
      · rw [if_neg (fun q => e (posOf_inj (by omega) (by omega) q))]
        exact restr_get ((List.mem_cons.1 hm).resolve_left (fun q => e q.symm)) ht
    · rw [if_neg hs]
      exact restr_get ((List.mem_cons.1 hm).resolve_left (fun q => by subst q; exact hs ht)) ht
theorem restr_some {T : PM AV} : ∀ {ts : List Nat} {t : Nat} {v : AV}, t < 2 ^ 62 → (restr T ts).get (posOf t) = some v → t ∈ ts ∧ t ≤ 1000000 ∧ T.get (posOf t) = some v
  | [], t, v, ht, h => by simp [restr, PM.get_nil] at h
  | s :: ts, t, v, ht, h => by
    unfold restr at h
    by_cases hs : s ≤ 1000000
    · rw [if_pos hs, PM.get_put] at h
      by_cases e : s = t
      · subst e; simp at h; exact ⟨List.mem_cons_self .., hs, h⟩
      · rw [if_neg (fun q => e (posOf_inj (by omega) ht q))] at h
        obtain ⟨h1, h2, h3⟩ := restr_some ht h
        exact ⟨List.mem_cons_of_mem _ h1, h2, h3⟩
    · rw [if_neg hs] at h
      obtain ⟨h1, h2, h3⟩ := restr_some ht h
      exact ⟨List.mem_cons_of_mem _ h1, h2, h3⟩

theorem evA_same {T T' : PM AV} {x : Operand} (h : ∀ t, x = .tmp t → t ≤ 1000000 → T'.get (posOf t) = T.get (posOf t)) : evA T' x = evA T x := by
  cases x with
  | tmp t =>
    simp only [evA]
    cases hb : Nat.ble t 1000000 with
    | false => rfl
    | true => simp only [cond_true]; exact h t rfl (Nat.le_of_ble_eq_true hb)
  | _ => rfl
theorem evAs_same {T T' : PM AV} : ∀ {xs : List Operand}, (∀ x ∈ xs, evA T' x = evA T x) → evAs T' xs = evAs T xs
  | [], _ => rfl
  | x :: xs, h => by simp only [evAs]; rw [h x (List.mem_cons_self ..), evAs_same fun y hy => h y (List.mem_cons_of_mem _ hy)]
theorem evParts_same {T T' : PM AV} : ∀ {xs : List (Nat × Operand)}, (∀ x ∈ xs, evA T' x.2 = evA T x.2) → evParts T' xs = evParts T xs
  | [], _ => rfl
  | (i, x) :: xs, h => by simp only [evParts]; rw [h (i, x) (List.mem_cons_self ..), evParts_same fun y hy => h y (List.mem_cons_of_mem _ hy)]
theorem bounds3_same {T T' : PM AV} {a b : Nat} {lo hi mx : Option Operand} (h : ∀ x, lo = some x ∨ hi = some x ∨ mx = some x → evA T' x = evA T x) : bounds3 T' a b lo hi mx = bounds3 T a b lo hi mx := by
  have b0 : ∀ (d : Nat) (x : Option Operand), (∀ y, x = some y → evA T' y = evA T y) → bndA T' d x = bndA T d x := by
    intro d x hx
    unfold bndA
    cases x with
    | none => rfl
    | some y => simp only [hx y rfl]
  unfold bounds3
  rw [b0 0 lo (fun y hy => h y (.inl hy)), b0 a hi (fun y hy => h y (.inr (.inl hy)))]
  cases mx with
  | none => rfl
  | some m => have e := b0 0 (some m) (fun y hy => h y (.inr (.inr hy))); simp only [e]
theorem opA_same {o : Oper} {T T' : PM AV} {h : AH} (hs : ∀ x ∈ o.op.operands.toList, evA T' x = evA T x) : opA P o T' h = opA P o T h := by
  obtain ⟨dst, op, type, pos, after, guard⟩ := o
  unfold opA
  simp only at *
  cases op <;> simp only [opF, oMove, oPick, oAlloc, oBox, oBuild, oBuildSlice, oLoad, oStore, oNilCheck, oBin, oUn, oConv, oMkIface, oMkFunc, oMkMap, oMkSlice, oSlice, oFieldAddr, oField, oIndexAddr, oIndex, oLookup, oUpdate, oMapEntry, oEntryStore, oRange, oNext, oEntry, oAssert, oExtract, oCall, oNone] <;>
    simp only [Op.operands] at hs <;> try (simp at hs; simp [hs]; done)
  case pick c x y =>
    have e1 := hs c (by simp); have e2 := hs x (by simp); have e3 := hs y (by simp)
    unfold pickO
    rw [e1, e2, e3]
  case build t ps => rw [evParts_same fun x hx => hs x.2 (List.mem_map_of_mem hx)]
  case buildSlice t n ps => rw [evParts_same fun x hx => hs x.2 (List.mem_map_of_mem hx)]
  case makeFunc fn a c =>
    unfold makeFuncA
    rw [evAs_same (xs := a.toList) fun x hx => hs x (by simp only [Array.toList_append, List.mem_append]; exact .inl hx), evAs_same (xs := c.toList) fun x hx => hs x (by simp only [Array.toList_append, List.mem_append]; exact .inr hx)]
  case slice t x lo hi mx =>
    have e1 := hs x (by simp)
    have e2 : ∀ (a b : Nat) (mx' : Option Operand), (mx' = mx ∨ mx' = none) → bounds3 T' a b lo hi mx' = bounds3 T a b lo hi mx' := fun a b mx' hm => bounds3_same fun y hy => by
      apply hs y
      rcases hy with hy | hy | hy
      · simp [hy]
      · simp [hy]
      · rcases hm with rfl | rfl
        · simp [hy]
        · cases hy
    rw [e1]
    congr 1
    funext v
    unfold sliceA
    simp only [e2 _ _ mx (.inl rfl), e2 _ _ none (.inr rfl)]
  case call c =>
    obtain ⟨callee, args, ts⟩ := c
    cases callee with
    | value f => rfl
    | invoke r m => rfl
    | builtin b =>
      simp only [callF, oBuiltin]
      rw [evAs_same fun x hx => hs x (by simpa [Call.operands] using hx)]
theorem calleeA_same {c : Call} {T T' : PM AV} (hs : ∀ x ∈ c.operands.toList, evA T' x = evA T x) : calleeA T' c = calleeA T c := by
  obtain ⟨callee, args, ts⟩ := c
  unfold calleeA
  cases callee with
  | builtin b => rfl
  | invoke r m => rfl
  | value f =>
    simp only
    rw [hs f (by simp [Call.operands]), evAs_same fun x hx => hs x (by simp [Call.operands]; right; simpa using hx)]
theorem invokeA_same {c : Call} {h : AH} {T T' : PM AV} (hs : ∀ x ∈ c.operands.toList, evA T' x = evA T x) : invokeA P h T' c = invokeA P h T c := by
  obtain ⟨callee, args, ts⟩ := c
  unfold invokeA
  cases callee with
  | builtin b => rfl
  | value f => rfl
  | invoke r m =>
    simp only
    rw [hs r (by simp [Call.operands]), evAs_same fun x hx => hs x (by simp [Call.operands]; right; simpa using hx)]
theorem operK_same {hk : Hook} {rec : Rec} {o : Oper} {T T' : PM AV} {h : AH} {k : AV → AH → Bool} (hs : ∀ x ∈ o.op.operands.toList, evA T' x = evA T x) : operK P hk rec o T' h k = operK P hk rec o T h k := by
  unfold operK
  cases hc : isCall o with
  | none => rw [opA_same hs]
  | some c =>
    simp only
    unfold callOpK
    have ho : o.op = .call c := by
      unfold isCall at hc
      split at hc
      · rename_i c' h'
        split at hc
        · cases hc
        · simp at hc; rw [h', hc]
      · cases hc
    rw [calleeA_same fun x hx => hs x (by rw [ho]; exact hx), invokeA_same fun x hx => hs x (by rw [ho]; exact hx)]
theorem evA_restr (o : Oper) (T : PM AV) : ∀ x ∈ o.op.operands.toList, evA (restr T (opTemps o.op)) x = evA T x := fun x hx =>
  evA_same fun t e ht => restr_get (List.mem_filterMap.2 ⟨x, hx, by rw [e]⟩) ht

/-- The temporaries at which an operation looks are as is said. -/
def ROn (E : Env) (ts : List Nat) (T : PM AV) (tmps : Array Value) : Prop :=
  ∀ t, t ∈ ts → t ≤ 1000000 → ∀ v, T.get (posOf t) = some v → ∃ u, tmps[t]? = some u ∧ VRel E v u
theorem ROn.trel {E : Env} {ts : List Nat} {n : Nat} {T : PM AV} {tmps : Array Value} (r : ROn E ts T tmps) (hn : tmps.size = n) : TRel E n (restr T ts) tmps :=
  ⟨hn, fun t v ht hg => let ⟨h1, h2, h3⟩ := restr_some ht hg; r t h1 h2 v h3⟩
def SoundO2 (P : Program) (o : Oper) (T : PM AV) (h : AH) (v : AV) (h' : AH) : Prop :=
  ∀ (E : Env) (ρ : Option Nat) (nn : Nat) (a : Act) (w : World) (next : Act → World → Prop) (Q : Exit → Act → World → Prop), ROn E (opTemps o.op) T a.tmps → HRel E h w →
    (∀ E' u w', Fr E h w E' h' w' → HRel E' h' w' → VRel E' v u → next (a.put o.dst u) w') → o.wpIn (FW ρ) nn P a w next Q
theorem operK_ok2 {hk : Hook} {rec : Rec} (hh : HookOK P hk) (hg : Good P rec) {o : Oper} {T : PM AV} {h : AH} {k : AV → AH → Bool} (e : operK P hk rec o T h k = true) :
    ∃ v h', k v h' = true ∧ SoundO2 P o T h v h' := by
  rw [← operK_same (evA_restr o T)] at e
  obtain ⟨v, h', e', s⟩ := operK_ok hh hg e
  exact ⟨v, h', e', fun E ρ nn a w next Q r hr kN => s _ E ρ nn a w next Q (r.trel rfl) hr kN⟩
/-- An operation that calls nothing, looked at in whatever heap. -/
theorem opA_ok2 {E : Env} {o : Oper} {T : PM AV} {h : AH} {w : World} {a : Act} {r : ORes} (tr : ROn E (opTemps o.op) T a.tmps) (hr : HRel E h w) (e : opA P o T h = some r) :
    ResOK E h w ((execOp a.eval o).run P w) r := by
  rw [← opA_same (evA_restr o T)] at e
  exact opA_ok (tr.trel rfl) hr e
end
end Go.Ax
