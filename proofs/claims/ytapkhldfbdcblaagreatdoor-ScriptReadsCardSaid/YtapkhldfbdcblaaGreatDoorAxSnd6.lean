/- An abstract executor, twenty-first part: heaps as functions: what an operation does not speak of stays. -/
import Derived.Test.YtapkhldfbdcblaaGreatDoorAxSnd4
set_option linter.unusedSectionVars false
set_option linter.unnecessarySimpa false
set_option linter.unusedSimpArgs false
set_option linter.unusedVariables false
namespace Go.Ax
noncomputable section
variable {P : Program}

structure HRelF (E : Env) (g : Pos → Option AObj) (nx : Pos) (w : World) : Prop where
  obj : ∀ b o, g b = some o → ∃ B sh N, E.blk b = some (B, sh, N) ∧ ORel E o sh N w.heap[B]?
  inj : ∀ b b' B sh N sh' N', (g b).isSome = true → (g b').isSome = true → E.blk b = some (B, sh, N) → E.blk b' = some (B, sh', N') → b = b'
  fresh : ∀ p : Pos, nx.nat ≤ p.nat → E.blk p = none
  below : ∀ p B sh N, E.blk p = some (B, sh, N) → B < w.heap.size
theorem HRel.f {E : Env} {h : AH} {w : World} (r : HRel E h w) : HRelF E h.m.get h.nx w := ⟨r.obj, r.inj, r.fresh, r.below⟩
theorem HRelF.sub {E : Env} {g : Pos → Option AObj} {nx : Pos} {w : World} (r : HRelF E g nx w) {h : AH} (hs : ∀ p o, h.m.get p = some o → g p = some o) (hn : h.nx = nx) : HRel E h w := by
  have live : ∀ p, h.live p → (g p).isSome = true := fun p hp => by
    unfold AH.live at hp
    obtain ⟨o, ho⟩ := Option.isSome_iff_exists.1 hp
    rw [hs p o ho]; rfl
  exact ⟨fun b o hb => r.obj b o (hs b o hb), fun b b' B sh N sh' N' l l' => r.inj b b' B sh N sh' N' (live b l) (live b' l'), fun p hp => r.fresh p (by rw [← hn]; exact hp), r.below⟩
theorem HRelF.congr {E : Env} {g : Pos → Option AObj} {nx : Pos} {w w' : World} (r : HRelF E g nx w) (e : w'.heap = w.heap) : HRelF E g nx w' :=
  ⟨fun b o hb => by rw [e]; exact r.obj b o hb, r.inj, r.fresh, fun p B sh N hp => by rw [e]; exact r.below p B sh N hp⟩

structure FrF (E : Env) (h : AH) (w : World) (E' : Env) (g' : Pos → Option AObj) (nx' : Pos) (w' : World) : Prop where
  le : E.le E'
  old : ∀ p : Pos, p.nat < h.nx.nat → E'.blk p = E.blk p
  nx : h.nx.nat ≤ nx'.nat
  size : w.heap.size ≤ w'.heap.size
  os : w'.os = w.os
  tape : w'.tape = w.tape
  output : w'.output = w.output
  rest : ∀ B, B < w.heap.size → (∀ b sh N, h.live b → E.blk b ≠ some (B, sh, N)) → w'.heap[B]? = w.heap[B]?
  own : ∀ b B sh N, (g' b).isSome = true → E'.blk b = some (B, sh, N) → w.heap.size ≤ B ∨ ∃ b₀ sh₀ N₀, h.live b₀ ∧ E.blk b₀ = some (B, sh₀, N₀)
theorem FrF.fr {E E' : Env} {h h' : AH} {w w' : World} {g' : Pos → Option AObj} (f : FrF E h w E' g' h'.nx w') (hs : ∀ p o, h'.m.get p = some o → g' p = some o) : Fr E h w E' h' w' :=
  ⟨f.le, f.old, f.nx, f.size, f.os, f.tape, f.output, f.rest, fun b B sh N l e => f.own b B sh N (by
    unfold AH.live at l
    obtain ⟨o, ho⟩ := Option.isSome_iff_exists.1 l
    rw [hs b o ho]; rfl) e⟩
theorem FrF.congr {E E' : Env} {h : AH} {w w' w'' : World} {g : Pos → Option AObj} {nx : Pos} (f : FrF E h w E' g nx w') (e : w''.heap = w'.heap) (o : w''.os = w'.os) (t : w''.tape = w'.tape) (u : w''.output = w'.output) : FrF E h w E' g nx w'' :=
  ⟨f.le, f.old, f.nx, by rw [e]; exact f.size, o.trans f.os, t.trans f.tape, u.trans f.output, fun B hB hn => by rw [e]; exact f.rest B hB hn, f.own⟩

/-- A new block at a key that was set aside. -/
theorem HRelF.pushAt {E : Env} {g : Pos → Option AObj} {nx p : Pos} {w : World} (r : HRelF E g nx w) (hp : p.nat < nx.nat) (hE : E.blk p = none) {o : AObj} {O : Obj} {N : Nat} (ho : ORel E o 0 N (some O)) :
    E.le (E.set p (w.heap.size, 0, N)) ∧ HRelF (E.set p (w.heap.size, 0, N)) (fun q => if q = p then some o else g q) nx { w with heap := w.heap.push O } := by
  have hle : E.le (E.set p (w.heap.size, 0, N)) := ⟨fun q x hq => by
    by_cases e : q = p
    · rw [e, hE] at hq; cases hq
    · simp [Env.set, e, hq], rfl⟩
  have hget : ∀ B, B < w.heap.size → (w.heap.push O)[B]? = w.heap[B]? := fun B hB => by rw [Array.getElem?_push, if_neg (by omega)]
  refine ⟨hle, fun b o' hb => ?_, fun b b' B sh N₁ sh' N' hl hl' e e' => ?_, fun q hq => ?_, fun q B sh N₁ hq => ?_⟩
  · by_cases e : b = p
    · subst e
      simp at hb
      subst hb
      refine ⟨w.heap.size, 0, N, by simp [Env.set], ?_⟩
      rw [show (w.heap.push O)[w.heap.size]? = some O from by simp]
      exact ho.mono hle
    · simp [e] at hb
      obtain ⟨B, sh, N', h1, h2⟩ := r.obj b o' hb
      refine ⟨B, sh, N', hle.blk _ _ h1, ?_⟩
      show ORel _ o' sh N' ((w.heap.push O)[B]?)
      rw [hget B (r.below _ _ _ _ h1)]
      exact h2.mono hle
  · simp only [Env.set] at e e'
    by_cases e1 : b = p <;> by_cases e2 : b' = p
    · rw [e1, e2]
    · simp [e1] at e; simp [e2] at e'; have := r.below _ _ _ _ e'; omega
    · simp [e1] at e; simp [e2] at e'; have := r.below _ _ _ _ e; omega
    · simp [e1] at e hl; simp [e2] at e' hl'
      exact r.inj b b' B sh N₁ sh' N' hl hl' e e'
  · have h2 : q ≠ p := fun e => by rw [e] at hq; omega
    simp only [Env.set, h2, if_false]
    exact r.fresh q hq
  · simp only [Env.set] at hq
    by_cases e : q = p
    · simp [e] at hq; simp; omega
    · simp [e] at hq; have := r.below _ _ _ _ hq; simp; omega
theorem FrF.pushAt {E₀ E : Env} {h₀ : AH} {w₀ w : World} {g : Pos → Option AObj} {nx p : Pos} (f : FrF E₀ h₀ w₀ E g nx w) (hp : h₀.nx.nat ≤ p.nat) (hE : E.blk p = none) {o : AObj} {O : Obj} {N : Nat} :
    FrF E₀ h₀ w₀ (E.set p (w.heap.size, 0, N)) (fun q => if q = p then some o else g q) nx { w with heap := w.heap.push O } := by
  refine ⟨f.le.trans ⟨fun q x hq => ?_, rfl⟩, fun q hq => ?_, f.nx, ?_, f.os, f.tape, f.output, fun B hB hn => ?_, fun b B sh N₁ l e => ?_⟩
  · by_cases e : q = p
    · rw [e, hE] at hq; cases hq
    · simp [Env.set, e, hq]
  · have h2 : q ≠ p := fun e => by rw [e] at hq; omega
    simp only [Env.set, h2, if_false]
    exact f.old q hq
  · have := f.size; simp; omega
  · have := f.size
    show (w.heap.push O)[B]? = _
    rw [Array.getElem?_push, if_neg (by omega)]
    exact f.rest B hB hn
  · simp only [Env.set] at e
    by_cases e1 : b = p
    · simp [e1] at e; have := f.size; left; omega
    · simp [e1] at e l; exact f.own b B sh N₁ l e

/-- What lies beside. -/
def beside (g : Pos → Option AObj) (h h' : AH) : Pos → Option AObj := fun p => match h'.m.get p with | some o => some o | none => match h.m.get p with | some _ => none | none => g p
theorem beside_spec {g : Pos → Option AObj} {h h' : AH} {p : Pos} {o : AObj} : beside g h h' p = some o ↔ h'.m.get p = some o ∨ (h'.m.get p = none ∧ h.m.get p = none ∧ g p = some o) := by
  unfold beside
  cases h1 : h'.m.get p <;> cases h2 : h.m.get p <;> simp

theorem HRelF.beside {E E' : Env} {g : Pos → Option AObj} {h h' : AH} {w w' : World} (r : HRelF E g h.nx w) (hs : ∀ p o, h.m.get p = some o → (g p).isSome = true) (f : Fr E h w E' h' w') (r' : HRel E' h' w') :
    HRelF E' (beside g h h') h'.nx w' ∧ ∀ p, h.m.get p = none → (g p).isSome = true → h'.m.get p = none := by
  have apart : ∀ p o B sh N, h.m.get p = none → g p = some o → E.blk p = some (B, sh, N) → B < w.heap.size ∧ ∀ b sh N, h.live b → E.blk b ≠ some (B, sh, N) := fun p o B sh N h1 h2 h3 => by
    refine ⟨r.below _ _ _ _ h3, fun b sh' N' l e => ?_⟩
    unfold AH.live at l
    obtain ⟨o', ho'⟩ := Option.isSome_iff_exists.1 l
    have : b = p := r.inj b p B sh' N' sh N (hs b o' ho') (by rw [h2]; rfl) e h3
    subst this
    rw [h1] at ho'
    cases ho'
  have noth : ∀ p, h.m.get p = none → (g p).isSome = true → h'.m.get p = none := fun p h1 h2 => by
    obtain ⟨o, ho⟩ := Option.isSome_iff_exists.1 h2
    obtain ⟨B, sh, N, e1, e2⟩ := r.obj p o ho
    obtain ⟨hlt, hap⟩ := apart p o B sh N h1 ho e1
    cases h3 : h'.m.get p with
    | none => rfl
    | some o' =>
      rcases f.own p B sh N (by unfold AH.live; rw [h3]; rfl) (f.le.blk _ _ e1) with hge | ⟨b₀, sh₀, N₀, l, e⟩
      · omega
      · exact absurd e (hap b₀ sh₀ N₀ l)
  refine ⟨⟨fun b o hb => ?_, fun b b' B sh N sh' N' l l' e e' => ?_, r'.fresh, r'.below⟩, noth⟩
  · rcases beside_spec.1 hb with h1 | ⟨h1, h2, h3⟩
    · exact r'.obj b o h1
    · obtain ⟨B, sh, N, e1, e2⟩ := r.obj b o h3
      obtain ⟨hlt, hap⟩ := apart b o B sh N h2 h3 e1
      exact ⟨B, sh, N, f.le.blk _ _ e1, by rw [f.rest B hlt hap]; exact e2.mono f.le⟩
  · obtain ⟨o, ho⟩ := Option.isSome_iff_exists.1 l
    obtain ⟨o', ho'⟩ := Option.isSome_iff_exists.1 l'
    have mixed : ∀ (b b' : Pos) (o o' : AObj) (B sh N sh' N' : Nat), h'.m.get b = some o → h.m.get b' = none → g b' = some o' → E'.blk b = some (B, sh, N) → E'.blk b' = some (B, sh', N') → False := by
      intro b b' o o' B sh N sh' N' h1 h2 h3 e e'
      obtain ⟨B₁, sh₁, N₁, e1, _⟩ := r.obj b' o' h3
      have e2 := f.le.blk _ _ e1
      rw [e'] at e2
      obtain ⟨rfl, rfl, rfl⟩ : B = B₁ ∧ sh' = sh₁ ∧ N' = N₁ := by simpa using e2
      obtain ⟨hlt, hap⟩ := apart b' o' B sh' N' h2 h3 e1
      rcases f.own b B sh N (by unfold AH.live; rw [h1]; rfl) e with hge | ⟨b₀, sh₀, N₀, l0, e0⟩
      · omega
      · exact hap b₀ sh₀ N₀ l0 e0
    rcases beside_spec.1 ho with h1 | ⟨h1, h2, h3⟩ <;> rcases beside_spec.1 ho' with h1' | ⟨h1', h2', h3'⟩
    · exact r'.inj b b' B sh N sh' N' (by unfold AH.live; rw [h1]; rfl) (by unfold AH.live; rw [h1']; rfl) e e'
    · exact (mixed b b' o o' B sh N sh' N' h1 h2' h3' e e').elim
    · exact (mixed b' b o' o B sh' N' sh N h1' h2 h3 e' e).elim
    · obtain ⟨B₁, sh₁, N₁, e1, _⟩ := r.obj b o h3
      obtain ⟨B₂, sh₂, N₂, e2, _⟩ := r.obj b' o' h3'
      have q1 := f.le.blk _ _ e1
      have q2 := f.le.blk _ _ e2
      rw [e] at q1
      rw [e'] at q2
      obtain ⟨rfl, rfl, rfl⟩ : B = B₁ ∧ sh = sh₁ ∧ N = N₁ := by simpa using q1
      obtain ⟨rfl, rfl, rfl⟩ : B = B₂ ∧ sh' = sh₂ ∧ N' = N₂ := by simpa using q2
      exact r.inj b b' B sh N sh' N' (by rw [h3]; rfl) (by rw [h3']; rfl) e1 e2
theorem FrF.beside {E₀ E E' : Env} {h₀ h h' : AH} {w₀ w w' : World} {g : Pos → Option AObj} (f₀ : FrF E₀ h₀ w₀ E g h.nx w) (r : HRelF E g h.nx w) (hs : ∀ p o, h.m.get p = some o → (g p).isSome = true) (f : Fr E h w E' h' w') :
    FrF E₀ h₀ w₀ E' (beside g h h') h'.nx w' where
  le := f₀.le.trans f.le
  old := fun p hp => (f.old p (Nat.lt_of_lt_of_le hp f₀.nx)).trans (f₀.old p hp)
  nx := Nat.le_trans f₀.nx f.nx
  size := Nat.le_trans f₀.size f.size
  os := f.os.trans f₀.os
  tape := f.tape.trans f₀.tape
  output := f.output.trans f₀.output
  rest := fun B hB hn => by
    rw [f.rest B (Nat.lt_of_lt_of_le hB f₀.size), f₀.rest B hB hn]
    intro b sh N hl he
    unfold AH.live at hl
    obtain ⟨o, ho⟩ := Option.isSome_iff_exists.1 hl
    rcases f₀.own b B sh N (hs b o ho) he with h1 | ⟨b₀, sh₀, N₀, h1, h2⟩
    · omega
    · exact hn _ _ _ h1 h2
  own := fun b B sh N hl he => by
    obtain ⟨o, ho⟩ := Option.isSome_iff_exists.1 hl
    rcases beside_spec.1 ho with h1 | ⟨h1, h2, h3⟩
    · rcases f.own b B sh N (by unfold AH.live; rw [h1]; rfl) he with h4 | ⟨b₀, sh₀, N₀, h4, h5⟩
      · exact .inl (Nat.le_trans f₀.size h4)
      · unfold AH.live at h4
        obtain ⟨o', ho'⟩ := Option.isSome_iff_exists.1 h4
        exact f₀.own _ _ _ _ (hs _ o' ho') h5
    · obtain ⟨B₁, sh₁, N₁, e1, _⟩ := r.obj b o h3
      have q1 := f.le.blk _ _ e1
      rw [he] at q1
      obtain ⟨rfl, rfl, rfl⟩ : B = B₁ ∧ sh = sh₁ ∧ N = N₁ := by simpa using q1
      exact f₀.own b B sh N (by rw [h3]; rfl) e1
end
end Go.Ax
