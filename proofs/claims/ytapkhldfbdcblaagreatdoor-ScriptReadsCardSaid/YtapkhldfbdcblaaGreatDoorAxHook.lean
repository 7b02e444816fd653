/- An abstract executor: what was proved from a heap of which nothing is known holds in every heap. -/
import Derived.Test.YtapkhldfbdcblaaGreatDoorAxGo4
set_option linter.unusedSectionVars false
set_option linter.unnecessarySimpa false
set_option linter.unusedSimpArgs false
set_option linter.unusedVariables false
namespace Go.Ax
noncomputable section
variable {P : Program}

def bare (nx : Pos) : AH := { m := .nil, nx }
def addAll (l : List (Pos × AObj)) (m : PM AObj) : PM AObj := l.foldl (fun m x => m.put x.1 (some x.2)) m
theorem addAll_get : ∀ (l : List (Pos × AObj)) (m : PM AObj) (p : Pos) (o : AObj), (addAll l m).get p = some o → (p, o) ∈ l ∨ m.get p = some o
  | [], m, p, o, h => .inr h
  | x :: l, m, p, o, h => by
    rcases addAll_get l _ p o h with h1 | h1
    · exact .inl (List.mem_cons_of_mem _ h1)
    · rw [PM.get_put] at h1
      by_cases e : x.1 = p
      · rw [if_pos e] at h1
        injection h1 with h1
        exact .inl (by rw [← e, ← h1]; exact List.mem_cons_self ..)
      · rw [if_neg e] at h1; exact .inr h1

/-- A function that was handed nothing that lies in the heap: what it has made comes beside what there was. -/
theorem SoundF.beside {f : FuncId} {args : List AV} {h h₁ : AH} {v : AV} (s : SoundF P f args (bare h.nx) v h₁) {l : List (Pos × AObj)} (hl : ∀ p o, (p, o) ∈ l → h₁.m.get p = some o) :
    SoundF P f args h v { m := addAll l h.m, nx := h₁.nx } := by
  intro E nn w us R hu hr kR
  have h0 : HRel E (bare h.nx) w := hr.f.sub (fun p o hp => by simp [bare, PM.get_nil] at hp) rfl
  refine s E nn w us R hu h0 fun E' u w' f hr' hv => ?_
  have hs : ∀ p o, (bare h.nx).m.get p = some o → (h.m.get p).isSome = true := fun p o hp => by simp [bare, PM.get_nil] at hp
  have hF : HRelF E h.m.get (bare h.nx).nx w := hr.f
  obtain ⟨b1, b2⟩ := hF.beside hs f hr'
  have f0 : FrF E h w E h.m.get (bare h.nx).nx w := ⟨.refl E, fun _ _ => rfl, Nat.le_refl _, Nat.le_refl _, rfl, rfl, rfl, fun _ _ _ => rfl, fun b B sh N l e => .inr ⟨b, sh, N, l, e⟩⟩
  have b3 := f0.beside hF hs f
  have sub : ∀ p o, (addAll l h.m).get p = some o → Ax.beside h.m.get (bare h.nx) h₁ p = some o := fun p o hp => by
    rw [beside_spec]
    rcases addAll_get l h.m p o hp with h1 | h1
    · exact .inl (hl p o h1)
    · exact .inr ⟨b2 p (PM.get_nil p) (by rw [h1]; rfl), PM.get_nil p, h1⟩
  exact kR E' u w' (b3.fr (h' := { m := addAll l h.m, nx := h₁.nx }) sub) (b1.sub sub rfl) hv

/-- A function that was handed nothing, and hands back nothing that lies in the heap: all stays. -/
theorem SoundF.stays {f : FuncId} {args : List AV} {h h₁ : AH} {v : AV} (s : SoundF P f args (bare h.nx) v h₁) (hv : ∀ E E' u, VRel E v u → VRel E' v u) : SoundF P f args h v h := by
  intro E nn w us R hu hr kR
  have h0 : HRel E (bare h.nx) w := hr.f.sub (fun p o hp => by simp [bare, PM.get_nil] at hp) rfl
  refine s E nn w us R hu h0 fun E' u w' f hr' hu' => ?_
  have none : ∀ b, ¬ (bare h.nx).live b := fun b hb => by unfold AH.live bare at hb; rw [PM.get_nil] at hb; cases hb
  have rest : ∀ B, B < w.heap.size → w'.heap[B]? = w.heap[B]? := fun B hB => f.rest B hB fun b _ _ hb => absurd hb (none b)
  refine kR E u w' ⟨.refl E, fun _ _ => rfl, Nat.le_refl _, f.size, f.os, f.tape, f.output, fun B hB _ => rest B hB, fun b B sh N l e => .inr ⟨b, sh, N, l, e⟩⟩ ⟨fun b o hb => ?_, hr.inj, hr.fresh, fun p B sh N hp => Nat.lt_of_lt_of_le (hr.below p B sh N hp) f.size⟩ (hv _ _ _ hu')
  obtain ⟨B, sh, N, h1, h2⟩ := hr.obj b o hb
  exact ⟨B, sh, N, h1, by rw [rest B (hr.below _ _ _ _ h1)]; exact h2⟩
end
end Go.Ax
