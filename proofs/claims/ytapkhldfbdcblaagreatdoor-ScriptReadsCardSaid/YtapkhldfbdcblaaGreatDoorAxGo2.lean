/- An abstract executor, staged, second part: operations, lists of operations, regions. -/
import Derived.Test.YtapkhldfbdcblaaGreatDoorAxGo1
set_option linter.unusedSectionVars false
set_option linter.unnecessarySimpa false
set_option linter.unusedSimpArgs false
set_option linter.unusedVariables false
namespace Go.Ax
noncomputable section
variable {P : Program}

/-! operations that leave the heap as it is -/
abbrev VB := PM AV → AH → (AV → Bool) → (ORes → Bool) → Bool
def nthK (o : Nat) (cs : List AV) (k : AV → Bool) : Bool :=
  Nat.rec (motive := fun _ => List AV → (AV → Bool) → Bool) (fun cs k => List.rec (motive := fun _ => Bool) false (fun c _ _ => k c) cs) (fun _ ih cs k => List.rec (motive := fun _ => Bool) false (fun _ cs _ => ih cs k) cs) o cs k
theorem nthK_eq (o : Nat) : ∀ (cs : List AV) (k : AV → Bool), nthK o cs k = obB cs[o]? k := by
  induction o with
  | zero => intro cs k; cases cs <;> rfl
  | succ o ih =>
    intro cs k
    cases cs with
    | nil => rfl
    | cons c cs => exact ih cs k
theorem ptrK_eq (x : AV) (k : Pos → Nat → Bool) : ptrK x k = match x with | .ptr b o => k b o | _ => false := by cases x <;> rfl
theorem boolK_eq (x : AV) (k : Bool → Bool) : boolK x k = match x with | .bool b => k b | _ => false := by cases x <;> rfl
theorem cellsK_eq (h : AH) (b : Pos) (k : List AV → Bool) : cellsK h b k = obB (cellsAt h b) k := by
  unfold cellsK cellsAt
  cases h.m.get b with
  | none => rfl
  | some o => cases o <;> rfl

def loadB (P : Program) (t : TypeId) : Box (AV → AH → (AV → Bool) → (ORes → Bool) → Bool) :=
  Option.rec (motive := fun _ => Box (AV → AH → (AV → Bool) → (ORes → Bool) → Bool)) ⟨fun x h k z => slowVal (loadA P h t x) k z⟩
    (fun g => Bool.rec (motive := fun _ => Box (AV → AH → (AV → Bool) → (ORes → Bool) → Bool)) ⟨fun x h k _ => ptrK x fun b o => cellsK h b fun cs => nthK o cs k⟩ ⟨fun x h k z => slowVal (loadA P h t x) k z⟩ g) (aggOf P t)
theorem loadB_eq (t : TypeId) (x : AV) (h : AH) (k : AV → Bool) (z : ORes → Bool) : (loadB P t).f x h k z = valOf (loadA P h t x) k z := by
  unfold loadB
  cases hg : aggOf P t with
  | none => exact slowVal_eq _ _ _
  | some g =>
    cases g with
    | true => exact slowVal_eq _ _ _
    | false =>
      simp only [ptrK_eq, cellsK_eq, nthK_eq]
      unfold loadA
      cases x <;> try rfl
      rename_i b o
      simp only [hg]
      cases cellsAt h b with
      | none => rfl
      | some cs =>
        simp only [obB_some]
        cases cs[o]? <;> rfl

def fieldOff (P : Program) (s : TypeId) (f : Nat) : Option Nat := match fieldAddrA P s (.ptr .one 0) f with | some (.val (.ptr _ d)) => some d | _ => none
def fieldB (P : Program) (s : TypeId) (f : Nat) : Box (AV → (AV → Bool) → Bool) :=
  Option.rec (motive := fun _ => Box (AV → (AV → Bool) → Bool)) ⟨fun _ _ => false⟩ (fun d => ⟨fun x k => ptrK x fun b o => fLit (Nat.add o d) fun o => k (.ptr b o)⟩) (fieldOff P s f)
theorem fieldB_eq (s : TypeId) (f : Nat) (x : AV) (k : AV → Bool) (z : ORes → Bool) : (fieldB P s f).f x k = valOf (fieldAddrA P s x f) k z := by
  have key : fieldOff P s f = match P.underlying s with
      | some (.struct fs) => match fs[f]? with
        | some fl => match sizeA P fl.type with
          | some n => bif Nat.beq n 0 then none else some fl.offset
          | none => none
        | none => none
      | _ => none := by
    unfold fieldOff fieldAddrA
    simp only
    split
    · rename_i d he
      split at he
      · rename_i fs hs
        split at he
        · rename_i fl hfl
          simp only [hs, hfl]
          split at he
          · rename_i n hn
            simp only [hn]
            cases hb : Nat.beq n 0 <;> simp [hb] at he ⊢
            omega
          · cases he
        · cases he
      · cases he
    · rename_i hno
      split
      · rename_i fs hs
        split
        · rename_i fl hfl
          split
          · rename_i n hn
            cases hb : Nat.beq n 0
            · exact absurd (by simp only [hs, hfl, hn, hb, cond_false]) (hno .one (0 + fl.offset))
            · rfl
          · rfl
        · rfl
      · rfl
  unfold fieldB
  rw [key]
  unfold fieldAddrA
  cases x <;> simp only [valOf]
  case ptr b o =>
    split
    · rename_i fs hs
      split
      · rename_i fl hfl
        split
        · rename_i n hn
          cases hb : Nat.beq n 0
          · simp only [hs, hfl, hn, hb, cond_false]; rfl
          · simp only [hs, hfl, hn, hb, cond_true]
        · rename_i hn; simp only [hs, hfl, hn]
      · rename_i hfl; simp only [hs, hfl]
    · rename_i hs
      cases hu : P.underlying s with
      | none => rfl
      | some d => cases d <;> first | rfl | exact absurd hu (hs _)
  all_goals (
    cases P.underlying s with
    | none => rfl
    | some d =>
      cases d <;> try rfl
      rename_i fs
      simp only
      cases fs[f]? with
      | none => rfl
      | some fl =>
        simp only
        cases sizeA P fl.type with
        | none => rfl
        | some n => simp only; cases Nat.beq n 0 <;> rfl)
end
end Go.Ax
