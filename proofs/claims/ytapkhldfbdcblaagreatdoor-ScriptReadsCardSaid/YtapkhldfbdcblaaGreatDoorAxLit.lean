/- An abstract executor: heaps written out, runs between two of them, and what was run once used as known. -/
import Derived.Test.YtapkhldfbdcblaaGreatDoorAxHook
set_option linter.unusedSectionVars false
set_option linter.unnecessarySimpa false
set_option linter.unusedSimpArgs false
set_option linter.unusedVariables false
namespace Go.Ax
noncomputable section
variable {P : Program}

abbrev Lit := List (Pos × AObj)
/-! short words for what is written out -/
namespace W
def i (n : Nat) : AV := .int .i64 (.ofNat n)
def j (n : Nat) : AV := .int .i64 (.negSucc n)
def y (n : Nat) : AV := .int .u8 (.ofNat n)
def u (n : Nat) : AV := .int .u32 (.ofNat n)
def l (n : Nat) : AV := .int .u64 (.ofNat n)
def s (a n : Nat) : AV := .str a n
def t : AV := .bool true
def f : AV := .bool false
def p (b o : Nat) : AV := .ptr b o
def np : AV := .nilp
def ns : AV := .nils
def nm : AV := .nilm
def ni : AV := .nilIface
def nf : AV := .nilFunc
def m (b : Nat) : AV := .map b
def a (b o n z : Nat) : AV := .slice b o n none z
def b (b o n c z : Nat) : AV := .slice b o n (some c) z
def z (b n : Nat) : AV := .slice0 b n
def g (cs : List AV) : AV := .agg cs
def x (q : Nat) (cs : List AV) : Pos × AObj := (q, .cells cs)
def e (k v : AV) (n : Nat) : AEnt := (k, v, n)
def q (k : Nat) (es : List AEnt) (c : Nat) : Pos × AObj := (k, .map es c)
end W

/-! comparing -/
def eqON : Option Nat → Option Nat → Bool
  | none, none => true
  | some a, some b => Nat.beq a b
  | _, _ => false
def eqP (p q : Pos) : Bool := Nat.beq p q
theorem eqP_ok {p q : Pos} (h : eqP p q = true) : p = q := Nat.eq_of_beq_eq_true h
def eqC (a b : AV) : Bool :=
  match a with
  | .bool x => match b with | .bool y => x == y | _ => false
  | .int k n => match b with | .int k' n' => decide (k = k') && eqI n n' | _ => false
  | .str a n => match b with | .str a' n' => Nat.beq a a' && Nat.beq n n' | _ => false
  | .nilp => match b with | .nilp => true | _ => false
  | .ptr p o => match b with | .ptr p' o' => eqP p p' && Nat.beq o o' | _ => false
  | .nils => match b with | .nils => true | _ => false
  | .slice p o l c z => match b with | .slice p' o' l' c' z' => (eqP p p' && Nat.beq o o') && ((Nat.beq l l' && Nat.beq z z') && eqON c c') | _ => false
  | .slice0 p z => match b with | .slice0 p' z' => eqP p p' && Nat.beq z z' | _ => false
  | .nilm => match b with | .nilm => true | _ => false
  | .map p => match b with | .map p' => eqP p p' | _ => false
  | .nilFunc => match b with | .nilFunc => true | _ => false
  | .nilIface => match b with | .nilIface => true | _ => false
  | .opq i => match b with | .opq j => Nat.beq i j | _ => false
  | _ => false
theorem eqON_ok {a b : Option Nat} (h : eqON a b = true) : a = b := by
  cases a <;> cases b <;> simp [eqON] at h ⊢
  exact h
theorem eqC_ok {a b : AV} (h : eqC a b = true) : a = b := by
  cases a <;> cases b <;> simp only [eqC, Bool.and_eq_true, Nat.beq_eq, beq_iff_eq, decide_eq_true_eq, Bool.false_eq_true, eqI_eq] at h <;> try rfl
  case bool.bool => rw [h]
  case int.int => rw [h.1, h.2]
  case str.str => rw [h.1, h.2]
  case ptr.ptr => rw [eqP_ok h.1, h.2]
  case slice.slice => rw [eqP_ok h.1.1, h.1.2, h.2.1.1, h.2.1.2, eqON_ok h.2.2]
  case slice0.slice0 => rw [eqP_ok h.1, h.2]
  case map.map => rw [eqP_ok h]
  case opq.opq => rw [h]
def eqCs : List AV → List AV → Bool
  | [], [] => true
  | a :: r, b :: s => eqC a b && eqCs r s
  | _, _ => false
theorem eqCs_ok : ∀ {a b : List AV}, eqCs a b = true → a = b
  | [], [], _ => rfl
  | [], _ :: _, h => by cases h
  | _ :: _, [], h => by cases h
  | a :: r, b :: s, h => by
    simp only [eqCs, Bool.and_eq_true] at h
    rw [eqC_ok h.1, eqCs_ok h.2]
/-- A value: of cells too. -/
def eqW (a b : AV) : Bool :=
  match a with
  | .agg cs => match b with | .agg ds => eqCs cs ds | _ => false
  | .tuple cs => match b with | .tuple ds => eqCs cs ds | _ => false
  | .iface t v => match b with | .iface t' v' => Nat.beq t t' && eqC v v' | _ => false
  | a => eqC a b
theorem eqW_ok {a b : AV} (h : eqW a b = true) : a = b := by
  cases a
  case agg => cases b <;> simp only [eqW, Bool.false_eq_true] at h; rw [eqCs_ok h]
  case tuple => cases b <;> simp only [eqW, Bool.false_eq_true] at h; rw [eqCs_ok h]
  case iface => cases b <;> simp only [eqW, Bool.false_eq_true, Bool.and_eq_true, Nat.beq_eq] at h; rw [h.1, eqC_ok h.2]
  all_goals exact eqC_ok h
def eqAs : List AV → List AV → Bool
  | [], [] => true
  | a :: r, b :: s => eqW a b && eqAs r s
  | _, _ => false
theorem eqAs_ok : ∀ {a b : List AV}, eqAs a b = true → a = b
  | [], [], _ => rfl
  | [], _ :: _, h => by cases h
  | _ :: _, [], h => by cases h
  | a :: r, b :: s, h => by
    simp only [eqAs, Bool.and_eq_true] at h
    rw [eqW_ok h.1, eqAs_ok h.2]
/-- A value that a function hands back: a tuple of values of cells too. -/
def eqR (a b : AV) : Bool :=
  match a with
  | .tuple cs => match b with | .tuple ds => eqAs cs ds | _ => false
  | a => eqW a b
theorem eqR_ok {a b : AV} (h : eqR a b = true) : a = b := by
  cases a
  case tuple => cases b <;> simp only [eqR, Bool.false_eq_true] at h; rw [eqAs_ok h]
  all_goals exact eqW_ok h
def eqEs : List AEnt → List AEnt → Bool
  | [], [] => true
  | (k, v, n) :: r, (k', v', n') :: s => ((eqW k k' && eqW v v') && Nat.beq n n') && eqEs r s
  | _, _ => false
theorem eqEs_ok : ∀ {a b : List AEnt}, eqEs a b = true → a = b
  | [], [], _ => rfl
  | [], _ :: _, h => by cases h
  | _ :: _, [], h => by cases h
  | (k, v, n) :: r, (k', v', n') :: s, h => by
    simp only [eqEs, Bool.and_eq_true, Nat.beq_eq] at h
    obtain ⟨⟨⟨h1, h2⟩, rfl⟩, h3⟩ := h
    rw [eqW_ok h1, eqW_ok h2, eqEs_ok h3]
def eqO (a b : AObj) : Bool :=
  match a with
  | .cells cs => match b with | .cells ds => eqAs cs ds | _ => false
  | .map es c => match b with | .map ds d => eqEs es ds && Nat.beq c d | _ => false
  | _ => false
theorem eqO_ok {a b : AObj} (h : eqO a b = true) : a = b := by
  cases a
  case cells => cases b <;> simp only [eqO, Bool.false_eq_true] at h; rw [eqAs_ok h]
  case map => cases b <;> simp only [eqO, Bool.false_eq_true, Bool.and_eq_true, Nat.beq_eq] at h; rw [eqEs_ok h.1, h.2]
  all_goals cases h

/-- All that is written out lies in the heap. -/
def subK (l : Lit) (m : PM AObj) : Bool :=
  match l with
  | [] => true
  | (p, o) :: r => match m.get p with
    | some o' => eqO o o' && subK r m
    | none => false
theorem subK_ok : ∀ {l : Lit} {m : PM AObj}, subK l m = true → ∀ p o, (p, o) ∈ l → m.get p = some o
  | [], _, _, _, _, h => by cases h
  | (q, x) :: r, m, h, p, o, hm => by
    unfold subK at h
    split at h
    · rename_i o' ho'
      simp only [Bool.and_eq_true] at h
      rcases List.mem_cons.1 hm with e | hm
      · injection e with e1 e2
        rw [e1, e2, ho', eqO_ok h.1]
      · exact subK_ok h.2 p o hm
    · cases h
theorem subK_get {l : Lit} {m : PM AObj} (h : subK l m = true) : ∀ p o, (addAll l PM.nil).get p = some o → m.get p = some o := fun p o hp => by
  rcases addAll_get l _ p o hp with h1 | h1
  · exact subK_ok h p o h1
  · rw [PM.get_nil] at h1; cases h1

def fKey (p : Pos) (k : Pos → Bool) : Bool := fNat p k
theorem fKey_eq (p : Pos) (k : Pos → Bool) : fKey p k = k p := rfl
/-- A heap, built from what is written out. -/
def buildK (l : Lit) (m : PM AObj) (k : PM AObj → Bool) : Bool :=
  match l with
  | [] => k m
  | (p, o) :: r => fKey p fun p => fObj o fun o => m.putK p (some o) fun m => buildK r m k
theorem buildK_eq : ∀ (l : Lit) (m : PM AObj) (k : PM AObj → Bool), buildK l m k = k (addAll l m)
  | [], _, _ => rfl
  | (p, o) :: r, m, k => by
    unfold buildK
    rw [fKey_eq, fObj_eq, PM.putK_eq, buildK_eq r]
    rfl

structure Chunk where
  f : FuncId
  args : List AV
  nx : Nat
  pre : Lit
  v : AV
  nx' : Nat
  post : Lit
def Chunk.ok (P : Program) (c : Chunk) : Prop := Callable P c.f ∧ SoundF P c.f c.args { m := addAll c.pre .nil, nx := c.nx } c.v { m := addAll c.post .nil, nx := c.nx' }

theorem SoundF.weak {f : FuncId} {args : List AV} {h h₁ h₂ h₃ : AH} {v : AV} (s : SoundF P f args h₁ v h₂) (hs : ∀ p o, h₁.m.get p = some o → h.m.get p = some o) (hn : h₁.nx = h.nx)
    (hs' : ∀ p o, h₃.m.get p = some o → h₂.m.get p = some o) (hn' : h₃.nx = h₂.nx) : SoundF P f args h v h₃ := by
  intro E nn w us R hu hr kR
  have live : ∀ b, h₁.live b → h.live b := fun b l => by
    unfold AH.live at l ⊢
    obtain ⟨o, ho⟩ := Option.isSome_iff_exists.1 l
    rw [hs b o ho]; rfl
  have live' : ∀ b, h₃.live b → h₂.live b := fun b l => by
    unfold AH.live at l ⊢
    obtain ⟨o, ho⟩ := Option.isSome_iff_exists.1 l
    rw [hs' b o ho]; rfl
  have h0 : HRel E h₁ w := hr.f.sub hs hn
  refine s E nn w us R hu h0 fun E' u w' f hr' hv => ?_
  refine kR E' u w' ⟨f.le, fun p hp => f.old p (by rw [hn]; exact hp), by rw [← hn, hn']; exact f.nx, f.size, f.os, f.tape, f.output, fun B hB hne => f.rest B hB fun b sh N l => hne b sh N (live b l), fun b B sh N l e => ?_⟩ (hr'.f.sub hs' hn') hv
  rcases f.own b B sh N (live' b l) e with h1 | ⟨b₀, sh₀, N₀, h1, h2⟩
  · exact .inl h1
  · exact .inr ⟨b₀, sh₀, N₀, live b₀ h1, h2⟩

/-- What was run once is known. -/
def useK (c : Chunk) : Hook := fun f args h k z =>
  bif Nat.beq f c.f then (bif Nat.beq h.nx c.nx then (bif eqAs args c.args then (bif subK c.pre h.m then fVal c.v fun v => buildK c.post .nil fun m => fNat c.nx' fun n => k v ⟨m, n⟩ else z) else z) else z) else z
theorem useK_ok {c : Chunk} (hc : c.ok P) : HookOK P (useK c) := by
  intro f args h k z e
  unfold useK at e
  cases h1 : Nat.beq f c.f with
  | false => rw [h1] at e; exact .inr e
  | true =>
    cases h2 : Nat.beq h.nx c.nx with
    | false => rw [h1, h2] at e; exact .inr e
    | true =>
      cases h3 : eqAs args c.args with
      | false => rw [h1, h2, h3] at e; exact .inr e
      | true =>
        cases h4 : subK c.pre h.m with
        | false => rw [h1, h2, h3, h4] at e; exact .inr e
        | true =>
          rw [h1, h2, h3, h4] at e
          simp only [cond_true, fVal_eq, buildK_eq, fNat_eq] at e
          have e1 := Nat.eq_of_beq_eq_true h1
          have e2 := Nat.eq_of_beq_eq_true h2
          have e3 := eqAs_ok h3
          subst e1 e3
          exact .inl ⟨c.v, _, e, hc.1, hc.2.weak (subK_get h4) e2.symm (fun _ _ h => h) rfl⟩
/-- One known thing behind the other. -/
def orK (a b : Hook) : Hook := fun f args h k z => a f args h k (b f args h k z)
theorem orK_ok {a b : Hook} (ha : HookOK P a) (hb : HookOK P b) : HookOK P (orK a b) := fun f args h k z e => by
  rcases ha _ _ _ _ _ e with h1 | h1
  · exact .inl h1
  · exact hb _ _ _ _ _ h1
theorem noHook_ok : HookOK P noHook := fun _ _ _ _ _ e => .inr e

/-- A run between two heaps that are written out. -/
def runK (P : Program) (hk : Hook) (d : Nat) (c : Chunk) : Bool :=
  fAggs c.args fun args => fNat c.nx fun nx => buildK c.pre .nil fun m => runB P hk d c.f args ⟨m, nx⟩ fun v h => (eqR v c.v && Nat.beq h.nx c.nx') && subK c.post h.m
theorem runK_ok (hm : P.follows .mixedOrders = true) {hk : Hook} (hh : HookOK P hk) {d : Nat} {c : Chunk} (e : runK P hk d c = true) : c.ok P := by
  unfold runK at e
  rw [fAggs_eq, fNat_eq, buildK_eq] at e
  obtain ⟨v, h', e1, hc, s⟩ := runB_ok hm hh e
  simp only [Bool.and_eq_true] at e1
  obtain ⟨⟨e2, e3⟩, e4⟩ := e1
  have e5 := eqR_ok e2
  have e3 := Nat.eq_of_beq_eq_true e3
  subst e5
  exact ⟨hc, s.weak (fun _ _ h => h) rfl (subK_get e4) e3.symm⟩

/-- A function that was handed nothing, and hands back nothing that lies in the heap: all stays, wherever the keys stand. -/
theorem SoundF.stays' {f : FuncId} {args : List AV} {n : Nat} {h h₁ : AH} {v : AV} (s : SoundF P f args (bare n) v h₁) (ha : ∀ E E' us, E'.opq = E.opq → VRelL E args us → VRelL E' args us)
    (hv : ∀ E E' u, E'.opq = E.opq → VRel E v u → VRel E' v u) : SoundF P f args h v h := by
  intro E nn w us R hu hr kR
  let E0 : Env := { blk := fun _ => none, opq := E.opq, opqCell := E.opqCell }
  have h0 : HRel E0 (bare n) w := ⟨fun p o hp => by simp [bare, PM.get_nil] at hp, fun b b' B sh N sh' N' l _ _ _ => (by unfold AH.live bare at l; rw [PM.get_nil] at l; cases l), fun _ _ => rfl, fun p B sh N hp => (by cases hp)⟩
  refine s E0 nn w us R (ha E E0 us rfl hu) h0 fun E' u w' f hr' hu' => ?_
  have none : ∀ b, ¬ (bare n).live b := fun b hb => by unfold AH.live bare at hb; rw [PM.get_nil] at hb; cases hb
  have rest : ∀ B, B < w.heap.size → w'.heap[B]? = w.heap[B]? := fun B hB => f.rest B hB fun b _ _ hb => absurd hb (none b)
  refine kR E u w' ⟨.refl E, fun _ _ => rfl, Nat.le_refl _, f.size, f.os, f.tape, f.output, fun B hB _ => rest B hB, fun b B sh N l e => .inr ⟨b, sh, N, l, e⟩⟩ ⟨fun b o hb => ?_, hr.inj, hr.fresh, fun p B sh N hp => Nat.lt_of_lt_of_le (hr.below p B sh N hp) f.size⟩
    (hv E' E u f.le.opq.symm hu')
  obtain ⟨B, sh, N, h1, h2⟩ := hr.obj b o hb
  exact ⟨B, sh, N, h1, by rw [rest B (hr.below _ _ _ _ h1)]; exact h2⟩
end
end Go.Ax
