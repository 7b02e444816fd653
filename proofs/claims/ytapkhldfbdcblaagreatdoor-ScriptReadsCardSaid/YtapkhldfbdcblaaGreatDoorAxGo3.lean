/- An abstract executor, staged, third part: each operation, lists of operations, regions. -/
import Derived.Test.YtapkhldfbdcblaaGreatDoorAxGo2
set_option linter.unusedSectionVars false
set_option linter.unnecessarySimpa false
set_option linter.unusedSimpArgs false
set_option linter.unusedVariables false
namespace Go.Ax
noncomputable section
variable {P : Program}

def moveV (x : Operand) : Box VB := ⟨fun T _ k _ => obB ((evB x).f T) k⟩
def pickV (c a b : Operand) : Box VB := ⟨fun T _ k _ => obB ((evB c).f T) fun c => boolK c fun c => Bool.rec (motive := fun _ => Bool) (obB ((evB b).f T) k) (obB ((evB a).f T) k) c⟩
def loadV (P : Program) (t : TypeId) (a : Operand) : Box VB := ⟨fun T h k z => obB ((evB a).f T) fun x => (loadB P t).f x h k z⟩
def fieldV (P : Program) (s : TypeId) (x : Operand) (f : Nat) : Box VB := ⟨fun T _ k _ => obB ((evB x).f T) fun x => (fieldB P s f).f x k⟩
def binV (P : Program) (op : BinOp) (t : TypeId) (x y : Operand) : Box VB := ⟨fun T _ k z => obB ((evB x).f T) fun a => obB ((evB y).f T) fun b => (binB P op t).f a b k z⟩
def nilV (x : Operand) : Box VB := ⟨fun T _ k z => obB ((evB x).f T) fun x => valOf (nilCheckA x) k z⟩
def extractV (x : Operand) (i : Nat) : Box VB := ⟨fun T _ k z => obB ((evB x).f T) fun x => valOf (extractA x i) k z⟩
def slowV (P : Program) (t : TypeId) (f : OpF) : Box VB := ⟨fun T h k z => slowVal (f P t T h) k z⟩
/-- An operation's value, where it leaves the heap as it is. -/
def opVB (P : Program) (t : TypeId) (op : Op) : Box VB :=
  match op with
  | .move x => moveV x
  | .assign x => moveV x
  | .pick c a b => pickV c a b
  | .load t a => loadV P t a
  | .fieldAddr s x f => fieldV P s x f
  | .binOp op t x y _ => binV P op t x y
  | .nilCheck x => nilV x
  | .extract x i => extractV x i
  | op => slowV P t (opF op)
theorem valOf_bind1 (a : Option AV) (f : AV → Option ORes) (k : AV → Bool) (z : ORes → Bool) : valOf (bind1 a f) k z = obB a fun x => valOf (f x) k z := by cases a <;> rfl
theorem valOf_valO (a : Option AV) (k : AV → Bool) (z : ORes → Bool) : valOf (valO a) k z = obB a k := by cases a <;> rfl
theorem opVB_eq (t : TypeId) (op : Op) (T : PM AV) (h : AH) (k : AV → Bool) (z : ORes → Bool) : (opVB P t op).f T h k z = valOf (opF op P t T h) k z := by
  cases op <;> simp only [opVB, slowV, slowVal_eq]
  case move x => simp only [moveV, evB_eq, opF, oMove, valOf_valO]
  case assign x => simp only [moveV, evB_eq, opF, oMove, valOf_valO]
  case pick c a b =>
    simp only [pickV, evB_eq, opF, oPick, pickO]
    cases evA T c with
    | none => rfl
    | some v =>
      simp only [obB_some, boolK_eq]
      cases v <;> try rfl
      rename_i b'
      cases b' <;> simp only [valOf_valO]
  case load t' a => simp only [loadV, evB_eq, opF, oLoad, valOf_bind1, loadB_eq]
  case fieldAddr s x f =>
    simp only [fieldV, evB_eq, opF, oFieldAddr, valOf_bind1]
    cases evA T x with
    | none => rfl
    | some a => exact fieldB_eq s f a k z
  case nilCheck x => simp only [nilV, evB_eq, opF, oNilCheck, valOf_bind1]
  case extract x i => simp only [extractV, evB_eq, opF, oExtract, valOf_bind1]
  case binOp op t' x y p =>
    simp only [binV, evB_eq, opF, oBin, bind2]
    cases evA T x with
    | none => rfl
    | some a =>
      simp only [obB_some]
      cases evA T y with
      | none => rfl
      | some b => simp only [obB_some, binB_eq]

abbrev OB := Rec → PM AV → AH → (AV → AH → Bool) → Bool
def cellsZ (h : AH) (b : Pos) (k : List AV → Bool) (z : Bool) : Bool :=
  Option.rec (motive := fun _ => Bool) z (fun o => AObj.rec (motive := fun _ => (List AV → Bool) → Bool → Bool) (fun cs k _ => k cs) (fun _ _ _ z => z) (fun _ _ _ _ _ z => z) (fun _ _ z => z) (fun _ z => z) o k z) (h.m.get b)
def applyB (r : ORes) (h : AH) (k : AV → AH → Bool) : Bool :=
  ORes.rec (motive := fun _ => AH → (AV → AH → Bool) → Bool) (fun v h k => fV v fun v => k v h) (fun b i vs v h k => cellsZ h b (fun cs => fV v fun v => storesK vs i h b cs fun h => k v h) (k v h))
    (fun o kd h k => fV (kd.av h.nx) fun v => pushK h o fun h => k v h) (fun b o v h k => fV v fun v => setK h b o fun h => k v h) (fun b cs kd h k => fV (kd.av h.nx) fun v => dropK h b fun h => pushK h (.cells cs) fun h => k v h) r h k
theorem applyB_eq (r : ORes) (h : AH) (k : AV → AH → Bool) : applyB r h k = applyK r h k := by
  cases r with
  | val v => simp only [applyB, applyK, fV_eq, fVal_eq]
  | alloc o kd => simp only [applyB, applyK, fV_eq, fVal_eq]
  | obj b o v => simp only [applyB, applyK, fV_eq, fVal_eq]
  | renew b cs kd => simp only [applyB, applyK, fV_eq, fVal_eq]
  | stores b i vs v =>
    simp only [applyB, applyK, fV_eq, fVal_eq, cellsZ]
    cases h.m.get b with
    | none => rfl
    | some o => cases o <;> rfl
def resK (r : Option ORes) (h : AH) (k : AV → AH → Bool) : Bool := obB r fun r => applyB r h k
theorem resK_eq (r : Option ORes) (h : AH) (k : AV → AH → Bool) : resK r h k = match r with | some r => applyK r h k | none => false := by
  cases r with
  | none => rfl
  | some r => exact applyB_eq r h k

def opB (P : Program) (hk : Hook) (o : Oper) : Box OB :=
  Option.rec (motive := fun _ => Box OB) ⟨fun _ T h k => (opVB P o.type o.op).f T h (fun v => k v h) fun r => applyB r h k⟩ (fun c => ⟨fun rec T h k => callOpK P hk rec c T h k⟩) (isCall o)
theorem opB_eq (hk : Hook) (rec : Rec) (o : Oper) (T : PM AV) (h : AH) (k : AV → AH → Bool) : (opB P hk o).f rec T h k = operK P hk rec o T h k := by
  unfold opB operK
  cases isCall o with
  | some c => rfl
  | none =>
    simp only
    rw [opVB_eq]
    show valOf (opA P o T h) _ _ = _
    cases opA P o T h with
    | none => rfl
    | some r =>
      simp only [valOf, applyB_eq]
      cases r <;> simp only [applyK, fVal_eq]

abbrev SB := Rec → PM AV → AH → (PM AV → AH → Bool) → Bool
def goB (P : Program) (hk : Hook) (n : Nat) (all : Array Oper) (o : Oper) : Box SB :=
  Option.rec (motive := fun _ => Box SB) ⟨fun rec T h k => (opB P hk o).f rec T h fun v h => (setB n o.dst).f v T fun T => k T h⟩
    (fun _ => ⟨fun rec T h k => obB (wantedA all T o) fun w => Bool.rec (motive := fun _ => Bool) ((setB n o.dst).f .undef T fun T => k T h) ((opB P hk o).f rec T h fun v h => (setB n o.dst).f v T fun T => k T h) w⟩) o.guard
theorem goB_eq (hk : Hook) (rec : Rec) (n : Nat) (all : Array Oper) (o : Oper) (T : PM AV) (h : AH) (k : PM AV → AH → Bool) : (goB P hk n all o).f rec T h k = goOn (wantedA all T o) P hk rec n o T h k := by
  unfold goB
  cases hg : o.guard with
  | none =>
    have : wantedA all T o = some true := by unfold wantedA; rw [hg]
    rw [this]
    simp only [goOn, opB_eq, setB_eq]
  | some g =>
    simp only [opB_eq, setB_eq]
    cases wantedA all T o with
    | none => rfl
    | some w => cases w <;> rfl
def opsB (P : Program) (hk : Hook) (n : Nat) (all : Array Oper) (ops : List Oper) : Box SB :=
  List.rec (motive := fun _ => Box SB) ⟨fun _ T h k => k T h⟩ (fun o _ ih => ⟨fun rec T h k => (goB P hk n all o).f rec T h fun T h => ih.f rec T h k⟩) ops
theorem opsB_eq (hk : Hook) (rec : Rec) (n : Nat) (all : Array Oper) (ops : List Oper) : ∀ (T : PM AV) (h : AH) (k : PM AV → AH → Bool), (opsB P hk n all ops).f rec T h k = opsK P hk rec n all ops T h k := by
  induction ops with
  | nil => intro T h k; rfl
  | cons o ops ih =>
    intro T h k
    show (goB P hk n all o).f rec T h (fun T h => (opsB P hk n all ops).f rec T h k) = goOn (wantedA all T o) P hk rec n o T h fun T h => opsK P hk rec n all ops T h k
    simp only [goB_eq, ih]
abbrev QB := PM AV → AH → (PM AV → Bool) → Bool
def never : ORes → Bool := fun _ => false
def quiB (P : Program) (n : Nat) (all : Array Oper) (o : Oper) : Box QB :=
  Option.rec (motive := fun _ => Box QB) ⟨fun T h k => (opVB P o.type o.op).f T h (fun v => (setB n o.dst).f v T k) never⟩
    (fun _ => ⟨fun T h k => obB (wantedA all T o) fun w => Bool.rec (motive := fun _ => Bool) ((setB n o.dst).f .undef T k) ((opVB P o.type o.op).f T h (fun v => (setB n o.dst).f v T k) never) w⟩) o.guard
theorem quiB_eq (n : Nat) (all : Array Oper) (o : Oper) (T : PM AV) (h : AH) (k : PM AV → Bool) : (quiB P n all o).f T h k = quietOne (wantedA all T o) P n o T h k := by
  have one : (opVB P o.type o.op).f T h (fun v => (setB n o.dst).f v T k) never = (match opA P o T h with | some (.val v) => fVal v fun v => tputK n T o.dst v k | _ => false) := by
    rw [opVB_eq]
    show valOf (opA P o T h) _ _ = _
    unfold valOf
    simp only [setB_eq, fVal_eq]
    cases opA P o T h with
    | none => rfl
    | some r => cases r <;> rfl
  unfold quiB
  cases hg : o.guard with
  | none =>
    have : wantedA all T o = some true := by unfold wantedA; rw [hg]
    rw [this]
    exact one
  | some g =>
    show (obB (wantedA all T o) fun w => Bool.rec (motive := fun _ => Bool) ((setB n o.dst).f .undef T k) ((opVB P o.type o.op).f T h (fun v => (setB n o.dst).f v T k) never) w) = _
    generalize wantedA all T o = w
    cases w with
    | none => rfl
    | some w =>
      cases w with
      | true => exact one
      | false => exact setB_eq _ _ _ _ _
def quietB (P : Program) (n : Nat) (all : Array Oper) (ops : List Oper) : Box QB :=
  List.rec (motive := fun _ => Box QB) ⟨fun T _ k => k T⟩ (fun o _ ih => ⟨fun T h k => (quiB P n all o).f T h fun T => ih.f T h k⟩) ops
theorem quietB_eq (n : Nat) (all : Array Oper) (ops : List Oper) (h : AH) : ∀ (T : PM AV) (k : PM AV → Bool), (quietB P n all ops).f T h k = quietK P n all ops T h k := by
  induction ops with
  | nil => intro T k; rfl
  | cons o ops ih =>
    intro T k
    show (quiB P n all o).f T h (fun T => (quietB P n all ops).f T h k) = quietOne (wantedA all T o) P n o T h fun T => quietK P n all ops T h k
    simp only [quiB_eq, ih]
def regB (P : Program) (hk : Hook) (n : Nat) (ops : Array Oper) (draw : Bool) : Box SB :=
  Bool.rec (motive := fun _ => Box SB) (opsB P hk n ops ops.toList)
    (Bool.rec (motive := fun _ => Box SB) ⟨fun _ _ _ _ => false⟩ (Bool.rec (motive := fun _ => Box SB) ⟨fun rec T h k => drawG P hk rec n ops T h k⟩ ⟨fun _ T h k => (quietB P n ops ops.toList).f T h fun T => k T h⟩ (allQuiet ops)) (regionOK ops)) draw
theorem regB_eq (hk : Hook) (rec : Rec) (n : Nat) (ops : Array Oper) (draw : Bool) (T : PM AV) (h : AH) (k : PM AV → AH → Bool) :
    (regB P hk n ops draw).f rec T h k = bif draw then drawK P hk rec n ops T h k else opsK P hk rec n ops ops.toList T h k := by
  unfold regB drawK
  cases draw with
  | false => exact opsB_eq hk rec n ops ops.toList T h k
  | true =>
    cases regionOK ops with
    | false => rfl
    | true =>
      cases allQuiet ops with
      | false => rfl
      | true => exact quietB_eq n ops ops.toList h T _
end
end Go.Ax
