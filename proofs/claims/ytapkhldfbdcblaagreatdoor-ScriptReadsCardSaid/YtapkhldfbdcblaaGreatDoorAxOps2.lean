/- An abstract executor, sixth part: operators, conversions, slices. -/
import Derived.Test.YtapkhldfbdcblaaGreatDoorAxOps1
import Derived.Laws.Pointers
import Derived.Laws.Cover3
import Derived.Lib.SliceRun
set_option linter.unusedSectionVars false
set_option linter.unnecessarySimpa false
set_option linter.unusedSimpArgs false
set_option linter.unusedVariables false
namespace Go.Ax
noncomputable section
variable {P : Program}

def nilCheckA (x : AV) : Option ORes :=
  match x with
  | .ptr b o => some (.val (.ptr b o))
  | .func (.func f) a c => some (.val (.func (.func f) a c))
  | .yield b => some (.val (.yield b))
  | .iface t v => some (.val (.iface t v))
  | _ => none
theorem nilCheckA_ok {E : Env} {h : AH} {w : World} {a : Act} {o : Oper} {x : Operand} {y : AV} {r : ORes} (hx : VRel E y (a.eval x)) (ho : o.op = .nilCheck x) (e : nilCheckA y = some r) :
    ResOK E h w ((execOp a.eval o).run P w) r := by
  unfold nilCheckA at e
  simp only [execOp, ho]
  split at e
  · simp at e; subst e
    have hx' := hx
    simp only [VRel] at hx
    obtain ⟨B, sh, N, hb, hv⟩ := hx
    rw [hv] at hx' ⊢
    exact ⟨_, w, .inl rfl, hx', .refl w⟩
  · simp at e; subst e
    have hx' := hx
    simp only [VRel] at hx
    obtain ⟨va, vc, hv, _⟩ := hx
    rw [hv] at hx' ⊢
    exact ⟨_, w, .inl rfl, hx', .refl w⟩
  · simp at e; subst e
    have hx' := hx
    simp only [VRel] at hx
    obtain ⟨B, N, hb, hv⟩ := hx
    rw [hv] at hx' ⊢
    exact ⟨_, w, .inl rfl, hx', .refl w⟩
  · simp at e; subst e
    have hx' := hx
    simp only [VRel] at hx
    obtain ⟨y, hv, _⟩ := hx
    rw [hv] at hx' ⊢
    exact ⟨_, w, .inl rfl, hx', .refl w⟩
  · cases e

theorem intA_ok {op : BinOp} {k : IntKind} {a b : Int} {r : AV} (w : World) (E : Env) (e : intA op k a b = some r) (t : TypeId) :
    ∃ v, (binOp op t (.int k a) (.int k b)).run P w = .ok v w ∧ VRel E r v := by
  cases op <;> simp only [intA, Option.some.injEq, reduceCtorEq] at e
  case add => subst e; exact ⟨.int k (k.wrap (a + b)), by simp [binOp, Op.intArith], by simp only [VRel, wrapA_eq]; rfl⟩
  case sub => subst e; exact ⟨.int k (k.wrap (a - b)), by simp [binOp, Op.intArith], by simp only [VRel, wrapA_eq]; rfl⟩
  case mul => subst e; exact ⟨.int k (k.wrap (a * b)), by simp [binOp, Op.intArith], by simp only [VRel, wrapA_eq]; rfl⟩
  case quo =>
    rw [eqI_eq] at e
    cases hz : (b == Int.ofNat 0)
    · rw [hz] at e
      simp only [cond_false, Option.some.injEq] at e
      subst e
      have hb : b ≠ 0 := fun h0 => by rw [h0] at hz; simp at hz
      exact ⟨.int k (k.wrap (a.tdiv b)), by simp [binOp, Op.intDiv, hb], by simp only [VRel, wrapA_eq]⟩
    · rw [hz] at e; cases e
  case rem =>
    rw [eqI_eq] at e
    cases hz : (b == Int.ofNat 0)
    · rw [hz] at e
      simp only [cond_false, Option.some.injEq] at e
      subst e
      have hb : b ≠ 0 := fun h0 => by rw [h0] at hz; simp at hz
      exact ⟨.int k (a.tmod b), by simp [binOp, Op.intDiv, hb], by simp only [VRel]⟩
    · rw [hz] at e; cases e
  case and => subst e; exact ⟨.int k (bits .and k a b), by simp [binOp, intBits_and], by simp only [VRel, bitsA_eq]⟩
  case or => subst e; exact ⟨.int k (bits .or k a b), by simp [binOp, intBits_or], by simp only [VRel, bitsA_eq]⟩
  case xor => subst e; exact ⟨.int k (bits .xor k a b), by simp [binOp, intBits_xor], by simp only [VRel, bitsA_eq]⟩
  case andNot => subst e; exact ⟨.int k (bits .andNot k a b), by simp [binOp, intBits_andNot], by simp only [VRel, bitsA_eq]⟩
  case eql => subst e; exact ⟨.bool (a == b), by simp [binOp, Op.intCmp], by simp only [VRel, eqI_eq]⟩
  case neq => subst e; exact ⟨.bool (a != b), by simp [binOp, Op.intCmp], by simp only [VRel, eqI_eq]; rfl⟩
  case lss => subst e; exact ⟨.bool (a < b), by simp [binOp, Op.intCmp], by simp only [VRel, ltI_eq]⟩
  case leq =>
    subst e
    refine ⟨.bool (a ≤ b), by simp [binOp, Op.intCmp], ?_⟩
    simp only [VRel, ltI_eq]
    congr 1
    rw [Bool.eq_iff_iff]; simp
  case gtr => subst e; exact ⟨.bool (a > b), by simp [binOp, Op.intCmp], by simp only [VRel, ltI_eq]⟩
  case geq =>
    subst e
    refine ⟨.bool (a ≥ b), by simp [binOp, Op.intCmp], ?_⟩
    simp only [VRel, ltI_eq]
    congr 1
    rw [Bool.eq_iff_iff]; simp

theorem shiftA_ok {op : BinOp} {k yk : IntKind} {x y : Int} {r : AV} (w : World) (E : Env) (hop : op = .shl ∨ op = .shr) (e : shiftA op k x y = some r) (t : TypeId) :
    ∃ v, (binOp op t (.int k x) (.int yk y)).run P w = .ok v w ∧ VRel E r v := by
  unfold shiftA at e
  split at e
  · rename_i m
    have hm : ¬ ((m : Int) < 0) := by omega
    split at e
    · rename_i a
      simp at e; subst e
      refine ⟨.int k (k.wrap ((a : Int) * 2 ^ (min m k.bits))), ?_, ?_⟩
      · have : (binOp .shl t (.int k (Int.ofNat a)) (.int yk (Int.ofNat m))) = Op.shift .shl k (Int.ofNat a) yk (Int.ofNat m) := rfl
        rw [this]
        simp [Op.shift, hm]
      · simp only [VRel, wrapA_eq]
    · rename_i a
      simp at e; subst e
      refine ⟨.int k ((a : Int).fdiv (2 ^ (min m k.bits))), ?_, ?_⟩
      · have : (binOp .shr t (.int k (Int.ofNat a)) (.int yk (Int.ofNat m))) = Op.shift .shr k (Int.ofNat a) yk (Int.ofNat m) := rfl
        rw [this]
        simp [Op.shift, hm]
      · simp only [VRel]
        congr 1
        rw [Int.fdiv_eq_ediv_of_nonneg _ (Int.pow_nonneg (by decide))]
        show _ = ((a / 2 ^ (min m k.bits) : Nat) : Int)
        simp
    · cases e
  · cases e

theorem beq_unpack (la a lb b : Nat) : ((unpack la a).toList == (unpack lb b).toList) = strEq la a lb b := by
  rw [Bool.eq_iff_iff, beq_iff_eq, strEq_iff, unpack_toList, unpack_toList]

def strLt : Nat → Nat → Nat → Nat → Bool
  | _, _, 0, _ => false
  | 0, _, _ + 1, _ => true
  | la + 1, a, lb + 1, b => bif Nat.blt (Nat.mod a 256) (Nat.mod b 256) then true else bif Nat.beq (Nat.mod a 256) (Nat.mod b 256) then strLt la (Nat.div a 256) lb (Nat.div b 256) else false
theorem strLt_eq : ∀ (la a lb b : Nat), Op.bytesLess (unpackL la a) (unpackL lb b) = strLt la a lb b
  | _, _, 0, _ => by simp [unpackL, Op.bytesLess, strLt]
  | 0, _, lb + 1, _ => by simp [unpackL, Op.bytesLess, strLt]
  | la + 1, a, lb + 1, b => by
    simp only [unpackL, Op.bytesLess, strLt]
    rw [strLt_eq la (a / 256) lb (b / 256)]
    have h1 : decide (UInt8.ofNat (a % 256) < UInt8.ofNat (b % 256)) = Nat.blt (Nat.mod a 256) (Nat.mod b 256) := by
      rw [Bool.eq_iff_iff, decide_eq_true_eq, Nat.blt_eq, UInt8.lt_iff_toNat_lt]
      show (UInt8.ofNat (a % 256)).toNat < (UInt8.ofNat (b % 256)).toNat ↔ a % 256 < b % 256
      simp
    have h2 : (UInt8.ofNat (a % 256) == UInt8.ofNat (b % 256)) = Nat.beq (Nat.mod a 256) (Nat.mod b 256) := by
      rw [Bool.eq_iff_iff, beq_iff_eq, Nat.beq_eq]
      constructor
      · intro h
        have := congrArg UInt8.toNat h
        have h' : a % 256 = b % 256 := by simpa using this
        exact h'
      · intro h
        have h' : a % 256 = b % 256 := h
        rw [h']
    rw [h1, h2]
    show (_ || _ && strLt la (Nat.div a 256) lb (Nat.div b 256)) = _
    cases Nat.blt (Nat.mod a 256) (Nat.mod b 256) <;> cases Nat.beq (Nat.mod a 256) (Nat.mod b 256) <;> simp

def strA (op : BinOp) (la a lb b : Nat) : Option AV :=
  match op with
  | .add => bif Nat.ble (la + lb) 1048576 then some (.str (la + lb) (Nat.add (Nat.mod a (Nat.pow 256 la)) (Nat.mul (Nat.pow 256 la) b))) else none
  | .eql => some (.bool (strEq la a lb b))
  | .neq => some (.bool (!strEq la a lb b))
  | .lss => some (.bool (strLt la a lb b))
  | .leq => some (.bool (strLt la a lb b || strEq la a lb b))
  | .gtr => some (.bool (!(strLt la a lb b || strEq la a lb b)))
  | .geq => some (.bool (!strLt la a lb b))
  | _ => none
theorem strA_ok {op : BinOp} {la a lb b : Nat} {r : AV} (w : World) (E : Env) (e : strA op la a lb b = some r) (t : TypeId) :
    ∃ v, (binOp op t (.string (unpack la a)) (.string (unpack lb b))).run P w = .ok v w ∧ VRel E r v := by
  have hl : Op.bytesLess (unpack la a).toList (unpack lb b).toList = strLt la a lb b := by rw [unpack_toList, unpack_toList, strLt_eq]
  have key : (binOp op t (.string (unpack la a)) (.string (unpack lb b))) = Op.stringOp op (unpack la a) (unpack lb b) := by cases op <;> rfl
  rw [key]
  cases op <;> simp only [strA, Option.some.injEq, reduceCtorEq] at e
  case add =>
    cases hb : Nat.ble (la + lb) 1048576 <;> simp [hb] at e
    subst e
    have hle := Nat.le_of_ble_eq_true hb
    refine ⟨_, run_string_add_sum w _ _ (by rw [unpack_size, unpack_size]; omega), ?_⟩
    simp only [VRel]
    rw [unpack_append]; rfl
  case eql => subst e; exact ⟨.bool (strEq la a lb b), by simp only [Op.stringOp, beq_unpack, Sem.run_pure], by simp only [VRel]⟩
  case neq => subst e; exact ⟨.bool (!strEq la a lb b), by simp only [Op.stringOp, beq_unpack, Sem.run_pure], by simp only [VRel]⟩
  case lss => subst e; exact ⟨.bool (strLt la a lb b), by simp only [Op.stringOp, hl, Sem.run_pure], by simp only [VRel]⟩
  case leq => subst e; exact ⟨.bool (strLt la a lb b || strEq la a lb b), by simp only [Op.stringOp, hl, beq_unpack, Sem.run_pure], by simp only [VRel]⟩
  case gtr => subst e; exact ⟨.bool (!(strLt la a lb b || strEq la a lb b)), by simp only [Op.stringOp, hl, beq_unpack, Sem.run_pure], by simp only [VRel]⟩
  case geq => subst e; exact ⟨.bool (!strLt la a lb b), by simp only [Op.stringOp, hl, Sem.run_pure], by simp only [VRel]⟩

/-! equality of structs, field by field -/
def eqFieldsA (P : Program) (xs ys : List AV) : List Field → Option Bool
  | [] => some true
  | f :: fs =>
    bif f.name == "_" then none else
    match partA P f.type xs f.offset, partA P f.type ys f.offset, P.underlying f.type with
    | some (.int k a), some (.int k' b), some (.int _) => bif decide (k = k') then (bif eqI a b then eqFieldsA P xs ys fs else some false) else none
    | some (.bool a), some (.bool b), some .bool => bif a == b then eqFieldsA P xs ys fs else some false
    | some (.str la a), some (.str lb b), some .string => bif strEq la a lb b then eqFieldsA P xs ys fs else some false
    | _, _, _ => none
theorem eqFieldsA_ok {E : Env} {w : World} {xs ys : List AV} {us vs : Array Value} (hx : VRelL E xs us.toList) (hy : VRelL E ys vs.toList) : ∀ {fs : List Field} {b : Bool}, eqFieldsA P xs ys fs = some b →
    ∀ d, (Op.eqFields (d + 1) us vs fs).run P w = .ok b w
  | [], b, e, d => by simp [eqFieldsA] at e; subst e; simp [Op.eqFields]
  | f :: fs, b, e, d => by
    simp only [eqFieldsA] at e
    cases hn : (f.name == "_")
    · simp only [hn, cond_false] at e
      have hne : f.name ≠ "_" := by simpa using hn
      split at e
      · rename_i k a k' b' kk h1 h2 hu
        obtain ⟨u1, r1, v1⟩ := partA_ok (w := w) hx h1
        obtain ⟨u2, r2, v2⟩ := partA_ok (w := w) hy h2
        simp only [VRel] at v1 v2
        subst v1 v2
        cases hk : decide (k = k')
        · simp [hk] at e
        · simp only [hk, cond_true] at e
          have hk' : k = k' := by simpa using hk
          subst hk'
          simp only [Op.eqFields, hne, ne_eq, not_false_eq_true, if_true, Sem.run_bind, r1, r2, Result.andThen_ok, run_equalIn_int w d f.type k kk a b' hu]
          rw [eqI_eq] at e
          cases hb : (a == b')
          · simp [hb] at e; subst e; simp
          · simp only [hb, cond_true] at e
            simp only [Bool.not_true, Bool.false_eq_true, if_false]
            exact eqFieldsA_ok hx hy e d
      · rename_i a b' h1 h2 hu
        obtain ⟨u1, r1, v1⟩ := partA_ok (w := w) hx h1
        obtain ⟨u2, r2, v2⟩ := partA_ok (w := w) hy h2
        simp only [VRel] at v1 v2
        subst v1 v2
        simp only [Op.eqFields, hne, ne_eq, not_false_eq_true, if_true, Sem.run_bind, r1, r2, Result.andThen_ok, run_equalIn_bool' w d f.type a b' hu]
        cases hb : (a == b')
        · simp [hb] at e; subst e; simp
        · simp only [hb, cond_true] at e
          simp only [Bool.not_true, Bool.false_eq_true, if_false]
          exact eqFieldsA_ok hx hy e d
      · rename_i la a lb b' h1 h2 hu
        obtain ⟨u1, r1, v1⟩ := partA_ok (w := w) hx h1
        obtain ⟨u2, r2, v2⟩ := partA_ok (w := w) hy h2
        simp only [VRel] at v1 v2
        subst v1 v2
        simp only [Op.eqFields, hne, ne_eq, not_false_eq_true, if_true, Sem.run_bind, r1, r2, Result.andThen_ok, run_equalIn_string w d f.type _ _ hu, beq_unpack]
        cases hb : strEq la a lb b'
        · simp [hb] at e; subst e; simp
        · simp only [hb, cond_true] at e
          simp only [Bool.not_true, Bool.false_eq_true, if_false]
          exact eqFieldsA_ok hx hy e d
      · cases e
    · simp [hn] at e

/-- Is a value the nil of its kind? (pointers, slices, maps, functions against nil) -/
def nilA : AV → Option Bool
  | .nilp | .nils | .nilm | .nilFunc => some true
  | .ptr _ _ | .slice _ _ _ _ _ | .map _ | .func _ _ _ | .yield _ => some false
  | _ => none

def eqA (P : Program) (t : TypeId) (x y : AV) : Option Bool :=
  match x, y with
  | .bool a, .bool b => match P.underlying t with | some .bool => some (a == b) | _ => none
  | .nilp, .nilp => match P.underlying t with | some (.pointer _) => some true | _ => none
  | .ptr _ _, .nilp => match P.underlying t with | some (.pointer _) => some false | _ => none
  | .nilp, .ptr _ _ => match P.underlying t with | some (.pointer _) => some false | _ => none
  | .nils, .nils => match P.underlying t with | some (.slice _) => some true | _ => none
  | .slice _ _ _ _ _, .nils => match P.underlying t with | some (.slice _) => some false | _ => none
  | .nilm, .nilm => match P.underlying t with | some (.map _ _) => some true | _ => none
  | .map _, .nilm => match P.underlying t with | some (.map _ _) => some false | _ => none
  | .nilFunc, .nilFunc => match P.underlying t with | some (.func _ _ _) => some true | _ => none
  | .func _ _ _, .nilFunc => match P.underlying t with | some (.func _ _ _) => some false | _ => none
  | .agg cs, .agg ds => match P.underlying t with
    | some (.struct fs) => bif P.stoodInHeld t || P.eqGuardType P.depth t then none else eqFieldsA P cs ds fs.toList
    | _ => none
  | _, _ => none

theorem eqIn_ptr (w : World) (d : Nat) {t e : TypeId} (h : P.underlying t = some (.pointer e)) (p q : Option Addr) (hq : p = none ∨ q = none) :
    (Op.equalIn (d + 1) t (.pointer p) (.pointer q)).run P w = .ok (p.isNone && q.isNone) w := by
  simp only [Op.equalIn, Sem.run_bind, run_underlying h, Result.andThen_ok]
  cases p <;> cases q <;> simp_all
theorem eqIn_slice (w : World) (d : Nat) {t e : TypeId} (h : P.underlying t = some (.slice e)) (p : Option Addr) (l c : Nat) :
    (Op.equalIn (d + 1) t (.slice p l c) (.slice none 0 0)).run P w = .ok p.isNone w := by
  simp only [Op.equalIn, Sem.run_bind, run_underlying h, Result.andThen_ok]
  cases p <;> simp
theorem eqIn_map (w : World) (d : Nat) {t k e : TypeId} (h : P.underlying t = some (.map k e)) (p : Option Nat) :
    (Op.equalIn (d + 1) t (.map p) (.map none)).run P w = .ok p.isNone w := by
  simp only [Op.equalIn, Sem.run_bind, run_underlying h, Result.andThen_ok]
  cases p <;> simp
theorem eqIn_nilFunc (w : World) (d : Nat) {t : TypeId} {a b : Array TypeId} {c : Bool} (h : P.underlying t = some (.func a b c)) :
    (Op.equalIn (d + 1) t .nilFunc .nilFunc).run P w = .ok true w := by
  simp only [Op.equalIn, Sem.run_bind, run_underlying h, Result.andThen_ok]
  simp
theorem eqIn_func (w : World) (d : Nat) {t : TypeId} {a b : Array TypeId} {c : Bool} (h : P.underlying t = some (.func a b c)) (fn : Fn) (x y : Array Value) :
    (Op.equalIn (d + 1) t (.func fn x y) .nilFunc).run P w = .ok false w := by
  simp only [Op.equalIn, Sem.run_bind, run_underlying h, Result.andThen_ok]
  simp

/-- Two values held against each other: no guard speaks, the comparison goes on by 'equal'. -/
def EqOK (P : Program) (w : World) (t : TypeId) (u v : Value) (b : Bool) : Prop :=
  (Op.equal t u v).run P w = .ok b w ∧ (∀ (op : BinOp) (p q : Operand), (eqGuard op t p q u v).run P w = .ok () w) ∧
    binOp .eql t u v = (do pure (.bool (← Op.equal t u v))) ∧ binOp .neq t u v = (do pure (.bool (!(← Op.equal t u v))))
theorem guard_ptr {w : World} (op : BinOp) (t : TypeId) (p q : Operand) (a b : Option Addr) : (eqGuard op t p q (.pointer a) (.pointer b)).run P w = .ok () w := by cases op <;> simp [eqGuard]

theorem eqA_ok {E : Env} {t : TypeId} {x y : AV} {u v : Value} {b : Bool} (w : World) (hx : VRel E x u) (hy : VRel E y v) (e : eqA P t x y = some b) : EqOK P w t u v b := by
  unfold eqA at e
  split at e
  · simp only [VRel] at hx hy
    subst hx hy
    split at e
    · rename_i hu
      simp at e; subst e
      exact ⟨run_equalIn_bool w 9999 t _ _ hu, fun op p q => by cases op <;> simp [eqGuard], rfl, rfl⟩
    · cases e
  · simp only [VRel] at hx hy
    subst hx hy
    split at e
    · rename_i hu
      simp at e; subst e
      exact ⟨eqIn_ptr w 9999 hu none none (.inl rfl), fun op p q => guard_ptr .., rfl, rfl⟩
    · cases e
  · simp only [VRel] at hx hy
    obtain ⟨B, sh, N, _, rfl⟩ := hx
    subst hy
    split at e
    · rename_i hu
      simp at e; subst e
      exact ⟨eqIn_ptr w 9999 hu _ none (.inr rfl), fun op p q => guard_ptr .., rfl, rfl⟩
    · cases e
  · simp only [VRel] at hx hy
    obtain ⟨B, sh, N, _, rfl⟩ := hy
    subst hx
    split at e
    · rename_i hu
      simp at e; subst e
      exact ⟨eqIn_ptr w 9999 hu none _ (.inl rfl), fun op p q => guard_ptr .., rfl, rfl⟩
    · cases e
  · simp only [VRel] at hx hy
    subst hx hy
    split at e
    · rename_i hu
      simp at e; subst e
      exact ⟨eqIn_slice w 9999 hu none 0 0, fun op p q => by cases op <;> simp [eqGuard], rfl, rfl⟩
    · cases e
  · simp only [VRel] at hx hy
    obtain ⟨B, sh, N, c, _, rfl, _⟩ := hx
    subst hy
    split at e
    · rename_i hu
      simp at e; subst e
      exact ⟨eqIn_slice w 9999 hu _ _ _, fun op p q => by cases op <;> simp [eqGuard], rfl, rfl⟩
    · cases e
  · simp only [VRel] at hx hy
    subst hx hy
    split at e
    · rename_i hu
      simp at e; subst e
      exact ⟨eqIn_map w 9999 hu none, fun op p q => by cases op <;> simp [eqGuard], rfl, rfl⟩
    · cases e
  · simp only [VRel] at hx hy
    obtain ⟨B, N, _, rfl⟩ := hx
    subst hy
    split at e
    · rename_i hu
      simp at e; subst e
      exact ⟨eqIn_map w 9999 hu _, fun op p q => by cases op <;> simp [eqGuard], rfl, rfl⟩
    · cases e
  · simp only [VRel] at hx hy
    subst hx hy
    split at e
    · rename_i hu
      simp at e; subst e
      exact ⟨eqIn_nilFunc w 9999 hu, fun op p q => by cases op <;> simp [eqGuard], rfl, rfl⟩
    · cases e
  · simp only [VRel] at hx hy
    obtain ⟨va, vc, rfl, _⟩ := hx
    subst hy
    split at e
    · rename_i hu
      simp at e; subst e
      exact ⟨eqIn_func w 9999 hu _ _ _, fun op p q => by cases op <;> simp [eqGuard], rfl, rfl⟩
    · cases e
  · rename_i cs ds
    simp only [VRel] at hx hy
    obtain ⟨us, rfl, hus⟩ := hx
    obtain ⟨vs, rfl, hvs⟩ := hy
    split at e
    · rename_i fs hu
      cases hg : P.stoodInHeld t || P.eqGuardType P.depth t
      · simp only [hg, cond_false] at e
        simp only [Bool.or_eq_false_iff] at hg
        have hf : P.fieldsOf t = fs := by simp [Program.fieldsOf, hu]
        refine ⟨?_, fun op p q => run_eqGuard_agg w op t p q us vs hg.2, rfl, rfl⟩
        have h1 := run_equalIn_struct w 9999 t us vs (by rw [hf]; exact hu) hg.1
        rw [hf, eqFieldsA_ok hus hvs e 9998] at h1
        exact h1
      · simp [hg] at e
    · cases e
  · cases e

def binA (P : Program) (op : BinOp) (t : TypeId) (x y : AV) : Option ORes :=
  match x, y with
  | .int k a, .int k' b => match op with
    | .shl => match shiftA .shl k a b with | some r => some (.val r) | none => none
    | .shr => match shiftA .shr k a b with | some r => some (.val r) | none => none
    | op => bif decide (k = k') then (match intA op k a b with | some r => some (.val r) | none => none) else none
  | .str la a, .str lb b => match strA op la a lb b with | some r => some (.val r) | none => none
  | x, y => match op with
    | .eql => match eqA P t x y with | some b => some (.val (.bool b)) | none => none
    | .neq => match eqA P t x y with | some b => some (.val (.bool (!b))) | none => none
    | _ => none
theorem binA_ok {E : Env} {h : AH} {w : World} {op : BinOp} {t : TypeId} {p q : Operand} {x y : AV} {u v : Value} {r : ORes} (hx : VRel E x u) (hy : VRel E y v) (e : binA P op t x y = some r) :
    ResOK E h w ((do pure (Next.value (← (do eqGuard op t p q u v; binOp op t u v))) : Sem Next).run P w) r := by
  have intGuard : ∀ (k k' : IntKind) (a b : Int), (eqGuard op t p q (.int k a) (.int k' b)).run P w = .ok () w := fun k k' a b => by cases op <;> simp [eqGuard]
  have done : ∀ (av : AV) (z : Value), (eqGuard op t p q u v).run P w = .ok () w → (binOp op t u v).run P w = .ok z w → VRel E av z → r = .val av →
      ResOK E h w ((do pure (Next.value (← (do eqGuard op t p q u v; binOp op t u v))) : Sem Next).run P w) r := by
    intro av z h1 h2 h3 h4
    subst h4
    exact ⟨z, w, .inl (run_value (by simp [Sem.run_bind, h1, h2])), h3, .refl w⟩
  unfold binA at e
  split at e
  · rename_i k a k' b
    simp only [VRel] at hx hy
    subst hx hy
    split at e
    · split at e
      · rename_i rv hs
        simp at e
        obtain ⟨z, h1, h2⟩ := shiftA_ok (P := P) (yk := k') w E (.inl rfl) hs t
        exact done rv z (intGuard ..) h1 h2 e.symm
      · cases e
    · split at e
      · rename_i rv hs
        simp at e
        obtain ⟨z, h1, h2⟩ := shiftA_ok (P := P) (yk := k') w E (.inr rfl) hs t
        exact done rv z (intGuard ..) h1 h2 e.symm
      · cases e
    · cases hk : decide (k = k')
      · simp [hk] at e
      · simp only [hk, cond_true] at e
        have hk' : k = k' := by simpa using hk
        subst hk'
        split at e
        · rename_i rv hs
          simp at e
          obtain ⟨z, h1, h2⟩ := intA_ok (P := P) w E hs t
          exact done rv z (intGuard ..) h1 h2 e.symm
        · cases e
  · rename_i la a lb b
    simp only [VRel] at hx hy
    subst hx hy
    split at e
    · rename_i rv hs
      simp at e
      obtain ⟨z, h1, h2⟩ := strA_ok (P := P) w E hs t
      exact done rv z (by cases op <;> simp [eqGuard]) h1 h2 e.symm
    · cases e
  · split at e
    · split at e
      · rename_i b hb
        simp at e
        obtain ⟨h1, h2, h3, h4⟩ := eqA_ok w hx hy hb
        exact done (.bool b) (.bool b) (h2 ..) (by rw [h3]; simp [Sem.run_bind, h1]) (by simp only [VRel]) e.symm
      · cases e
    · split at e
      · rename_i b hb
        simp at e
        obtain ⟨h1, h2, h3, h4⟩ := eqA_ok w hx hy hb
        exact done (.bool (!b)) (.bool (!b)) (h2 ..) (by rw [h4]; simp [Sem.run_bind, h1]) (by simp only [VRel]) e.symm
      · cases e
    · cases e
end
end Go.Ax
