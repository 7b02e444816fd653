/- An abstract executor, staged, first part: operations as closed terms that are made once and then run. -/
import Derived.Test.YtapkhldfbdcblaaGreatDoorAxSnd11
import Derived.Test.YtapkhldfbdcblaaGreatDoorAxFast
set_option linter.unusedSectionVars false
set_option linter.unnecessarySimpa false
set_option linter.unusedSimpArgs false
set_option linter.unusedVariables false
namespace Go.Ax
noncomputable section
variable {P : Program}

structure Box (α : Type) where
  f : α

def fLit (n : Nat) (k : Nat → Bool) : Bool := Nat.rec (motive := fun _ => Bool) (k 0) (fun m _ => k m) (Nat.succ n)
theorem fLit_eq (n : Nat) (k : Nat → Bool) : fLit n k = k n := rfl
def obB {α : Type} (o : Option α) (k : α → Bool) : Bool := Option.rec (motive := fun _ => Bool) false k o
theorem obB_some {α : Type} (a : α) (k : α → Bool) : obB (some a) k = k a := rfl
theorem obB_none {α : Type} (k : α → Bool) : obB none k = false := rfl

/-! temporaries -/
def selB {β : Type} (d : D16) : Box (N16 β → β) := D16.rec (motive := fun _ => Box (N16 β → β)) ⟨N16.a0⟩ ⟨N16.a1⟩ ⟨N16.a2⟩ ⟨N16.a3⟩ ⟨N16.a4⟩ ⟨N16.a5⟩ ⟨N16.a6⟩ ⟨N16.a7⟩ ⟨N16.a8⟩ ⟨N16.a9⟩ ⟨N16.a10⟩ ⟨N16.a11⟩ ⟨N16.a12⟩ ⟨N16.a13⟩ ⟨N16.a14⟩ ⟨N16.a15⟩ d
theorem selB_eq {β : Type} (d : D16) : (selB d : Box (N16 β → β)).f = N16.sel d := by cases d <;> rfl
def updB {β : Type} (d : D16) : Box (N16 β → β → (N16 β → Bool) → Bool) := D16.rec (motive := fun _ => Box (N16 β → β → (N16 β → Bool) → Bool)) ⟨N16.up0⟩ ⟨N16.up1⟩ ⟨N16.up2⟩ ⟨N16.up3⟩ ⟨N16.up4⟩ ⟨N16.up5⟩ ⟨N16.up6⟩ ⟨N16.up7⟩ ⟨N16.up8⟩ ⟨N16.up9⟩ ⟨N16.up10⟩ ⟨N16.up11⟩ ⟨N16.up12⟩ ⟨N16.up13⟩ ⟨N16.up14⟩ ⟨N16.up15⟩ d
theorem updB_eq {β : Type} (d : D16) : (updB d : Box (N16 β → β → (N16 β → Bool) → Bool)).f = N16.updK d := by cases d <;> rfl

def getB (t : Nat) : Box (PM AV → Option AV) :=
  Bool.rec (motive := fun _ => Box (PM AV → Option AV)) (Bool.rec (motive := fun _ => Box (PM AV → Option AV)) ⟨fun _ => none⟩ ⟨fun T => T.get (posOf t)⟩ (Nat.ble t 1000000))
    ⟨fun T => (selB (PM.c0 t)).f ((selB (PM.c1 t)).f T.lo)⟩ (Nat.ble t 255)
theorem getB_eq (t : Nat) (T : PM AV) : (getB t).f T = bif Nat.ble t 1000000 then T.get (posOf t) else none := by
  unfold getB
  cases h1 : Nat.ble t 255
  · cases h2 : Nat.ble t 1000000 <;> rfl
  · have h2 : Nat.ble t 1000000 = true := Nat.ble_eq_true_of_le (Nat.le_trans (Nat.le_of_ble_eq_true h1) (by omega))
    rw [h2]
    show (selB (PM.c0 t)).f ((selB (PM.c1 t)).f T.lo) = PM.get T (posOf t)
    rw [selB_eq, selB_eq]
    unfold PM.get posOf
    rw [h1]
    rfl
def evB (x : Operand) : Box (PM AV → Option AV) :=
  Operand.rec (motive := fun _ => Box (PM AV → Option AV)) (fun t => getB t) (fun v => ⟨fun _ => toAV v⟩) (fun _ => ⟨fun _ => none⟩) (fun f => ⟨fun _ => some (.func (.func f) [] [])⟩) x
theorem evB_eq (x : Operand) (T : PM AV) : (evB x).f T = evA T x := by
  cases x with
  | tmp t => exact getB_eq t T
  | const _ => rfl
  | global _ => rfl
  | func _ => rfl
def setB (n : Nat) (dst : Option Tmp) : Box (AV → PM AV → (PM AV → Bool) → Bool) :=
  Option.rec (motive := fun _ => Box (AV → PM AV → (PM AV → Bool) → Bool)) ⟨fun _ T k => k T⟩
    (fun d => Bool.rec (motive := fun _ => Box (AV → PM AV → (PM AV → Bool) → Bool)) ⟨fun _ _ _ => false⟩
      (Bool.rec (motive := fun _ => Box (AV → PM AV → (PM AV → Bool) → Bool)) ⟨fun v T k => T.putK (posOf d) (some v) k⟩
        ⟨fun v T k => PM.rec (motive := fun _ => Bool) (fun lo mid big hi => (updB (PM.c0 d)).f ((selB (PM.c1 d)).f lo) (some v) fun x => (updB (PM.c1 d)).f lo x fun y => k ⟨y, mid, big, hi⟩) T⟩ (Nat.ble d 255))
      (Nat.ble (Nat.succ d) n)) dst
theorem setB_eq (n : Nat) (dst : Option Tmp) (v : AV) (T : PM AV) (k : PM AV → Bool) : (setB n dst).f v T k = tputK n T dst v k := by
  cases dst with
  | none => rfl
  | some d =>
    unfold setB tputK
    simp only
    cases h1 : Nat.ble (Nat.succ d) n
    · rfl
    · cases h2 : Nat.ble d 255
      · rfl
      · simp only [cond_true]
        unfold PM.putK
        obtain ⟨lo, mid, big, hi⟩ := T
        simp only [selB_eq, updB_eq, posOf, h2]

/-! values by their kind -/
def intZ (v : AV) (f : IntKind → Int → Bool) (z : Bool) : Bool :=
  AV.rec (motive_1 := fun _ => (IntKind → Int → Bool) → Bool → Bool) (motive_2 := fun _ => Unit) (fun _ _ z => z) (fun kd n f _ => f kd n) (fun _ _ _ z => z) (fun _ z => z) (fun _ _ _ z => z) (fun _ z => z) (fun _ _ _ _ _ _ z => z) (fun _ _ _ z => z) (fun _ z => z) (fun _ _ z => z) (fun _ _ _ _ _ _ z => z) (fun _ _ z => z) (fun _ z => z) (fun _ z => z) (fun _ _ _ _ z => z) (fun _ _ _ z => z) (fun _ _ _ z => z) (fun _ _ z => z) () (fun _ _ _ _ => ()) v f z
def natZ (n : Int) (f : Nat → Bool) (z : Bool) : Bool := Int.rec (motive := fun _ => (Nat → Bool) → Bool → Bool) (fun m f _ => f m) (fun _ _ z => z) n f z
def slowVal (r : Option ORes) (k : AV → Bool) (z : ORes → Bool) : Bool :=
  match r with
  | some (.val v) => fV v k
  | some r => z r
  | none => false
/-- What is asked of an operation: a value, handed on; another result goes its own way. -/
def valOf (r : Option ORes) (k : AV → Bool) (z : ORes → Bool) : Bool :=
  match r with
  | some (.val v) => k v
  | some r => z r
  | none => false
theorem slowVal_eq (r : Option ORes) (k : AV → Bool) (z : ORes → Bool) : slowVal r k z = valOf r k z := by
  unfold slowVal valOf
  split
  · rw [fV_eq]
  · rfl
  · rfl

/-! numbers -/
def lim (k : IntKind) : Nat :=
  match k with
  | .i64 => 9223372036854775807
  | .u8 => 255
  | .u32 => 4294967295
  | .u64 => 18446744073709551615
  | _ => 0
theorem lim_wrap {k : IntKind} {s : Nat} (h : s ≤ lim k) : wrapA k (.ofNat s) = .ofNat s := by
  cases k <;> simp only [lim] at h
  case i64 => simp only [wrapA, wrapI, wrapP]; rw [blt_true (by omega)]; rfl
  case u8 => simp only [wrapA, wrapU]; show Int.ofNat (s % 256) = _; rw [Nat.mod_eq_of_lt (by omega)]
  case u32 => simp only [wrapA, wrapU]; show Int.ofNat (s % 4294967296) = _; rw [Nat.mod_eq_of_lt (by omega)]
  case u64 => simp only [wrapA, wrapU]; show Int.ofNat (s % 18446744073709551616) = _; rw [Nat.mod_eq_of_lt (by omega)]
  all_goals (have : s = 0 := by omega); subst this; rfl
def limK (kd : IntKind) (s : Nat) (k : AV → Bool) (sl : Bool) : Bool := Bool.rec (motive := fun _ => Bool) sl (fLit s fun s => k (.int kd (.ofNat s))) (Nat.ble s (lim kd))
theorem limK_eq {kd : IntKind} {s : Nat} {k : AV → Bool} {sl : Bool} (h : sl = k (.int kd (wrapA kd (.ofNat s)))) : limK kd s k sl = sl := by
  unfold limK
  cases hb : Nat.ble s (lim kd)
  · rfl
  · rw [h, lim_wrap (Nat.le_of_ble_eq_true hb)]; rfl
def bitK (kd : IntKind) (a b s : Nat) (k : AV → Bool) (sl : Bool) : Bool := Bool.rec (motive := fun _ => Bool) sl (fLit s fun s => k (.int kd (.ofNat s))) (Nat.ble (Nat.lor a b) (lim kd))
theorem lim_pow (kd : IntKind) : ∃ j, lim kd + 1 = 2 ^ j ∧ j ≤ kd.bits := by
  cases kd
  case i64 => exact ⟨63, rfl, by decide⟩
  case u8 => exact ⟨8, rfl, by decide⟩
  case u32 => exact ⟨32, rfl, by decide⟩
  case u64 => exact ⟨64, rfl, by decide⟩
  all_goals exact ⟨0, rfl, Nat.zero_le _⟩
theorem bits_of {op : BinOp} {kd : IntKind} {a b : Nat} (h : Nat.lor a b ≤ lim kd) :
    bits .and kd (.ofNat a) (.ofNat b) = .ofNat (Nat.land a b) ∧ bits .or kd (.ofNat a) (.ofNat b) = .ofNat (Nat.lor a b) ∧ bits .xor kd (.ofNat a) (.ofNat b) = .ofNat (Nat.xor a b) := by
  obtain ⟨j, hj, hjb⟩ := lim_pow kd
  have ha : a < 2 ^ j := by have := Nat.left_le_or (n := a) (m := b); have h' : (a ||| b) ≤ lim kd := h; omega
  have hb : b < 2 ^ j := by have := Nat.right_le_or (n := a) (m := b); have h' : (a ||| b) ≤ lim kd := h; omega
  have hp : 2 ^ j ≤ 2 ^ kd.bits := Nat.pow_le_pow_right (by omega) hjb
  have hA : (BitVec.ofInt kd.bits (Int.ofNat a)).toNat = a := by rw [ofInt_nat, BitVec.toNat_ofNat, Nat.mod_eq_of_lt (by omega)]
  have hB : (BitVec.ofInt kd.bits (Int.ofNat b)).toNat = b := by rw [ofInt_nat, BitVec.toNat_ofNat, Nat.mod_eq_of_lt (by omega)]
  have fin : ∀ (op : BinOp) (s : Nat), s < 2 ^ j → bits op kd (Int.ofNat a) (Int.ofNat b) = kd.wrap ((s : Nat) : Int) → bits op kd (Int.ofNat a) (Int.ofNat b) = .ofNat s := fun op s hs e => by
    rw [e, ← wrapA_eq]
    exact lim_wrap (by omega)
  have h1 : (a &&& b) < 2 ^ j := Nat.lt_of_le_of_lt Nat.and_le_left ha
  have h2 : (a ||| b) < 2 ^ j := Nat.or_lt_two_pow ha hb
  have h3 : (a ^^^ b) < 2 ^ j := Nat.xor_lt_two_pow ha hb
  refine ⟨fin .and _ h1 ?_, fin .or _ h2 ?_, fin .xor _ h3 ?_⟩
  · have e : ((BitVec.ofInt kd.bits (Int.ofNat a)) &&& (BitVec.ofInt kd.bits (Int.ofNat b))).toNat = a &&& b := by rw [BitVec.toNat_and, hA, hB]
    exact congrArg (fun z : Nat => kd.wrap (z : Int)) e
  · have e : ((BitVec.ofInt kd.bits (Int.ofNat a)) ||| (BitVec.ofInt kd.bits (Int.ofNat b))).toNat = a ||| b := by rw [BitVec.toNat_or, hA, hB]
    exact congrArg (fun z : Nat => kd.wrap (z : Int)) e
  · have e : ((BitVec.ofInt kd.bits (Int.ofNat a)) ^^^ (BitVec.ofInt kd.bits (Int.ofNat b))).toNat = a ^^^ b := by rw [BitVec.toNat_xor, hA, hB]
    exact congrArg (fun z : Nat => kd.wrap (z : Int)) e

def sameK (kd kd' : IntKind) (x sl : Bool) : Bool := Bool.rec (motive := fun _ => Bool) sl x (decide (kd = kd'))
abbrev FB := IntKind → IntKind → Nat → Nat → (AV → Bool) → Bool → Bool
/-- Of two numbers that are not negative. -/
def fastB (op : BinOp) : Box FB :=
  match op with
  | .add => ⟨fun kd kd' m n k sl => sameK kd kd' (limK kd (Nat.add m n) k sl) sl⟩
  | .sub => ⟨fun kd kd' m n k sl => sameK kd kd' (Bool.rec (motive := fun _ => Bool) sl (limK kd (Nat.sub m n) k sl) (Nat.ble n m)) sl⟩
  | .mul => ⟨fun kd kd' m n k sl => sameK kd kd' (limK kd (Nat.mul m n) k sl) sl⟩
  | .and => ⟨fun kd kd' m n k sl => sameK kd kd' (bitK kd m n (Nat.land m n) k sl) sl⟩
  | .or => ⟨fun kd kd' m n k sl => sameK kd kd' (bitK kd m n (Nat.lor m n) k sl) sl⟩
  | .xor => ⟨fun kd kd' m n k sl => sameK kd kd' (bitK kd m n (Nat.xor m n) k sl) sl⟩
  | .shl => ⟨fun kd _ m n k sl => limK kd (Nat.mul m (Nat.pow 2 (Nat.min n kd.bits))) k sl⟩
  | .shr => ⟨fun kd _ m n k _ => fLit (Nat.div m (Nat.pow 2 (Nat.min n kd.bits))) fun s => k (.int kd (.ofNat s))⟩
  | .eql => ⟨fun kd kd' m n k sl => sameK kd kd' (Bool.rec (motive := fun _ => Bool) (k (.bool false)) (k (.bool true)) (Nat.beq m n)) sl⟩
  | .neq => ⟨fun kd kd' m n k sl => sameK kd kd' (Bool.rec (motive := fun _ => Bool) (k (.bool true)) (k (.bool false)) (Nat.beq m n)) sl⟩
  | .lss => ⟨fun kd kd' m n k sl => sameK kd kd' (Bool.rec (motive := fun _ => Bool) (k (.bool true)) (k (.bool false)) (Nat.ble n m)) sl⟩
  | .leq => ⟨fun kd kd' m n k sl => sameK kd kd' (Bool.rec (motive := fun _ => Bool) (k (.bool false)) (k (.bool true)) (Nat.ble m n)) sl⟩
  | .gtr => ⟨fun kd kd' m n k sl => sameK kd kd' (Bool.rec (motive := fun _ => Bool) (k (.bool true)) (k (.bool false)) (Nat.ble m n)) sl⟩
  | .geq => ⟨fun kd kd' m n k sl => sameK kd kd' (Bool.rec (motive := fun _ => Bool) (k (.bool false)) (k (.bool true)) (Nat.ble n m)) sl⟩
  | _ => ⟨fun _ _ _ _ _ sl => sl⟩
theorem sameK_eq {kd kd' : IntKind} {x sl : Bool} (h : kd = kd' → x = sl) : sameK kd kd' x sl = sl := by
  unfold sameK
  by_cases e : kd = kd'
  · rw [decide_eq_true e]; exact h e
  · rw [decide_eq_false e]
theorem blt_ble (m n : Nat) : Nat.blt m n = !Nat.ble n m := by
  cases h : Nat.ble n m
  · exact blt_true (PM.ble_false h)
  · exact blt_false (by have := Nat.le_of_ble_eq_true h; omega)
theorem fastB_eq (op : BinOp) (t : TypeId) (kd kd' : IntKind) (m n : Nat) (k : AV → Bool) (z : ORes → Bool) :
    (fastB op).f kd kd' m n k (valOf (binA P op t (.int kd (.ofNat m)) (.int kd' (.ofNat n))) k z) = valOf (binA P op t (.int kd (.ofNat m)) (.int kd' (.ofNat n))) k z := by
  cases op <;> simp only [fastB]
  case shl => exact limK_eq rfl
  case shr => rfl
  all_goals refine sameK_eq fun e => ?_
  all_goals subst e
  all_goals simp only [binA, decide_true, cond_true, intA, valOf]
  case add => exact limK_eq rfl
  case mul => exact limK_eq rfl
  case sub =>
    cases hb : Nat.ble n m
    · rfl
    · have hle := Nat.le_of_ble_eq_true hb
      refine limK_eq ?_
      have : Int.sub (Int.ofNat m) (Int.ofNat n) = Int.ofNat (Nat.sub m n) := by
        show ((m : Int) - (n : Int)) = ((m - n : Nat) : Int); omega
      rw [this]
  case and =>
    unfold bitK
    cases hb : Nat.ble (Nat.lor m n) (lim kd)
    · rfl
    · rw [bitsA_eq, (bits_of (op := .and) (Nat.le_of_ble_eq_true hb)).1]; rfl
  case or =>
    unfold bitK
    cases hb : Nat.ble (Nat.lor m n) (lim kd)
    · rfl
    · rw [bitsA_eq, (bits_of (op := .and) (Nat.le_of_ble_eq_true hb)).2.1]; rfl
  case xor =>
    unfold bitK
    cases hb : Nat.ble (Nat.lor m n) (lim kd)
    · rfl
    · rw [bitsA_eq, (bits_of (op := .and) (Nat.le_of_ble_eq_true hb)).2.2]; rfl
  case eql => simp only [eqI]; cases Nat.beq m n <;> rfl
  case neq => simp only [eqI]; cases Nat.beq m n <;> rfl
  case lss => simp only [ltI, blt_ble]; cases Nat.ble n m <;> rfl
  case leq => simp only [ltI, blt_ble]; cases Nat.ble m n <;> rfl
  case gtr => simp only [ltI, blt_ble]; cases Nat.ble m n <;> rfl
  case geq => simp only [ltI, blt_ble]; cases Nat.ble n m <;> rfl

def binB (P : Program) (op : BinOp) (t : TypeId) : Box (AV → AV → (AV → Bool) → (ORes → Bool) → Bool) :=
  ⟨fun a b k z => intZ a (fun kd x => intZ b (fun kd' y => natZ x (fun m => natZ y (fun n => (fastB op).f kd kd' m n k (slowVal (binA P op t a b) k z)) (slowVal (binA P op t a b) k z)) (slowVal (binA P op t a b) k z)) (slowVal (binA P op t a b) k z)) (slowVal (binA P op t a b) k z)⟩
theorem binB_eq (op : BinOp) (t : TypeId) (a b : AV) (k : AV → Bool) (z : ORes → Bool) : (binB P op t).f a b k z = valOf (binA P op t a b) k z := by
  simp only [binB, slowVal_eq]
  cases a <;> try rfl
  cases b <;> try rfl
  rename_i kd x kd' y
  cases x <;> try rfl
  cases y <;> try rfl
  exact fastB_eq op t kd kd' _ _ k z
end
end Go.Ax
