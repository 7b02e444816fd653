/- An abstract executor, third part: numbers, texts, comparisons. -/
import Derived.Test.YtapkhldfbdcblaaGreatDoorAxHeap
import Derived.Laws.Entries
import Derived.Laws.Small
import Derived.Laws.StructEq
import Derived.Laws.Concat
set_option linter.unusedVariables false
set_option linter.unusedSimpArgs false
set_option linter.unusedSectionVars false
set_option linter.unnecessarySimpa false
namespace Go.Ax

/-- What an operation comes to that leaves the heap. -/
def Quiet (w : World) (v : Value) (R : Result Value) : Prop := R = .ok v w

theorem blt_false {m n : Nat} (h : ¬ m < n) : Nat.blt m n = false := by
  rw [Bool.eq_false_iff]; intro e; exact h (by simpa [Nat.blt_eq] using e)
theorem blt_true {m n : Nat} (h : m < n) : Nat.blt m n = true := by simpa [Nat.blt_eq] using h
def wrapN (m : Nat) : Int := bif Nat.blt m 9223372036854775808 then .negSucc m else IntKind.i64.wrap (.negSucc m)
def wrapP (m : Nat) : Int := bif Nat.blt m 9223372036854775808 then .ofNat m else IntKind.i64.wrap (.ofNat m)
def wrapI (n : Int) : Int := match n with | .ofNat m => wrapP m | .negSucc m => wrapN m
def wrapU (b : Nat) (k : IntKind) (n : Int) : Int := match n with | .ofNat m => .ofNat (Nat.mod m b) | .negSucc m => k.wrap (.negSucc m)
def wrapA (k : IntKind) (n : Int) : Int :=
  match k with
  | .i64 => wrapI n
  | .u8 => wrapU 256 .u8 n
  | .u32 => wrapU 4294967296 .u32 n
  | .u64 => wrapU 18446744073709551616 .u64 n
  | k => k.wrap n

theorem wrap_pos (z : Int) (h0 : 0 ≤ z) (h1 : z < 9223372036854775808) : IntKind.i64.wrap z = z := by
  have e : z % (2 ^ 64 : Int) = z := by omega
  have e2 : ¬ (z ≥ (2 ^ 63 : Int)) := by omega
  simp only [IntKind.wrap, IntKind.bits, IntKind.signed, e, Bool.true_and, decide_eq_false e2, Bool.false_eq_true, if_false]
theorem wrap_neg (z : Int) (h0 : z < 0) (h1 : -9223372036854775808 ≤ z) : IntKind.i64.wrap z = z := by
  have e : z % (2 ^ 64 : Int) = z + 18446744073709551616 := by omega
  have e2 : (z + 18446744073709551616 ≥ (2 ^ 63 : Int)) := by omega
  simp only [IntKind.wrap, IntKind.bits, IntKind.signed, e, Bool.true_and, decide_eq_true e2, if_true]
  omega
theorem negSucc_ge (m : Nat) (h : m < 9223372036854775808) : -9223372036854775808 ≤ Int.negSucc m := by
  have e := Int.negSucc_eq m
  omega
theorem wrapN_eq (m : Nat) : wrapN m = IntKind.i64.wrap (Int.negSucc m) := by
  unfold wrapN
  by_cases h : m < 9223372036854775808
  · rw [blt_true h, cond_true, wrap_neg _ (Int.negSucc_lt_zero m) (negSucc_ge m h)]
  · rw [blt_false h, cond_false]
theorem wrapP_eq (m : Nat) : wrapP m = IntKind.i64.wrap (Int.ofNat m) := by
  unfold wrapP
  by_cases h : m < 9223372036854775808
  · rw [blt_true h, cond_true]
    exact (wrap_pos (m : Int) (Int.natCast_nonneg m) (by omega)).symm
  · rw [blt_false h, cond_false]
theorem wrapI_eq (n : Int) : wrapI n = IntKind.i64.wrap n := by
  cases n with
  | ofNat m => exact wrapP_eq m
  | negSucc m => exact wrapN_eq m
theorem wrapU_eq {b : Nat} {k : IntKind} (hs : k.signed = false) (hb : (2 ^ k.bits : Int) = (b : Int)) (n : Int) : wrapU b k n = k.wrap n := by
  cases n with
  | negSucc m => rfl
  | ofNat m =>
    have hmod : Nat.mod m b = m % b := rfl
    simp only [wrapU, IntKind.wrap, hs, Bool.false_and, Bool.false_eq_true, if_false, hb, hmod, Int.ofNat_eq_natCast]
    omega
theorem wrapA_eq (k : IntKind) (n : Int) : wrapA k n = k.wrap n := by
  unfold wrapA
  split
  · exact wrapI_eq n
  · exact wrapU_eq (k := .u8) (b := 256) rfl (by decide) n
  · exact wrapU_eq (k := .u32) (b := 4294967296) rfl (by decide) n
  · exact wrapU_eq (k := .u64) (b := 18446744073709551616) rfl (by decide) n
  · rfl

def ltI : Int → Int → Bool
  | .ofNat a, .ofNat b => Nat.blt a b
  | .ofNat _, .negSucc _ => false
  | .negSucc _, .ofNat _ => true
  | .negSucc a, .negSucc b => Nat.blt b a
def eqI : Int → Int → Bool
  | .ofNat a, .ofNat b => Nat.beq a b
  | .negSucc a, .negSucc b => Nat.beq a b
  | _, _ => false
theorem ltI_eq (a b : Int) : ltI a b = decide (a < b) := by
  rw [Bool.eq_iff_iff, decide_eq_true_eq]
  cases a <;> cases b <;> simp only [ltI, Nat.blt_eq, Int.ofNat_eq_natCast] <;> first | omega | (simp; omega)
theorem eqI_eq (a b : Int) : eqI a b = (a == b) := by
  rw [Bool.eq_iff_iff, beq_iff_eq]
  cases a <;> cases b <;> simp only [eqI, Nat.beq_eq, Int.ofNat_eq_natCast] <;> first | omega | (simp; omega) | simp

/-- Bits of numbers that are not negative. -/
def bitsA (op : BinOp) (k : IntKind) (x y : Int) : Int :=
  match op, x, y with
  | .and, .ofNat a, .ofNat b => bif (Nat.blt a 9223372036854775808 && Nat.blt b 9223372036854775808) && Nat.ble 64 k.bits then .ofNat (Nat.land a b) else bits op k x y
  | .or, .ofNat a, .ofNat b => bif (Nat.blt a 9223372036854775808 && Nat.blt b 9223372036854775808) && Nat.ble 64 k.bits then .ofNat (Nat.lor a b) else bits op k x y
  | .xor, .ofNat a, .ofNat b => bif (Nat.blt a 9223372036854775808 && Nat.blt b 9223372036854775808) && Nat.ble 64 k.bits then .ofNat (Nat.xor a b) else bits op k x y
  | op, x, y => bits op k x y
theorem bits64 {k : IntKind} (hk : 64 ≤ k.bits) : k.bits = 64 ∧ (k = .i64 ∨ k = .u64) := by cases k <;> simp [IntKind.bits] at hk ⊢
theorem wrap_small {k : IntKind} (hk : k = .i64 ∨ k = .u64) {m : Nat} (h : m < 9223372036854775808) : k.wrap (m : Int) = Int.ofNat m := by
  rcases hk with rfl | rfl
  · exact wrap_pos _ (Int.natCast_nonneg m) (by omega)
  · rw [← wrapU_eq (k := .u64) (b := 18446744073709551616) rfl (by decide)]
    show Int.ofNat (m % 18446744073709551616) = _
    rw [Nat.mod_eq_of_lt (by omega)]
theorem ofInt_nat (n a : Nat) : (BitVec.ofInt n (Int.ofNat a)) = BitVec.ofNat n a := by
  apply BitVec.eq_of_toNat_eq
  simp
theorem bitsA_eq (op : BinOp) (k : IntKind) (x y : Int) : bitsA op k x y = bits op k x y := by
  have key : ∀ (a b m : Nat) (op : BinOp), ((Nat.blt a 9223372036854775808 && Nat.blt b 9223372036854775808) && Nat.ble 64 k.bits) = true → 
      (a < 9223372036854775808 → b < 9223372036854775808 → m < 9223372036854775808 ∧ ∀ (A B : BitVec k.bits), A.toNat = a → B.toNat = b → (match op with
    | .and => A &&& B
    | .or => A ||| B
    | .xor => A ^^^ B
    | _ => A &&& ~~~B).toNat = m) → Int.ofNat m = bits op k (Int.ofNat a) (Int.ofNat b) := by
    intro a b m op h hm
    simp only [Bool.and_eq_true, Nat.blt_eq, Nat.ble_eq] at h
    obtain ⟨⟨ha, hb⟩, hk⟩ := h
    obtain ⟨e64, hk'⟩ := bits64 hk
    obtain ⟨hm1, hm2⟩ := hm ha hb
    have h3 := hm2 (BitVec.ofInt k.bits (Int.ofNat a)) (BitVec.ofInt k.bits (Int.ofNat b)) (by rw [ofInt_nat, BitVec.toNat_ofNat, e64, Nat.mod_eq_of_lt (by omega)]) (by rw [ofInt_nat, BitVec.toNat_ofNat, e64, Nat.mod_eq_of_lt (by omega)])
    have h4 : bits op k (Int.ofNat a) (Int.ofNat b) = k.wrap ((m : Nat) : Int) := congrArg (fun z : Nat => k.wrap (z : Int)) h3
    rw [h4, wrap_small hk' hm1]
  unfold bitsA
  split
  · rename_i a b
    cases hc : ((Nat.blt a 9223372036854775808 && Nat.blt b 9223372036854775808) && Nat.ble 64 k.bits)
    · rfl
    · exact key a b (Nat.land a b) .and hc fun ha hb => ⟨Nat.lt_of_le_of_lt Nat.and_le_left ha, fun A B hA hB => by subst hA hB; exact BitVec.toNat_and ..⟩
  · rename_i a b
    cases hc : ((Nat.blt a 9223372036854775808 && Nat.blt b 9223372036854775808) && Nat.ble 64 k.bits)
    · rfl
    · exact key a b (Nat.lor a b) .or hc fun ha hb => ⟨Nat.or_lt_two_pow (n := 63) ha hb, fun A B hA hB => by subst hA hB; exact BitVec.toNat_or ..⟩
  · rename_i a b
    cases hc : ((Nat.blt a 9223372036854775808 && Nat.blt b 9223372036854775808) && Nat.ble 64 k.bits)
    · rfl
    · exact key a b (Nat.xor a b) .xor hc fun ha hb => ⟨Nat.xor_lt_two_pow (n := 63) ha hb, fun A B hA hB => by subst hA hB; exact BitVec.toNat_xor ..⟩
  · rfl

/-- A binary operation on two numbers of one kind. -/
def intA (op : BinOp) (k : IntKind) (a b : Int) : Option AV :=
  match op with
  | .add => some (.int k (wrapA k (Int.add a b)))
  | .sub => some (.int k (wrapA k (Int.sub a b)))
  | .mul => some (.int k (wrapA k (Int.mul a b)))
  | .quo => bif eqI b (.ofNat 0) then none else some (.int k (wrapA k (Int.tdiv a b)))
  | .rem => bif eqI b (.ofNat 0) then none else some (.int k (Int.tmod a b))
  | .and => some (.int k (bitsA .and k a b))
  | .or => some (.int k (bitsA .or k a b))
  | .xor => some (.int k (bitsA .xor k a b))
  | .andNot => some (.int k (bitsA .andNot k a b))
  | .eql => some (.bool (eqI a b))
  | .neq => some (.bool (!eqI a b))
  | .lss => some (.bool (ltI a b))
  | .leq => some (.bool (!ltI b a))
  | .gtr => some (.bool (ltI b a))
  | .geq => some (.bool (!ltI a b))
  | _ => none

def shiftA (op : BinOp) (k : IntKind) (x y : Int) : Option AV :=
  match y with
  | .ofNat m =>
    match op, x with
    | .shl, .ofNat a => some (.int k (wrapA k (.ofNat (Nat.mul a (Nat.pow 2 (Nat.min m k.bits))))))
    | .shr, .ofNat a => some (.int k (.ofNat (Nat.div a (Nat.pow 2 (Nat.min m k.bits)))))
    | _, _ => none
  | _ => none

/-- The text of a number's bytes, cut. -/
def strEq (la a lb b : Nat) : Bool := Nat.beq la lb && Nat.beq (Nat.mod a (Nat.pow 256 la)) (Nat.mod b (Nat.pow 256 lb))

theorem unpackL_eq_iff (len : Nat) : ∀ a b, unpackL len a = unpackL len b ↔ a % 256 ^ len = b % 256 ^ len := by
  induction len with
  | zero => intro a b; simp [unpackL, Nat.mod_one]
  | succ k ih =>
    intro a b
    simp only [unpackL, List.cons.injEq, ih]
    have e : ∀ x : Nat, x % 256 ^ (k + 1) = x % 256 + 256 * (x / 256 % 256 ^ k) := fun x => by
      rw [Nat.pow_succ, Nat.mul_comm, Nat.mod_mul]
    have hbyte : ∀ x : Nat, (UInt8.ofNat (x % 256)).toNat = x % 256 := fun x => by simp
    rw [e a, e b]
    constructor
    · rintro ⟨h1, h2⟩
      have := congrArg UInt8.toNat h1
      rw [hbyte, hbyte] at this
      omega
    · intro h
      have h1 : a % 256 = b % 256 := by omega
      exact ⟨by rw [h1], by omega⟩

theorem strEq_iff (la a lb b : Nat) : strEq la a lb b = true ↔ unpackL la a = unpackL lb b := by
  simp only [strEq, Bool.and_eq_true, Nat.beq_eq]
  constructor
  · rintro ⟨rfl, h⟩; exact (unpackL_eq_iff la a b).2 h
  · intro h
    have hl := congrArg List.length h
    rw [unpackL_length, unpackL_length] at hl
    subst hl
    exact ⟨rfl, (unpackL_eq_iff la a b).1 h⟩

theorem unpackL_append (la : Nat) : ∀ a lb b, unpackL la a ++ unpackL lb b = unpackL (la + lb) (a % 256 ^ la + 256 ^ la * b) := by
  induction la with
  | zero => intro a lb b; simp [unpackL, Nat.mod_one]
  | succ k ih =>
    intro a lb b
    have e : (a % 256 ^ (k + 1) + 256 ^ (k + 1) * b) = a % 256 + 256 * (a / 256 % 256 ^ k + 256 ^ k * b) := by
      rw [Nat.pow_succ, Nat.mul_comm (256 ^ k) 256, Nat.mod_mul, Nat.mul_add, Nat.mul_assoc]; omega
    rw [show k + 1 + lb = (k + lb) + 1 by omega]
    simp only [unpackL, List.cons_append, ih]
    rw [e]
    congr 1
    · congr 1; omega
    · congr 1; omega

theorem unpackL_drop (i : Nat) : ∀ len a, i ≤ len → (unpackL len a).drop i = unpackL (len - i) (a / 256 ^ i) := by
  induction i with
  | zero => intro len a _; simp
  | succ i ih =>
    intro len a h
    obtain ⟨k, rfl⟩ : ∃ k, len = k + 1 := ⟨len - 1, by omega⟩
    simp only [unpackL, List.drop_succ_cons]
    rw [ih k _ (by omega), Nat.div_div_eq_div_mul, Nat.pow_succ, Nat.mul_comm 256, show k + 1 - (i + 1) = k - i by omega]
theorem unpackL_take (i : Nat) : ∀ len a, i ≤ len → (unpackL len a).take i = unpackL i a := by
  induction i with
  | zero => intro len a _; simp [unpackL]
  | succ i ih =>
    intro len a h
    obtain ⟨k, rfl⟩ : ∃ k, len = k + 1 := ⟨len - 1, by omega⟩
    simp only [unpackL, List.take_succ_cons]
    rw [ih k _ (by omega)]
theorem unpackL_get (i : Nat) : ∀ len a, i < len → (unpackL len a)[i]? = some (UInt8.ofNat (a / 256 ^ i % 256)) := by
  induction i with
  | zero =>
    intro len a h
    obtain ⟨k, rfl⟩ : ∃ k, len = k + 1 := ⟨len - 1, by omega⟩
    simp [unpackL]
  | succ i ih =>
    intro len a h
    obtain ⟨k, rfl⟩ : ∃ k, len = k + 1 := ⟨len - 1, by omega⟩
    simp only [unpackL, List.getElem?_cons_succ]
    rw [ih k _ (by omega), Nat.div_div_eq_div_mul, Nat.pow_succ, Nat.mul_comm 256]

def packL : List UInt8 → Nat
  | [] => 0
  | b :: l => b.toNat + 256 * packL l
theorem unpackL_packL (l : List UInt8) : unpackL l.length (packL l) = l := by
  induction l with
  | nil => rfl
  | cons b l ih =>
    simp only [List.length_cons, unpackL, packL]
    have h1 : (b.toNat + 256 * packL l) % 256 = b.toNat := by have := b.toNat_lt; omega
    have h2 : (b.toNat + 256 * packL l) / 256 = packL l := by have := b.toNat_lt; omega
    rw [h1, h2, ih]
    simp

theorem unpack_toList (len n : Nat) : (unpack len n).toList = unpackL len n := by
  rw [ByteArray.toList_eq]; rfl
theorem unpack_packL (s : ByteArray) : unpack s.size (packL s.data.toList) = s := by
  obtain ⟨⟨l⟩⟩ := s
  show ByteArray.mk (unpackL _ _).toArray = _
  have : (ByteArray.mk ⟨l⟩).size = l.length := rfl
  rw [this, unpackL_packL]
theorem unpack_append (la a lb b : Nat) : unpack la a ++ unpack lb b = unpack (la + lb) (a % 256 ^ la + 256 ^ la * b) := by
  apply ByteArray.ext
  show (unpack la a ++ unpack lb b).data = _
  rw [ByteArray.data_append]
  show (unpackL la a).toArray ++ (unpackL lb b).toArray = (unpackL _ _).toArray
  rw [List.append_toArray, unpackL_append]
end Go.Ax
