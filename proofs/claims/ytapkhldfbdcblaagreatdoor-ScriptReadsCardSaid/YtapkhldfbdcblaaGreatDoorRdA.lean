/- The reader's functions: to fail, to take so many bytes, each between worlds. -/
import Derived.Test.YtapkhldfbdcblaaGreatDoorChecked
import Derived.WalkKit
import Derived.Below
import Derived.Deep.Slices
import Derived.Deep.AppendLies
import Derived.Deep.Draws
import Derived.Laws.Rows
import Derived.Laws.OwnMore
import Derived.Lib.Hide
import Derived.Lib.ConvBytes
import Derived.Deep.QuietTactic
import Derived.BigQuiet
import Derived.IntWalk
import Derived.Test.YtapkhldfbdcblaaGreatDoorScrPure
import Derived.Laws.ShiftsVar
import Derived.Lib.AppendStr
set_option linter.unusedSimpArgs false
set_option linter.unusedSectionVars false
set_option linter.unnecessarySimpa false
set_option linter.unusedVariables false
namespace Go.Proofs.YtapkhldfbdcblaaGreatDoor
open Go Go.RowKit Go.Proofs
set_option maxRecDepth 100000

def Blk (w : World) (g : Nat) (t : TypeId) (cs : Array Value) : Prop := w.heap[g]? = some (.cells cs t (0, 0))
section
variable {w w' : World} {g : Nat} {t : TypeId} {cs : Array Value}
theorem Blk.lt (h : Blk w g t cs) : g < w.heap.size := by
  rcases Nat.lt_or_ge g w.heap.size with hlt | hge
  · exact hlt
  · unfold Blk at h; rw [Array.getElem?_eq_none hge] at h; cases h
theorem Blk.cell (h : Blk w g t cs) (i : Nat) : w.cell? ⟨g, i, none⟩ = cs[i]? := cell_of_row w g i cs t (0, 0) h
theorem Blk.frozen (h : Blk w g t cs) (i : Nat) : w.frozen? ⟨g, i, none⟩ = false := by
  unfold Blk at h
  simp [World.frozen?, h]
theorem Blk.new (w : World) (t : TypeId) (cs : Array Value) : Blk (w.alloc (.cells cs t)) w.heap.size t cs := heap_alloc_new w _
theorem Blk.alloc (h : Blk w g t cs) (o : Obj) : Blk (w.alloc o) g t cs := (Below.heap_alloc w o g h.lt).trans h
theorem Blk.set_ (h : Blk w g t cs) (i : Nat) (u : Value) : Blk (w.setCell ⟨g, i, none⟩ u) g t (cs.setIfInBounds i u) := by
  unfold Blk at h ⊢
  simp [World.setCell, Array.getElem?_modify, h]
theorem Blk.far (h : Blk w g t cs) {p : Addr} (hp : g ≠ p.block) (u : Value) : Blk (w.setCell p u) g t cs := (Below.heap_setCell w p u g hp).trans h
theorem Blk.grown {row : Option Nat} (h : Blk w g t cs) (hb : w.grownBy w' row) (hg : some g ≠ row) : Blk w' g t cs := (hb.block g h.lt hg).trans h
theorem Blk.ne_ {g' : Nat} {t' : TypeId} {cs' : Array Value} (h : Blk w g t cs) (h' : Blk w g' t' cs') (hne : t ≠ t') : g ≠ g' := by
  rintro rfl
  unfold Blk at h h'
  rw [h] at h'
  injection h' with h'
  injection h' with _ ht
  exact hne ht
theorem own_blk_ne {base : Nat} {e : TypeId} {size n : Nat} {v : Value} {xs : List Value} (h : w.ownsRow base e size v n xs) (hg : Blk w g t cs) (hne : e ≠ t) : v.ownBlock ≠ some g := by
  rcases h.2 with ⟨rfl, _⟩ | ⟨g', cap, cur, rfl, _, hh, _⟩
  · simp [Value.ownBlock]
  · intro he
    have : g' = g := by simpa [Value.ownBlock] using he
    subst this
    exact Blk.ne_ (t := e) hh hg hne rfl
end
theorem grownBy_set (w : World) (R i : Nat) (u : Value) : w.grownBy (w.setCell ⟨R, i, none⟩ u) (some R) :=
  ⟨rfl, rfl, rfl, by simp [World.setCell], fun k _ hk => Below.heap_setCell _ _ _ _ (fun e => hk (by rw [e]))⟩
theorem grownBy_trans {a b c : World} {r : Option Nat} (h : a.grownBy b r) (k : b.grownBy c r) : a.grownBy c r :=
  ⟨k.os.trans h.os, k.tape.trans h.tape, k.output.trans h.output, Nat.le_trans h.size k.size, fun i hi hr => (k.block i (Nat.lt_of_lt_of_le hi h.size) hr).trans (h.block i hi hr)⟩
theorem grownBy_refl (w : World) (r : Option Nat) : w.grownBy w r := ⟨rfl, rfl, rfl, Nat.le_refl _, fun _ _ _ => rfl⟩

/-- A reader in a block: what is left, and whether an error was met. -/
def Rdr (w : World) (R : Nat) (s : ByteArray) (b : Bool) : Prop := Blk w R 96 #[.string s, .bool b]
def emp : ByteArray := ⟨#[]⟩
def RdPost (R : Nat) (w : World) (v : Value) (s : ByteArray) (b : Bool) (e : Ending) (w' : World) : Prop := e = .returned v ∧ Rdr w' R s b ∧ w.grownBy w' (some R)

theorem fail_any (w : World) (R : Nat) (s : ByteArray) (b : Bool) (h : Rdr w R s b) : Calls Tryz.prog 46 #[.pointer (some ⟨R, 0, none⟩)] w (RdPost R w (.tuple #[]) emp true) := by
  have h0 := Blk.cell h 0
  have h1 := Blk.cell h 1
  have f0 := Blk.frozen h 0
  have f1 := Blk.frozen h 1
  simp at h0 h1
  have H := Lib.hid h
  clear h
  go_enter Tryz.func46, Tryz.ntmps46
  go_wp2
  go_end0
  refine ⟨rfl, ?_, grownBy_trans (grownBy_set _ _ _ _) (grownBy_set _ _ _ _)⟩
  exact Blk.set_ (Blk.set_ H.out 0 _) 1 _

theorem take_bad (w : World) (R : Nat) (s : ByteArray) (n : Int) (h : Rdr w R s true) : Calls Tryz.prog 45 #[.pointer (some ⟨R, 0, none⟩), .int .i64 n] w (RdPost R w (.string emp) emp true) := by
  have h0 := Blk.cell h 0
  have h1 := Blk.cell h 1
  simp at h0 h1
  have H := Lib.hid h
  clear h
  go_enter Tryz.func45, Tryz.ntmps45
  go_wp2_with (go_at_call 46; refine (fail_any _ R _ _ H.out).mono ?_; rintro e w' ⟨rfl, hr, hg⟩)
  go_ret
  exact ⟨rfl, hr, hg⟩

theorem take_no (w : World) (R : Nat) (s : ByteArray) (n : Nat) (h : Rdr w R s false) (hn : s.size < n) (hb : n ≤ 9223372036854775807) : Calls Tryz.prog 45 #[.pointer (some ⟨R, 0, none⟩), .int .i64 n] w (RdPost R w (.string emp) emp true) := by
  have h0 := Blk.cell h 0
  have h1 := Blk.cell h 1
  simp at h0 h1
  have H := Lib.hid h
  clear h
  go_enter Tryz.func45, Tryz.ntmps45
  go_wp2_with (go_at_call 46; refine (fail_any _ R _ _ H.out).mono ?_; rintro e w' ⟨rfl, hr, hg⟩)
  go_ret
  exact ⟨rfl, hr, hg⟩

theorem take_yes (w : World) (R : Nat) (s : ByteArray) (n : Nat) (h : Rdr w R s false) (hn : n ≤ s.size) (hb : s.size ≤ 9223372036854775807) : Calls Tryz.prog 45 #[.pointer (some ⟨R, 0, none⟩), .int .i64 n] w (RdPost R w (.string (s.extract 0 n)) (s.extract n s.size) false) := by
  have h0 := Blk.cell h 0
  have h1 := Blk.cell h 1
  have f0 := Blk.frozen h 0
  simp at h0 h1
  have H := Lib.hid h
  clear h
  go_enter Tryz.func45, Tryz.ntmps45
  go_wp2
  go_ret
  exact ⟨rfl, Blk.set_ H.out 0 _, grownBy_set _ _ _ _⟩

/-- The number that bytes are. -/
def valB (s : ByteArray) : Nat := Scr.unbe s.data.toList
theorem bytes_grown (w : World) (e : TypeId) (s : ByteArray) (r : Option Nat) : w.grownBy (Lib.bytesWorld w e s) r :=
  ⟨rfl, rfl, rfl, by rw [Lib.bytesWorld_size]; omega, fun k hk _ => Lib.bytesWorld_at_old w e s k hk⟩
theorem ofInt_i64 (a : Nat) (ha : a < 18446744073709551616) : (BitVec.ofInt 64 (a : Int)).toNat = a := by
  rw [BitVec.ofInt_natCast, BitVec.toNat_ofNat]; exact Nat.mod_eq_of_lt (by omega)
theorem i64_or_nat (a b : Nat) (ha : a < 9223372036854775808) (hb : b < 9223372036854775808) : bits .or .i64 (a : Int) (b : Int) = ((a ||| b : Nat) : Int) := by
  have hx : a ||| b < 2 ^ 63 := Nat.or_lt_two_pow (by omega) (by omega)
  show IntKind.i64.wrap ((BitVec.ofInt 64 (a : Int) ||| BitVec.ofInt 64 (b : Int)).toNat : Int) = _
  rw [BitVec.toNat_or, ofInt_i64 a (by omega), ofInt_i64 b (by omega), IntKind.wrap_i64]
  omega
theorem wrap64_nat (x : Nat) (h : x < 9223372036854775808) : wrap64 (x : Int) = x := by unfold wrap64; omega
theorem shl_or (x c : Nat) (hx : x < 1099511627776) (hc : c < 256) : bits .or .i64 (wrap64 ((x : Int) * 256)) (wrap64 (c : Int)) = ((x * 256 + c : Nat) : Int) := by
  rw [show ((x : Int) * 256) = ((x * 256 : Nat) : Int) by omega, wrap64_nat _ (by omega), wrap64_nat _ (by omega), i64_or_nat _ _ (by omega) (by omega)]
  rw [show x * 256 ||| c = x * 256 + c by rw [Nat.mul_comm]; exact (Nat.two_pow_add_eq_or_of_lt (i := 8) hc x).symm]
theorem unbe_snoc : ∀ (l : List UInt8) (c : UInt8), Scr.unbe (l ++ [c]) = Scr.unbe l * 256 + c.toNat
  | [], c => by simp [Scr.unbe]
  | b :: r, c => by
    simp only [List.cons_append, Scr.unbe, unbe_snoc r c, List.length_append, List.length_cons, List.length_nil, Nat.pow_succ, Nat.zero_add]
    simp only [Nat.add_mul, Nat.mul_assoc, Nat.pow_zero, Nat.mul_one]
    omega
theorem take_snoc (l : List UInt8) (k : Nat) (h : k < l.length) : l.take (k + 1) = l.take k ++ [l.getD k 0] := by
  rw [List.take_succ_eq_append_getElem h]; simp [List.getD, h]
theorem round_val (S : ByteArray) (k : Nat) (h : k < 6) (hs : S.size = 6) : Value.int IntKind.i64 (bits BinOp.or IntKind.i64 (wrap64 (↑(Scr.unbe (List.take k S.data.toList)) * 256)) (wrap64 ↑(S.data[k]?.getD 0).toNat)) = Value.int IntKind.i64 ↑(Scr.unbe (List.take (k + 1) S.data.toList)) := by
  have hl : S.data.toList.length = 6 := by simpa using hs
  have hb : Scr.unbe (S.data.toList.take k) < 1099511627776 := by
    have h1 := Scr.unbe_lt (S.data.toList.take k)
    have h2 : (S.data.toList.take k).length ≤ 5 := by rw [List.length_take]; omega
    have h3 : 256 ^ (S.data.toList.take k).length ≤ 256 ^ 5 := Nat.pow_le_pow_right (by omega) h2
    have h4 : (256 : Nat) ^ 5 = 1099511627776 := by rfl
    omega
  have hg : S.data[k]?.getD 0 = S.data.toList.getD k 0 := by simp [List.getD]
  rw [hg, shl_or _ _ hb (by have := (S.data.toList.getD k 0).toNat_lt; omega), take_snoc _ _ (by omega), unbe_snoc]

/-- A reader, or one that met an error. -/
def RdrO (w : World) (R : Nat) : Option ByteArray → Prop
  | none => Rdr w R emp true
  | some s => Rdr w R s false
def OPost (R : Nat) (w : World) (v : Value) (st : Option ByteArray) (e : Ending) (w' : World) : Prop := e = .returned v ∧ RdrO w' R st ∧ w.grownBy w' (some R)
def takeV (n : Nat) : Option ByteArray → ByteArray
  | none => emp
  | some s => if n ≤ s.size then s.extract 0 n else emp
def takeS (n : Nat) : Option ByteArray → Option ByteArray
  | none => none
  | some s => if n ≤ s.size then some (s.extract n s.size) else none
def fits : Option ByteArray → Prop
  | none => True
  | some s => s.size ≤ 9223372036854775807
theorem take_any (w : World) (R : Nat) (st : Option ByteArray) (n : Nat) (h : RdrO w R st) (hf : fits st) (hb : n ≤ 9223372036854775807) :
    Calls Tryz.prog 45 #[.pointer (some ⟨R, 0, none⟩), .int .i64 n] w (OPost R w (.string (takeV n st)) (takeS n st)) := by
  cases st with
  | none => exact take_bad w R emp n h
  | some s =>
    by_cases hn : n ≤ s.size
    · have := take_yes w R s n h hn hf
      simp only [takeV, takeS, if_pos hn]
      exact this
    · have := take_no w R s n h (by omega) hb
      simp only [takeV, takeS, if_neg hn]
      exact this
theorem num_yes (w : World) (R : Nat) (s : ByteArray) (most : Nat) (h : Rdr w R s false) (hn : 6 ≤ s.size) (hb : s.size ≤ 9223372036854775807) (hm : most ≤ 9223372036854775807) (hv : valB (s.extract 0 6) ≤ most) :
    Calls Tryz.prog 26 #[.pointer (some ⟨R, 0, none⟩), .int .i64 most] w (RdPost R w (.int .i64 (valB (s.extract 0 6))) (s.extract 6 s.size) false) := by
  have HT := Lib.hid (take_yes w R s 6 h hn hb)
  have hsz : (s.extract 0 6).size = 6 := by simp; omega
  obtain ⟨S, hS⟩ : ∃ S, S = s.extract 0 6 := ⟨_, rfl⟩
  obtain ⟨S2, hS2⟩ : ∃ S, S = s.extract 6 s.size := ⟨_, rfl⟩
  rw [← hS] at hsz hv HT ⊢
  rw [← hS2] at HT ⊢
  have HZ := Lib.hid hsz
  clear h hS hS2 hn hb hsz
  go_enter Tryz.func26, Tryz.ntmps26
  go_wp2_with (first
    | (go_at_call 45; refine HT.out.mono ?_; rintro e w1 ⟨rfl, hr, hg⟩))
  rw [Lib.run_convert_string_bytes w1 9 70 5 S (u := .string) Tryz.underlying9 Tryz.underlying70 Tryz.underlying5]
  simp only [Result.andThen]
  rw [Oper.upon_value]
  have hcell := fun j (hj : j < 6) => Lib.bytesWorld_cell w1 5 S j (by rw [HZ.out]; exact hj)
  have hG := grownBy_trans hg (bytes_grown w1 5 S (some R))
  have hR2 : Rdr (Lib.bytesWorld w1 5 S) R S2 false := Blk.grown hr (bytes_grown w1 5 S none) (by simp)
  obtain ⟨W, hW⟩ : ∃ W, W = Lib.bytesWorld w1 5 S := ⟨_, rfl⟩
  obtain ⟨B, hB⟩ : ∃ B, B = w1.heap.size := ⟨_, rfl⟩
  obtain ⟨C, hC⟩ : ∃ C, C = grownCap w1 6 0 5 := ⟨_, rfl⟩
  rw [← hW, ← hB, HZ.out, ← hC]
  rw [← hW, ← hB] at hcell
  rw [← hW] at hG hR2
  have HG := Lib.hid hG
  have HR := Lib.hid hR2
  have HC := Lib.hid hcell
  clear hW hB hC hG hR2 hcell hr hg
  go_wp2
  go_outline
  go_loop [5, 12] (fun x i => ∃ k : Nat, k ≤ 6 ∧ i = .int .i64 k ∧ x = .int .i64 (Scr.unbe (S.data.toList.take k) : Nat)) (fun _ i => 6 - (intOf i).toNat)
  case atStart => exact ⟨0, Nat.zero_le _, rfl, rfl⟩
  case round =>
    obtain ⟨k, hk, rfl, rfl⟩ := hrel
    by_cases hlt : k < 6
    · have hc := HC.out k hlt
      go_wp2
      go_round
      case rel =>
        refine ⟨k + 1, by omega, by go_num, ?_⟩
        exact round_val S k hlt HZ.out
      case measure => simp [intOf]; omega
    · obtain rfl : k = 6 := by omega
      have e : Scr.unbe (S.data.toList.take 6) = valB S := by unfold valB; rw [List.take_of_length_le]; have := HZ.out; simp; omega
      rw [e]
      clear e
      go_wp2
      go_ret
      exact ⟨rfl, HR.out, HG.out⟩

theorem num_zero (w : World) (R : Nat) (most : Nat) (hm : most ≤ 9223372036854775807) (T : Calls Tryz.prog 45 #[.pointer (some ⟨R, 0, none⟩), .int .i64 (6 : Nat)] w (OPost R w (.string emp) none)) :
    Calls Tryz.prog 26 #[.pointer (some ⟨R, 0, none⟩), .int .i64 most] w (OPost R w (.int .i64 0) none) := by
  have HT := Lib.hid T
  clear T
  go_enter Tryz.func26, Tryz.ntmps26
  go_wp2_with (first
    | (go_at_call 45; refine HT.out.mono ?_; rintro e w1 ⟨rfl, hr, hg⟩))
  rw [Lib.run_convert_string_bytes w1 9 70 5 emp (u := .string) Tryz.underlying9 Tryz.underlying70 Tryz.underlying5]
  simp only [Result.andThen]
  rw [Oper.upon_value]
  have hG := grownBy_trans hg (bytes_grown w1 5 emp (some R))
  have hR2 : RdrO (Lib.bytesWorld w1 5 emp) R none := Blk.grown hr (bytes_grown w1 5 emp none) (by simp)
  obtain ⟨W, hW⟩ : ∃ W, W = Lib.bytesWorld w1 5 emp := ⟨_, rfl⟩
  obtain ⟨B, hB⟩ : ∃ B, B = w1.heap.size := ⟨_, rfl⟩
  obtain ⟨C, hC⟩ : ∃ C, C = grownCap w1 emp.size 0 5 := ⟨_, rfl⟩
  rw [← hW, ← hB, ← hC, show emp.size = 0 from rfl]
  rw [← hW] at hG hR2
  have HG := Lib.hid hG
  have HR := Lib.hid hR2
  clear hW hB hC hG hR2 hr hg
  go_wp2
  go_loop [5, 12] (fun x i => i = .int .i64 0 ∧ x = .int .i64 0) (fun _ i => 0)
  case atStart => exact ⟨rfl, rfl⟩
  case round =>
    obtain ⟨rfl, rfl⟩ := hrel
    go_wp2
    go_ret
    exact ⟨rfl, HR.out, HG.out⟩
theorem num_big (w : World) (R : Nat) (s : ByteArray) (most : Nat) (h : Rdr w R s false) (hn : 6 ≤ s.size) (hb : s.size ≤ 9223372036854775807) (hm : most ≤ 9223372036854775807) (hv : most < valB (s.extract 0 6)) :
    Calls Tryz.prog 26 #[.pointer (some ⟨R, 0, none⟩), .int .i64 most] w (OPost R w (.int .i64 0) none) := by
  have HT := Lib.hid (take_yes w R s 6 h hn hb)
  have hsz : (s.extract 0 6).size = 6 := by simp; omega
  obtain ⟨S, hS⟩ : ∃ S, S = s.extract 0 6 := ⟨_, rfl⟩
  obtain ⟨S2, hS2⟩ : ∃ S, S = s.extract 6 s.size := ⟨_, rfl⟩
  rw [← hS] at hsz hv HT
  rw [← hS2] at HT
  have HZ := Lib.hid hsz
  clear h hS hS2 hn hb hsz
  go_enter Tryz.func26, Tryz.ntmps26
  go_wp2_with (first
    | (go_at_call 45; refine HT.out.mono ?_; rintro e w1 ⟨rfl, hr, hg⟩))
  rw [Lib.run_convert_string_bytes w1 9 70 5 S (u := .string) Tryz.underlying9 Tryz.underlying70 Tryz.underlying5]
  simp only [Result.andThen]
  rw [Oper.upon_value]
  have hcell := fun j (hj : j < 6) => Lib.bytesWorld_cell w1 5 S j (by rw [HZ.out]; exact hj)
  have hG := grownBy_trans hg (bytes_grown w1 5 S (some R))
  have hR2 : Rdr (Lib.bytesWorld w1 5 S) R S2 false := Blk.grown hr (bytes_grown w1 5 S none) (by simp)
  obtain ⟨W, hW⟩ : ∃ W, W = Lib.bytesWorld w1 5 S := ⟨_, rfl⟩
  obtain ⟨B, hB⟩ : ∃ B, B = w1.heap.size := ⟨_, rfl⟩
  obtain ⟨C, hC⟩ : ∃ C, C = grownCap w1 6 0 5 := ⟨_, rfl⟩
  rw [← hW, ← hB, HZ.out, ← hC]
  rw [← hW, ← hB] at hcell
  rw [← hW] at hG hR2
  have HG := Lib.hid hG
  have HR := Lib.hid hR2
  have HC := Lib.hid hcell
  clear hW hB hC hG hR2 hcell hr hg
  go_wp2
  go_outline
  go_loop [5, 12] (fun x i => ∃ k : Nat, k ≤ 6 ∧ i = .int .i64 k ∧ x = .int .i64 (Scr.unbe (S.data.toList.take k) : Nat)) (fun _ i => 6 - (intOf i).toNat)
  case atStart => exact ⟨0, Nat.zero_le _, rfl, rfl⟩
  case round =>
    obtain ⟨k, hk, rfl, rfl⟩ := hrel
    by_cases hlt : k < 6
    · have hc := HC.out k hlt
      go_wp2
      go_round
      case rel =>
        refine ⟨k + 1, by omega, by go_num, ?_⟩
        exact round_val S k hlt HZ.out
      case measure => simp [intOf]; omega
    · obtain rfl : k = 6 := by omega
      have e : Scr.unbe (S.data.toList.take 6) = valB S := by unfold valB; rw [List.take_of_length_le]; have := HZ.out; simp; omega
      rw [e]
      clear e
      go_wp2_with (go_at_call 46; refine (fail_any _ R _ _ HR.out).mono ?_; rintro e w2 ⟨rfl, hr2, hg2⟩)
      go_ret
      exact ⟨rfl, hr2, grownBy_trans HG.out hg2⟩

def numV (most : Nat) : Option ByteArray → Nat
  | none => 0
  | some s => if 6 ≤ s.size ∧ valB (s.extract 0 6) ≤ most then valB (s.extract 0 6) else 0
def numS (most : Nat) : Option ByteArray → Option ByteArray
  | none => none
  | some s => if 6 ≤ s.size ∧ valB (s.extract 0 6) ≤ most then some (s.extract 6 s.size) else none
theorem num_any (w : World) (R : Nat) (st : Option ByteArray) (most : Nat) (h : RdrO w R st) (hf : fits st) (hm : most ≤ 9223372036854775807) :
    Calls Tryz.prog 26 #[.pointer (some ⟨R, 0, none⟩), .int .i64 most] w (OPost R w (.int .i64 (numV most st)) (numS most st)) := by
  cases st with
  | none => exact num_zero w R most hm (take_any w R none 6 h hf (by omega))
  | some s =>
    by_cases hn : 6 ≤ s.size
    · by_cases hv : valB (s.extract 0 6) ≤ most
      · simp only [numV, numS, if_pos (show 6 ≤ s.size ∧ valB (s.extract 0 6) ≤ most from ⟨hn, hv⟩)]
        exact num_yes w R s most h hn hf hm hv
      · simp only [numV, numS, if_neg (show ¬ (6 ≤ s.size ∧ valB (s.extract 0 6) ≤ most) from fun x => hv x.2)]
        exact num_big w R s most h hn hf hm (by omega)
    · simp only [numV, numS, if_neg (show ¬ (6 ≤ s.size ∧ valB (s.extract 0 6) ≤ most) from fun x => hn x.1)]
      have T := take_any w R (some s) 6 h hf (by omega)
      simp only [takeV, takeS, if_neg hn] at T
      exact num_zero w R most hm T

end Go.Proofs.YtapkhldfbdcblaaGreatDoor

namespace Go.Proofs.YtapkhldfbdcblaaGreatDoor
open Go Go.RowKit Go.Proofs
set_option maxRecDepth 100000
set_option linter.unusedVariables false

theorem read_any (w : World) (s : ByteArray) : Calls Tryz.prog 25 #[.string s] w fun e w' => e = .returned (.pointer (some ⟨w.heap.size, 0, none⟩)) ∧ w' = w.alloc (.cells #[.string s, .bool false] 96) := by
  go_enter Tryz.func25, Tryz.ntmps25
  go_wp2
  go_ret
  exact ⟨rfl, rfl⟩

def BoolPost (w : World) (b : Bool) (e : Ending) (w' : World) : Prop := e = .returned (.bool b) ∧ w = w'
theorem ok_any (w : World) (R : Nat) (st : Option ByteArray) (h : RdrO w R st) : Calls Tryz.prog 28 #[.pointer (some ⟨R, 0, none⟩)] w (BoolPost w st.isSome) := by
  cases st with
  | none =>
    have h1 := Blk.cell h 1
    simp at h1
    clear h
    go_enter Tryz.func28, Tryz.ntmps28
    go_wp2
    go_ret
    exact ⟨rfl, rfl⟩
  | some s =>
    have h1 := Blk.cell h 1
    simp at h1
    clear h
    go_enter Tryz.func28, Tryz.ntmps28
    go_wp2
    go_ret
    exact ⟨rfl, rfl⟩
def doneV : Option ByteArray → Int
  | none => 2
  | some s => if s.size = 0 then 0 else 2
theorem emp_of {s : ByteArray} (h : s.size = 0) : s = emp := by
  obtain ⟨d⟩ := s
  have : d = #[] := Array.eq_empty_of_size_eq_zero h
  subst this
  rfl
theorem notEmpty {s : ByteArray} (h : s.size ≠ 0) : s.toList.isEmpty = false := by
  cases e : s.toList.isEmpty with
  | false => rfl
  | true =>
    have h1 := List.isEmpty_iff.1 e
    have h2 : s.toList.length = s.size := by rw [ByteArray.toList_eq]; rfl
    rw [h1] at h2
    exact absurd h2.symm h
def IntPost (w : World) (n : Int) (e : Ending) (w' : World) : Prop := e = .returned (.int .i64 n) ∧ w = w'
theorem done_any (w : World) (R : Nat) (st : Option ByteArray) (h : RdrO w R st) : Calls Tryz.prog 30 #[.pointer (some ⟨R, 0, none⟩)] w (IntPost w (doneV st)) := by
  have hk := ok_any w R st h
  cases st with
  | none =>
    have HK := Lib.hid hk
    clear hk h
    go_enter Tryz.func30, Tryz.ntmps30
    go_wp2_with (go_at_call 28; refine HK.out.mono ?_; rintro e w1 ⟨rfl, rfl⟩)
    go_ret
    exact ⟨rfl, rfl⟩
  | some s =>
    have h0 := Blk.cell h 0
    simp at h0
    have HK := Lib.hid hk
    clear hk h
    by_cases hs : s.size = 0
    · obtain rfl := emp_of hs
      have h0' : w.cell? ⟨R, 0, none⟩ = some (.string ⟨#[]⟩) := h0
      clear h0 hs
      go_enter Tryz.func30, Tryz.ntmps30
      go_wp2_with (go_at_call 28; refine HK.out.mono ?_; rintro e w1 ⟨rfl, rfl⟩)
      go_ret
      exact ⟨rfl, rfl⟩
    · have hn1 : s.toList.isEmpty = false := notEmpty hs
      have hn2 : ¬ s.toList = [] := fun e => by rw [e] at hn1; cases hn1
      simp only [doneV, if_neg hs]
      have HS := Lib.hid hs
      clear hs
      go_enter Tryz.func30, Tryz.ntmps30
      go_wp2_with (go_at_call 28; refine HK.out.mono ?_; rintro e w1 ⟨rfl, rfl⟩)
      go_ret
      exact ⟨rfl, rfl⟩

def textK (s : ByteArray) : Nat := valB (s.extract 0 2)
def textV (most : Nat) : Option ByteArray → ByteArray
  | none => emp
  | some s => if 2 ≤ s.size then (if textK s ≤ most then takeV (textK s) (some (s.extract 2 s.size)) else emp) else emp
def textS (most : Nat) : Option ByteArray → Option ByteArray
  | none => none
  | some s => if 2 ≤ s.size then (if textK s ≤ most then takeS (textK s) (some (s.extract 2 s.size)) else none) else none

theorem text_none (w : World) (R : Nat) (most : Nat) (T : Calls Tryz.prog 45 #[.pointer (some ⟨R, 0, none⟩), .int .i64 (2 : Nat)] w (OPost R w (.string emp) none)) :
    Calls Tryz.prog 27 #[.pointer (some ⟨R, 0, none⟩), .int .i64 most] w (OPost R w (.string emp) none) := by
  have HT : Hid (Calls Tryz.prog 45 #[.pointer (some ⟨R, 0, none⟩), .int .i64 (2 : Nat)] w (OPost R w (.string ⟨#[]⟩) none)) := Lib.hid T
  clear T
  go_enter Tryz.func27, Tryz.ntmps27
  go_wp2_with (first
    | (go_at_call 45; refine HT.out.mono ?_; rintro e w1 ⟨rfl, hr, hg⟩))
  go_ret
  exact ⟨rfl, hr, hg⟩

theorem val2 (S : ByteArray) (hs : S.size = 2) : (bits BinOp.or IntKind.i64 (wrap64 (wrap64 ↑(S[0]'(by omega)).toNat * 256)) (wrap64 ↑(S[1]'(by omega)).toNat)) = ((valB S : Nat) : Int) := by
  obtain ⟨⟨l⟩⟩ := S
  match l, hs with
  | [a, b], _ =>
    have ha := a.toNat_lt
    have hb := b.toNat_lt
    show bits BinOp.or IntKind.i64 (wrap64 (wrap64 (a.toNat : Int) * 256)) (wrap64 (b.toNat : Int)) = _
    rw [wrap64_nat a.toNat (by omega), shl_or _ _ (by omega) (by omega)]
    simp [valB, Scr.unbe]
theorem val2_lt (S : ByteArray) (hs : S.size = 2) : valB S < 65536 := by
  have h := Scr.unbe_lt S.data.toList
  have hl : S.data.toList.length = 2 := by simpa using hs
  rw [hl] at h
  exact h
theorem text_yes (w : World) (R : Nat) (s : ByteArray) (most : Nat) (h : Rdr w R s false) (hn : 2 ≤ s.size) (hf : s.size ≤ 9223372036854775807) (hm : most ≤ 9223372036854775807) (hv : textK s ≤ most) :
    Calls Tryz.prog 27 #[.pointer (some ⟨R, 0, none⟩), .int .i64 most] w (OPost R w (.string (takeV (textK s) (some (s.extract 2 s.size)))) (takeS (textK s) (some (s.extract 2 s.size)))) := by
  have HT := Lib.hid (take_yes w R s 2 h hn hf)
  have hsz : (s.extract 0 2).size = 2 := by simp; omega
  have h2 : (s.extract 2 s.size).size ≤ 9223372036854775807 := by simp; omega
  unfold textK at *
  obtain ⟨S, hS⟩ : ∃ S, S = s.extract 0 2 := ⟨_, rfl⟩
  obtain ⟨S2, hS2⟩ : ∃ S, S = s.extract 2 s.size := ⟨_, rfl⟩
  rw [← hS] at hsz hv HT ⊢
  rw [← hS2] at HT h2 ⊢
  clear h hS hS2 hn hf
  have hn1 : S.toList.isEmpty = false := notEmpty (by omega)
  have hn2 : ¬ S.toList = [] := fun e => by rw [e] at hn1; cases hn1
  have HZ := Lib.hid hsz
  have q0 : (0 : Int) < S.size := by omega
  have q1 : (1 : Int) < S.size := by omega
  have q2 : 0 < S.size := by omega
  have q3 : 1 < S.size := by omega
  clear hsz
  go_enter Tryz.func27, Tryz.ntmps27
  go_wp2_with (first
    | (go_at_call 45; refine HT.out.mono ?_; rintro e w1 ⟨rfl, hr, hg⟩))
  go_quiet (fail)
  rw [val2 S HZ.out]
  have HR := Lib.hid (show RdrO (w1.drewN nq) R (some S2) from hr)
  have HG := Lib.hid (show w.grownBy (w1.drewN nq) (some R) from ⟨hg.os, hg.tape, hg.output, hg.size, hg.block⟩)
  obtain ⟨W, hW⟩ : ∃ W, W = w1.drewN nq := ⟨_, rfl⟩
  rw [← hW] at HR HG ⊢
  clear hW hr hg
  have hk : valB S ≤ 9223372036854775807 := by omega
  go_wp2_with (first
    | (go_at_call 45; refine (take_any _ R _ _ HR.out h2 hk).mono ?_; rintro e w2 ⟨rfl, hr2, hg2⟩))
  go_ret
  exact ⟨rfl, hr2, grownBy_trans HG.out hg2⟩

theorem text_big (w : World) (R : Nat) (s : ByteArray) (most : Nat) (h : Rdr w R s false) (hn : 2 ≤ s.size) (hf : s.size ≤ 9223372036854775807) (hm : most ≤ 9223372036854775807) (hv : most < textK s) :
    Calls Tryz.prog 27 #[.pointer (some ⟨R, 0, none⟩), .int .i64 most] w (OPost R w (.string emp) none) := by
  have HT := Lib.hid (take_yes w R s 2 h hn hf)
  have hsz : (s.extract 0 2).size = 2 := by simp; omega
  unfold textK at *
  obtain ⟨S, hS⟩ : ∃ S, S = s.extract 0 2 := ⟨_, rfl⟩
  obtain ⟨S2, hS2⟩ : ∃ S, S = s.extract 2 s.size := ⟨_, rfl⟩
  rw [← hS] at hsz hv HT
  rw [← hS2] at HT
  clear h hS hS2 hn hf
  have hn1 : S.toList.isEmpty = false := notEmpty (by omega)
  have hn2 : ¬ S.toList = [] := fun e => by rw [e] at hn1; cases hn1
  have HZ := Lib.hid hsz
  have q0 : (0 : Int) < S.size := by omega
  have q1 : (1 : Int) < S.size := by omega
  have q2 : 0 < S.size := by omega
  have q3 : 1 < S.size := by omega
  clear hsz
  go_enter Tryz.func27, Tryz.ntmps27
  go_wp2_with (first
    | (go_at_call 45; refine HT.out.mono ?_; rintro e w1 ⟨rfl, hr, hg⟩))
  go_quiet (fail)
  rw [val2 S HZ.out]
  have HR := Lib.hid (show RdrO (w1.drewN nq) R (some S2) from hr)
  have HG := Lib.hid (show w.grownBy (w1.drewN nq) (some R) from ⟨hg.os, hg.tape, hg.output, hg.size, hg.block⟩)
  obtain ⟨W, hW⟩ : ∃ W, W = w1.drewN nq := ⟨_, rfl⟩
  rw [← hW] at HR HG ⊢
  clear hW hr hg
  have hk : valB S ≤ 9223372036854775807 := by have := val2_lt S HZ.out; omega
  go_wp2_with (first
    | (go_at_call 46; refine (fail_any _ R _ _ HR.out).mono ?_; rintro e w2 ⟨rfl, hr2, hg2⟩)
    | (go_at_call 45; refine (take_any _ R none _ hr2 trivial hk).mono ?_; rintro e w3 ⟨rfl, hr3, hg3⟩))
  go_ret
  exact ⟨rfl, hr3, grownBy_trans HG.out (grownBy_trans hg2 hg3)⟩

theorem text_any (w : World) (R : Nat) (st : Option ByteArray) (most : Nat) (h : RdrO w R st) (hf : fits st) (hm : most ≤ 9223372036854775807) :
    Calls Tryz.prog 27 #[.pointer (some ⟨R, 0, none⟩), .int .i64 most] w (OPost R w (.string (textV most st)) (textS most st)) := by
  cases st with
  | none => exact text_none w R most (take_any w R none 2 h hf (by omega))
  | some s =>
    by_cases hn : 2 ≤ s.size
    · by_cases hv : textK s ≤ most
      · simp only [textV, textS, if_pos hn, if_pos hv]
        exact text_yes w R s most h hn hf hm hv
      · simp only [textV, textS, if_pos hn, if_neg hv]
        exact text_big w R s most h hn hf hm (by omega)
    · simp only [textV, textS, if_neg hn]
      have T := take_any w R (some s) 2 h hf (by omega)
      simp only [takeV, takeS, if_neg hn] at T
      exact text_none w R most T

end Go.Proofs.YtapkhldfbdcblaaGreatDoor

namespace Go.Proofs.YtapkhldfbdcblaaGreatDoor
open Go Go.RowKit Go.Proofs
set_option maxRecDepth 100000
set_option linter.unusedVariables false

theorem fate_ok (w : World) (f : Int) (h0 : 0 ≤ f) (h2 : f ≤ 2) : Calls Tryz.prog 48 #[.int .i64 f] w (BoolPost w false) := by
  have d0 : decide (f < 0) = false := by simp; omega
  have d2 : decide (2 < f) = false := by simp; omega
  go_enter Tryz.func48, Tryz.ntmps48
  go_wp2
  go_ret
  exact ⟨rfl, rfl⟩

/-- A slice of fates, nil let in. -/
def Fates (w : World) (A : Option Addr) (l : List Nat) : Prop := 0 < l.length → ∃ g, A = some ⟨g, 0, none⟩ ∧ ∀ j, j < l.length → w.cell? ⟨g, j, none⟩ = some (.int .i64 (l.getD j 0 : Nat))
theorem Fates.lt {w : World} {g : Nat} {l : List Nat} (h : ∀ j, j < l.length → w.cell? ⟨g, j, none⟩ = some (.int .i64 (l.getD j 0 : Nat))) (hl : 0 < l.length) : g < w.heap.size := World.block_lt_of_cell? _ _ (h 0 hl)
theorem fates_alloc {w : World} {A : Option Addr} {l : List Nat} (h : Fates w A l) (o : Obj) : Fates (w.alloc o) A l := fun hl => by
  obtain ⟨g, e, hc⟩ := h hl
  exact ⟨g, e, fun j hj => (World.cell?_alloc_lt w o ⟨g, j, none⟩ (Fates.lt hc hl)).trans (hc j hj)⟩
theorem index_none (w : World) (A : Option Addr) (l : List Nat) (cap : Nat) (h : Fates w A l) (hs : l.length ≤ 1000) (hl : ∀ f ∈ l, f ≤ 2) : Calls Tryz.prog 74 #[.slice A l.length cap, .func (.func 48) #[] #[]] w (IntPost w (-1)) := by
  obtain ⟨n, hn⟩ : ∃ n, n = l.length := ⟨_, rfl⟩
  obtain ⟨F, hF⟩ : ∃ F : Nat → Nat, F = fun j => l.getD j 0 := ⟨_, rfl⟩
  have hf : ∀ j, j < n → F j ≤ 2 := fun j hj => by
    rw [hF]
    have : l.getD j 0 = l[j]'(by omega) := by simp [List.getD, List.getElem?_eq_getElem (show j < l.length by omega)]
    show l.getD j 0 ≤ 2
    rw [this]
    exact hl _ (List.getElem_mem _)
  have hc : 0 < n → ∃ g, A = some ⟨g, 0, none⟩ ∧ ∀ j, j < n → w.cell? ⟨g, j, none⟩ = some (.int .i64 (F j)) := by rw [hn, hF]; exact h
  rw [← hn] at hs ⊢
  clear h hl hn hF
  have HF := Lib.hid hf
  have HC := Lib.hid hc
  clear hf hc
  go_enter Tryz.func74, Tryz.ntmps74
  go_wp2
  go_loop [8] (fun i => ∃ k : Nat, k ≤ n ∧ i = .int .i64 k) (fun i => n - (intOf i).toNat)
  case atStart => exact ⟨0, Nat.zero_le _, rfl⟩
  case round =>
    obtain ⟨k, hk, rfl⟩ := hrel
    by_cases hlt : k < n
    · obtain ⟨g, rfl, hc⟩ := HC.out (by omega)
      have hc1 := hc k hlt
      have hf1 := HF.out k hlt
      clear hc
      go_wp2_with (go_at_call 48; refine (fate_ok _ _ (by omega) (by omega)).mono ?_; rintro e w1 ⟨rfl, rfl⟩)
      go_round
      case rel => exact ⟨k + 1, by omega, by go_num⟩
      case measure => simp [intOf]; omega
    · go_wp2
      go_ret
      exact ⟨rfl, rfl⟩

theorem contains_none (w : World) (A : Option Addr) (l : List Nat) (cap : Nat) (h : Fates w A l) (hs : l.length ≤ 1000) (hl : ∀ f ∈ l, f ≤ 2) : Calls Tryz.prog 47 #[.slice A l.length cap, .func (.func 48) #[] #[]] w (BoolPost w false) := by
  have HI := Lib.hid (index_none w A l cap h hs hl)
  clear h hl
  go_enter Tryz.func47, Tryz.ntmps47
  go_wp2_with (go_at_call 74; refine HI.out.mono ?_; rintro e w1 ⟨rfl, rfl⟩)
  go_ret
  exact ⟨rfl, rfl⟩

theorem run_max3 {P : Program} (w : World) (ts : Array TypeId) (t : TypeId) (k k' k'' : IntKind) (x y z : Int) :
    (Builtin.max_ ts t #[.int k x, .int k' y, .int k'' z]).run P w = .ok (.int k (max (max x y) z)) w := by
  have e : ∀ x y : Int, (if y > x then y else x) = max x y := fun x y => by
    rw [Int.max_def]
    split <;> split <;> omega
  simp [Builtin.max_, Builtin.max2, e]
theorem run_min3 {P : Program} (w : World) (ts : Array TypeId) (t : TypeId) (k k' k'' : IntKind) (x y z : Int) :
    (Builtin.min_ ts t #[.int k x, .int k' y, .int k'' z]).run P w = .ok (.int k (min (min x y) z)) w := by
  have e : ∀ x y : Int, (if y < x then y else x) = min x y := fun x y => by
    rw [Int.min_def]
    split <;> split <;> omega
  simp [Builtin.min_, Builtin.min2, e]
def BelowBool (w : World) (b : Bool) (e : Ending) (w' : World) : Prop := e = .returned (.bool b) ∧ w.grownBy w' none
theorem right_no (w : World) (who n m : Int) (t : ByteArray) (A : Option Addr) (len cap : Nat) : Calls Tryz.prog 29 #[.agg #[.int .i64 0, .int .i64 who, .int .i64 n, .int .i64 m, .string t, .slice A len cap]] w (BelowBool w false) := by
  go_enter Tryz.func29, Tryz.ntmps29
  go_wp2
  go_ret
  exact ⟨rfl, World.grownBy_alloc _ _ _⟩

theorem right_yes (w : World) (s : Scr.Step) (t : ByteArray) (A : Option Addr) (cap : Nat) (h : s.right) (ht : t.data.toList = s.text) (hF : Fates w A s.fates) :
    Calls Tryz.prog 29 #[.agg #[.int .i64 s.kind, .int .i64 s.who, .int .i64 s.n, .int .i64 s.m, .string t, .slice A s.fates.length cap]] w (BelowBool w true) := by
  obtain ⟨kind, who, n, m, text, fates⟩ := s
  obtain ⟨h0, h1, h2, h3, h4, h5, h6, h7⟩ := h
  simp only at h0 h1 h2 h3 h4 h5 h6 h7 ht hF ⊢
  have hsz : t.size ≤ 500 := by rw [← ht] at h5; simpa using h5
  have HK := Lib.hid (fun o => contains_none (w.alloc o) A fates cap (fates_alloc hF o) (by omega) h7)
  clear hF h7 ht h5
  obtain ⟨lo, hlo⟩ : ∃ lo : Int, lo = min (min (who : Int) n) m := ⟨_, rfl⟩
  obtain ⟨hi, hhi⟩ : ∃ hi : Int, hi = max (max (who : Int) n) m := ⟨_, rfl⟩
  have g0 : 0 ≤ lo := by omega
  have g1 : hi ≤ 1048576 := by omega
  have HL := Lib.hid hlo
  have HH := Lib.hid hhi
  clear hlo hhi h2 h3 h4
  go_enter Tryz.func29, Tryz.ntmps29
  go_wp2
  rw [run_min3]
  simp only [Result.andThen]
  rw [Oper.upon_value, ← HL.out]
  go_wp2
  rw [run_max3]
  simp only [Result.andThen]
  rw [Oper.upon_value, ← HH.out]
  go_wp2_with (go_at_call 47; refine (HK.out _).mono ?_; rintro e w1 ⟨rfl, rfl⟩)
  go_ret
  exact ⟨rfl, World.grownBy_alloc _ _ _⟩

end Go.Proofs.YtapkhldfbdcblaaGreatDoor

namespace Go.Proofs.YtapkhldfbdcblaaGreatDoor
open Go Go.RowKit Go.Proofs
set_option maxRecDepth 100000
set_option linter.unusedVariables false

theorem Tryz.info5 : (Tryz.prog.info? 5).map (fun i => (i.zero, i.size, i.bytes)) = some (some (.int .u8 0), 1, 1) := by kernel_rfl
def bv (l : List UInt8) : List Value := l.map fun c => .int .u8 c.toNat
theorem bv_len (l : List UInt8) : (bv l).length = l.length := by simp [bv]
theorem bv_app (a b : List UInt8) : bv (a ++ b) = bv a ++ bv b := by simp [bv]
/-- What the bytes' slice came to: the old row written on, or a new one. -/
structure Grew (base : Nat) (w : World) (row : Option Nat) (w' : World) (v : Value) (xs : List UInt8) : Prop where
  own : w'.ownsRow base 5 1 v xs.length (bv xs)
  grown : w.grownBy w' row
  at_ : v.ownBlock = row ∨ ∃ g, v.ownBlock = some g ∧ w.heap.size ≤ g
theorem Grew.step {base : Nat} {w wr w2 : World} {row : Option Nat} {v v2 : Value} {xs ys : List UInt8} (h : Grew base w row wr v xs) (k : Grew base wr v.ownBlock w2 v2 ys) : Grew base w row w2 v2 ys := by
  refine ⟨k.own, ?_, ?_⟩
  · refine ⟨k.grown.os.trans h.grown.os, k.grown.tape.trans h.grown.tape, k.grown.output.trans h.grown.output, Nat.le_trans h.grown.size k.grown.size, fun i hi hr => ?_⟩
    refine (k.grown.block i (Nat.lt_of_lt_of_le hi h.grown.size) ?_).trans (h.grown.block i hi hr)
    rcases h.at_ with e | ⟨g, e, hg⟩
    · rw [e]; exact hr
    · rw [e]; intro e2; injection e2 with e2; omega
  · rcases k.at_ with e | ⟨g, e, hg⟩
    · rw [e]; exact h.at_
    · exact .inr ⟨g, e, Nat.le_trans h.grown.size hg⟩
theorem Grew.alloc {base : Nat} {w wr : World} {row : Option Nat} {v : Value} {xs : List UInt8} (h : Grew base w row wr v xs) (o : Obj) : Grew base w row (wr.alloc o) v xs :=
  ⟨h.own.alloc o, grownBy_trans h.grown (World.grownBy_alloc _ _ _), h.at_⟩
theorem Grew.refl {base : Nat} {w : World} {v : Value} {xs : List UInt8} (h : w.ownsRow base 5 1 v xs.length (bv xs)) : Grew base w v.ownBlock w v xs := ⟨h, grownBy_refl _ _, .inl rfl⟩
theorem Grew.of {base : Nat} {w w1 : World} {v : Value} {xs ys : List UInt8} {g cap : Nat} (h2 : w1.ownsRow base 5 1 (.slice (some ⟨g, 0, none⟩) (xs.length + ys.length) cap) (xs.length + ys.length) (bv xs ++ bv ys)) (h3 : w.grownBy w1 v.ownBlock)
    (h4 : v.ownBlock = some g ∨ g = w.heap.size) : Grew base w v.ownBlock w1 (.slice (some ⟨g, 0, none⟩) (xs.length + ys.length) cap) (xs ++ ys) := by
  refine ⟨by rw [bv_app, List.length_append]; exact h2, h3, ?_⟩
  rcases h4 with e | e
  · exact .inl e.symm
  · exact .inr ⟨g, rfl, by omega⟩

theorem Grew.of2 {base : Nat} {wr w1 : World} {o : Obj} {v : Value} {xs ys : List UInt8} {g cap : Nat} (h2 : w1.ownsRow base 5 1 (.slice (some ⟨g, 0, none⟩) (xs.length + ys.length) cap) (xs.length + ys.length) (bv xs ++ bv ys))
    (h3 : (wr.alloc o).grownBy w1 v.ownBlock) (h4 : v.ownBlock = some g ∨ g = wr.heap.size + 1) : Grew base wr v.ownBlock w1 (.slice (some ⟨g, 0, none⟩) (xs.length + ys.length) cap) (xs ++ ys) := by
  refine ⟨by rw [bv_app, List.length_append]; exact h2, grownBy_trans (World.grownBy_alloc _ _ _) h3, ?_⟩
  rcases h4 with e | e
  · exact .inl e.symm
  · exact .inr ⟨g, rfl, by omega⟩
theorem be_at : ∀ (k n j : Nat), j < k → (Scr.be k n).getD j 0 = UInt8.ofNat (n / 256 ^ (k - 1 - j) % 256)
  | k + 1, n, 0, _ => by simp [Scr.be]
  | k + 1, n, j + 1, h => by
    have := be_at k n j (by omega)
    simp only [Scr.be, List.getD_cons_succ, this]
    rw [show k + 1 - 1 - (j + 1) = k - 1 - j by omega]
theorem be_take (n j : Nat) (h : j < 6) : (Scr.be 6 n).take (j + 1) = (Scr.be 6 n).take j ++ [(Scr.be 6 n).getD j 0] := take_snoc _ _ (by rw [Scr.be_length]; exact h)

theorem be_val (n j : Nat) (h : j < 6) : bv [(Scr.be 6 n).getD j 0] = [.int .u8 ((n : Int) / 2 ^ (40 - 8 * j) % 256)] := by
  rw [be_at 6 n j h]
  have e : (UInt8.ofNat (n / 256 ^ (6 - 1 - j) % 256)).toNat = n / 256 ^ (6 - 1 - j) % 256 := by simp
  simp only [bv, List.map_cons, List.map_nil, e]
  have e2 : (256 : Nat) ^ (6 - 1 - j) = 2 ^ (40 - 8 * j) := by
    rw [show (256 : Nat) = 2 ^ 8 from rfl, ← Nat.pow_mul]; congr 1; omega
  rw [e2]
  simp
def NumPost (base : Nat) (w : World) (v : Value) (xs ys : List UInt8) (e : Ending) (w' : World) : Prop := ∃ v', e = .returned v' ∧ Grew base w v.ownBlock w' v' (xs ++ ys)
def wn (l : List Nat) : List UInt8 := l.flatMap Scr.wnum

theorem wn_len (l : List Nat) : (wn l).length = 6 * l.length := by
  induction l with
  | nil => rfl
  | cons a l ih => simp only [wn, List.flatMap_cons, List.length_append] at ih ⊢; rw [ih]; simp [Scr.wnum, Scr.be_length]; omega
theorem wn_take (l : List Nat) (k : Nat) (h : k < l.length) : wn (l.take (k + 1)) = wn (l.take k) ++ Scr.be 6 (l.getD k 0) := by
  unfold wn
  rw [List.take_succ_eq_append_getElem h, List.flatMap_append]
  simp only [List.flatMap_cons, List.flatMap_nil, List.append_nil, List.getD, List.getElem?_eq_getElem h, Option.getD_some, Scr.wnum]
theorem num_app (w : World) (base : Nat) (v : Value) (xs : List UInt8) (G : Nat) (l : List Nat) (cap : Nat) (hown : w.ownsRow base 5 1 v xs.length (bv xs)) (hB : base ≤ w.heap.size) (hG : Blk w G 3 (l.map fun n : Nat => Value.int .i64 n).toArray)
    (hl : ∀ n ∈ l, n ≤ 281474976710655) (hs : xs.length + 6 * l.length ≤ 1000000) : Calls Tryz.prog 31 #[v, .slice (some ⟨G, 0, none⟩) l.length cap] w (NumPost base w v xs (wn l)) := by
  obtain ⟨i0, hi0, hz0, hz1, hz2⟩ := info_parts Tryz.info5
  obtain ⟨N, hN⟩ : ∃ N, N = l.length := ⟨_, rfl⟩
  rw [← hN] at hs ⊢
  have HN := Lib.hid hN
  have HL := Lib.hid hl
  have HB := Lib.hid hG
  have HO := Lib.hid hown
  have HS := Lib.hid hs
  have hN2 : N ≤ 1000000 := by omega
  clear hN hl hG hown hs
  go_enter Tryz.func31, Tryz.ntmps31
  go_wp2
  go_loopw [0, 11] (fun v0 i wr => ∃ k : Nat, k ≤ N ∧ i = .int .i64 k ∧ Grew base w v.ownBlock wr v0 (xs ++ wn (l.take k)) ∧ Blk wr G 3 (l.map fun n : Nat => Value.int .i64 n).toArray) (fun _ i _ => N - (intOf i).toNat)
  case atStart => exact ⟨0, Nat.zero_le _, rfl, by simpa [wn] using Grew.refl HO.out, HB.out⟩
  case round =>
    obtain ⟨k, hk, rfl, hgr, hbl⟩ := hrel
    have HGr := Lib.hid hgr
    have HBl := Lib.hid hbl
    clear hgr hbl
    by_cases hlt : k < N
    · have hc : wr.cell? ⟨G, k, none⟩ = some (.int .i64 (l.getD k 0 : Nat)) := by
        rw [HBl.out.cell k]
        have := HN.out
        simp [List.getD, List.getElem?_eq_getElem (show k < l.length by omega)]
      obtain ⟨n, hn⟩ : ∃ n, n = l.getD k 0 := ⟨_, rfl⟩
      rw [← hn] at hc
      have HX := Lib.hid hn
      have hn1 : n ≤ 281474976710655 := by
        have := HN.out
        have e : l.getD k 0 = l[k]'(by omega) := by simp [List.getD, List.getElem?_eq_getElem (show k < l.length by omega)]
        rw [hn, e]; exact HL.out _ (List.getElem_mem _)
      clear hn
      go_wp2
      go_loopw [0, 8] (fun v0 i wr => ∃ j : Nat, j ≤ 6 ∧ i = .int .i64 (40 - 8 * (j : Int)) ∧ Grew base w v.ownBlock wr v0 (xs ++ wn (l.take k) ++ (Scr.be 6 n).take j) ∧ Blk wr G 3 (l.map fun n : Nat => Value.int .i64 n).toArray) (fun _ i _ => (intOf i + 8).toNat)
      case atStart => exact ⟨0, Nat.zero_le _, rfl, by simpa using HGr.out, HBl.out⟩
      case round =>
        obtain ⟨j, hj, rfl, hgr, hbl⟩ := hrel
        have HGr2 := Lib.hid hgr
        have HBl2 := Lib.hid hbl
        clear hgr hbl
        by_cases hj6 : j < 6
        · have hlen : (xs ++ wn (l.take k) ++ (Scr.be 6 n).take j).length ≤ 1000000 := by
            have := HS.out
            have := HN.out
            simp only [List.length_append, wn_len, List.length_take, Scr.be_length]; omega
          obtain ⟨ys, hys⟩ : ∃ ys, ys = xs ++ wn (l.take k) ++ (Scr.be 6 n).take j := ⟨_, rfl⟩
          rw [← hys] at HGr2 hlen
          have HY := Lib.hid hys
          have hb2 : base ≤ wr.heap.size := Nat.le_trans hB HGr2.out.grown.size
          clear hys
          go_wp2_with (at_builtin
                       refine wpList_append_lies _ rfl (.tmp 23) (.tmp 28) 70 rfl base 5 i0 (.int .u8 0) 1 1 Tryz.underlying70 hi0 hz0 hz1 hz2 rfl (by decide) u0 ys.length (bv ys) rfl (HGr2.out.own.alloc _) ⟨wr.heap.size, 0, none⟩ 1 1 [_] rfl rfl (cell_one_new wr _ 5) (by simp [Value.oneCell']) (by decide) (by simp only [maxLen]; omega) (by omega) (by simp; omega) (wr.heap.size + 1) (by simp) ?_
                       intro g cap w1 hown1 hgrow hat hlt1)
          go_roundw
          case rel =>
            refine ⟨j + 1, by omega, by congr 1; omega, ?_, ?_⟩
            · rw [be_take n j hj6, ← List.append_assoc, ← HY.out]
              rw [← be_val n j hj6] at hown1
              exact HGr2.out.step (Grew.of2 (ys := [(Scr.be 6 n).getD j 0]) hown1 hgrow hat)
            · exact Blk.grown (Blk.alloc HBl2.out _) hgrow (fun e => own_blk_ne HGr2.out.own HBl2.out (by decide) e.symm)
          case measure => simp [intOf]; omega
        · obtain rfl : j = 6 := by omega
          have hg3 : Grew base w v.ownBlock wr u0 (xs ++ wn (l.take (k + 1))) := by
            have h1 := HGr2.out
            rw [List.take_of_length_le (l := Scr.be 6 n) (by rw [Scr.be_length]; omega), List.append_assoc] at h1
            rw [wn_take l k (by have := HN.out; omega), ← HX.out]
            exact h1
          have HG3 := Lib.hid hg3
          clear hg3
          go_wp2
          go_roundw
          case rel => exact ⟨k + 1, by omega, by go_num, HG3.out, HBl2.out⟩
          case measure => simp [intOf]; omega
    · go_wp2
      obtain rfl : k = N := by omega
      go_ret
      exact ⟨_, rfl, by have := HGr.out; have h2 := HN.out; rw [h2, List.take_length] at this; exact this⟩

end Go.Proofs.YtapkhldfbdcblaaGreatDoor

namespace Go.Proofs.YtapkhldfbdcblaaGreatDoor
open Go Go.RowKit Go.Proofs
set_option maxRecDepth 100000
set_option linter.unusedVariables false
set_option maxHeartbeats 1000000

/-- The bytes' slice written on: nothing below the base has turned, and no block of another kind. -/
structure Gr (base : Nat) (w w' : World) (v : Value) (xs : List UInt8) : Prop where
  own : w'.ownsRow base 5 1 v xs.length (bv xs)
  below : Below base w w'
  other : ∀ g t cs, t ≠ 5 → Blk w g t cs → Blk w' g t cs
  le : base ≤ w'.heap.size
theorem Gr.refl {base : Nat} {w : World} {v : Value} {xs : List UInt8} (h : w.ownsRow base 5 1 v xs.length (bv xs)) (hb : base ≤ w.heap.size) : Gr base w w v xs := ⟨h, Below.refl _ _, fun _ _ _ _ h => h, hb⟩
theorem Gr.trans {base : Nat} {w w1 w2 : World} {v1 v2 : Value} {xs ys : List UInt8} (h : Gr base w w1 v1 xs) (k : Gr base w1 w2 v2 ys) : Gr base w w2 v2 ys :=
  ⟨k.own, h.below.trans k.below, fun g t cs ht hb => k.other g t cs ht (h.other g t cs ht hb), k.le⟩
theorem Gr.alloc {base : Nat} {w w1 : World} {v : Value} {xs : List UInt8} (h : Gr base w w1 v xs) (o : Obj) : Gr base w (w1.alloc o) v xs :=
  ⟨h.own.alloc o, h.below.alloc h.le o, fun g t cs ht hk => (h.other g t cs ht hk).alloc o, Nat.le_trans h.le (by simp)⟩
theorem Gr.app {base : Nat} {w w1 : World} {v v1 : Value} {n : Nat} {xs : List Value} {ys : List UInt8} (h : w.ownsRow base 5 1 v n xs) (hb : base ≤ w.heap.size) (hg : w.grownBy w1 v.ownBlock) (h1 : w1.ownsRow base 5 1 v1 ys.length (bv ys)) : Gr base w w1 v1 ys :=
  ⟨h1, (Below.refl _ _).grown hg hb (fun k hk => (h.lt k hk).1), fun g t cs ht hk => Blk.grown hk hg (fun e => own_blk_ne h hk (Ne.symm ht) e.symm), Nat.le_trans hb hg.size⟩
theorem Gr.none_ {base : Nat} {w w1 w2 : World} {v : Value} {xs : List UInt8} (h : Gr base w w1 v xs) (hg : w1.grownBy w2 none) : Gr base w w2 v xs :=
  ⟨h.own.kept hg (by cases hv : v.ownBlock <;> simp), h.below.grown hg h.le (by simp), fun g t cs ht hk => Blk.grown (h.other g t cs ht hk) hg (by simp), Nat.le_trans h.le hg.size⟩
theorem Gr.of {base : Nat} {w w1 : World} {v v1 : Value} {xs ys : List UInt8} (h : w.ownsRow base 5 1 v xs.length (bv xs)) (hb : base ≤ w.heap.size) (k : Grew base w v.ownBlock w1 v1 ys) : Gr base w w1 v1 ys := Gr.app h hb k.grown k.own

def BPost (base : Nat) (w : World) (ys : List UInt8) (e : Ending) (w' : World) : Prop := ∃ v', e = .returned v' ∧ Gr base w w' v' ys
theorem num_gr (w : World) (base : Nat) (v : Value) (xs : List UInt8) (G : Nat) (l : List Nat) (cap : Nat) (hown : w.ownsRow base 5 1 v xs.length (bv xs)) (hB : base ≤ w.heap.size) (hG : Blk w G 3 (l.map fun n : Nat => Value.int .i64 n).toArray)
    (hl : ∀ n ∈ l, n ≤ 281474976710655) (hs : xs.length + 6 * l.length ≤ 1000000) : Calls Tryz.prog 31 #[v, .slice (some ⟨G, 0, none⟩) l.length cap] w (BPost base w (xs ++ wn l)) :=
  (num_app w base v xs G l cap hown hB hG hl hs).mono fun e w' ⟨v', he, hg⟩ => ⟨v', he, Gr.of hown hB hg⟩

def wts (l : List ByteArray) : List UInt8 := l.flatMap fun t => Scr.wtext t.data.toList
theorem two_val (t : ByteArray) (h : t.size ≤ 500) : bv (Scr.be 2 t.data.toList.length) = [.int .u8 ((t.size : Int) / 256), .int .u8 ((t.size : Int) % 256)] := by
  have hl : t.data.toList.length = t.size := by simp
  rw [hl]
  have e : (t.size / 256) % 256 = t.size / 256 := Nat.mod_eq_of_lt (by omega)
  simp [Scr.be, bv, e]
theorem str_val (t : ByteArray) : Lib.strCells t = bv t.data.toList := by simp [Lib.strCells, bv]
theorem extract_all (t : ByteArray) : t.extract 0 t.size = t := by
  apply ByteArray.ext; simp

theorem wts_take (l : List ByteArray) (k : Nat) (h : k < l.length) : wts (l.take (k + 1)) = wts (l.take k) ++ Scr.wtext (l[k]'h).data.toList := by
  unfold wts
  rw [List.take_succ_eq_append_getElem h, List.flatMap_append]
  simp only [List.flatMap_cons, List.flatMap_nil, List.append_nil]
theorem wts_len (l : List ByteArray) (h : ∀ t ∈ l, t.size ≤ 500) (k : Nat) (hk : k ≤ l.length) : (wts (l.take k)).length ≤ 502 * k := by
  induction k with
  | zero => simp [wts]
  | succ k ih =>
    have h1 := ih (by omega)
    have h2 := h _ (List.getElem_mem (show k < l.length by omega))
    have h3 : (l[k]'(by omega)).data.toList.length = (l[k]'(by omega)).size := by simp
    rw [wts_take l k (by omega), List.length_append]
    simp only [Scr.wtext, List.length_append, Scr.be_length]
    omega
theorem text_app (w : World) (base : Nat) (v : Value) (xs : List UInt8) (G : Nat) (l : List ByteArray) (cap : Nat) (hown : w.ownsRow base 5 1 v xs.length (bv xs)) (hB : base ≤ w.heap.size) (hG : Blk w G 9 (l.map Value.string).toArray)
    (hl : ∀ t ∈ l, t.size ≤ 500) (hs : xs.length + 502 * l.length ≤ 1000000) : Calls Tryz.prog 32 #[v, .slice (some ⟨G, 0, none⟩) l.length cap] w (BPost base w (xs ++ wts l)) := by
  obtain ⟨i0, hi0, hz0, hz1, hz2⟩ := info_parts Tryz.info5
  obtain ⟨N, hN⟩ : ∃ N, N = l.length := ⟨_, rfl⟩
  rw [← hN] at hs ⊢
  have HN := Lib.hid hN
  have HL := Lib.hid hl
  have HB := Lib.hid hG
  have HO := Lib.hid hown
  have HS := Lib.hid hs
  have hN2 : N ≤ 1000000 := by omega
  clear hN hl hG hown hs
  go_enter Tryz.func32, Tryz.ntmps32
  go_wp2
  go_loopw [0, 9] (fun v0 i wr => ∃ k : Nat, k ≤ N ∧ i = .int .i64 k ∧ Gr base w wr v0 (xs ++ wts (l.take k))) (fun _ i _ => N - (intOf i).toNat)
  case atStart => exact ⟨0, Nat.zero_le _, rfl, by simpa [wts] using Gr.refl HO.out hB⟩
  case round =>
    obtain ⟨k, hk, rfl, hgr⟩ := hrel
    have HGr := Lib.hid hgr
    clear hgr
    by_cases hlt : k < N
    · have hbl := HGr.out.other _ _ _ (by decide) HB.out
      have hkl : k < l.length := by have := HN.out; omega
      have hc : wr.cell? ⟨G, k, none⟩ = some (.string (l[k]'hkl)) := by
        rw [hbl.cell k]
        simp [List.getElem?_eq_getElem hkl]
      obtain ⟨t, ht⟩ : ∃ t, t = l[k]'hkl := ⟨_, rfl⟩
      rw [← ht] at hc
      have hsz : t.size ≤ 500 := by rw [ht]; exact HL.out _ (List.getElem_mem _)
      have HX := Lib.hid ht
      clear ht hbl
      have hlen : (xs ++ wts (l.take k)).length + 502 ≤ 1000000 := by
        have := HS.out
        have := HN.out
        have := wts_len l HL.out k (by omega)
        simp only [List.length_append]; omega
      have hb2 : base ≤ wr.heap.size := HGr.out.le
      obtain ⟨ys, hys⟩ : ∃ ys, ys = xs ++ wts (l.take k) := ⟨_, rfl⟩
      rw [← hys] at HGr hlen
      have HY := Lib.hid hys
      clear hys
      go_wp2_with (first
        | (at_builtin
           refine wpList_append_lies _ rfl (.tmp 18) (.tmp 26) 70 rfl base 5 i0 (.int .u8 0) 1 1 Tryz.underlying70 hi0 hz0 hz1 hz2 rfl (by decide) u0 ys.length (bv ys) rfl (HGr.out.own.alloc _) ⟨wr.heap.size, 0, none⟩ 2 2 [_, _] rfl rfl (World.news_of_block (heap_alloc_new wr _)) (by simp [Value.oneCell']) (by decide) (by simp only [maxLen]; omega) (by omega) (by simp; omega) (wr.heap.size + 1) (by simp) ?_
           intro g cap1 w1 hown1 hgrow hat hlt1)
        | (at_builtin
           go_loud (refine Lib.wpList_append_own_string _ rfl (.tmp 28) (.tmp 29) 70 9 rfl base 5 i0 Tryz.underlying70 Tryz.underlying9 hi0 hz0 hz1 hz2 _ (ys.length + 2) _ rfl hown1 t rfl (by simp only [maxLen]; omega) (by omega) (by have := hgrow.size; simp at this; omega) ?_)
           intro v2 w2 hown2 hgrow2 hnil))
      go_roundw
      case rel =>
        refine ⟨k + 1, by omega, by go_num, ?_⟩
        have e1 : w1.ownsRow base 5 1 (.slice (some ⟨g, 0, none⟩) (ys.length + 2) cap1) (ys ++ Scr.be 2 t.data.toList.length).length (bv (ys ++ Scr.be 2 t.data.toList.length)) := by
          rw [bv_app, two_val t hsz, List.length_append, Scr.be_length]; exact hown1
        have e2 := HGr.out.trans (Gr.refl HGr.out.own hb2 |>.alloc _ |>.trans (Gr.app (HGr.out.own.alloc _) (by simp; omega) hgrow e1))
        have hb3 := e2.le
        have e3 := e2.trans (Gr.app hown1 hb3 hgrow2 (ys := ys ++ Scr.be 2 t.data.toList.length ++ t.data.toList) (by
          rw [bv_app, ← str_val, List.length_append, List.length_append, Scr.be_length, bv_app, two_val t hsz]
          have : t.data.toList.length = t.size := by simp
          rw [this]; exact hown2))
        rw [wts_take l k hkl, ← HX.out, ← List.append_assoc, ← HY.out]
        rw [List.append_assoc] at e3
        exact e3
      case measure => simp [intOf]; omega
    · go_wp2
      obtain rfl : k = N := by omega
      go_ret
      exact ⟨_, rfl, by have := HGr.out; have h2 := HN.out; rw [h2, List.take_length] at this; exact this⟩

theorem Gr.drew {base : Nat} {w w1 : World} {v : Value} {xs : List UInt8} (h : Gr base w w1 v xs) : Gr base w w1.drew v xs := ⟨h.own, h.below.drew, h.other, h.le⟩
theorem Blk.drew {w : World} {g : Nat} {t : TypeId} {cs : Array Value} (h : Blk w g t cs) : Blk w.drew g t cs := h
def BPost2 (base : Nat) (W w : World) (ys : List UInt8) (e : Ending) (w' : World) : Prop := ∃ v', e = .returned v' ∧ Gr base W w' v' ys ∧ Gr base w w' v' ys
/-- The two, onto what was laid since some world. -/
theorem num_go (W w : World) (base : Nat) (v : Value) (xs : List UInt8) (G : Nat) (l : List Nat) (n cap : Nat) (cs : Array Value) (hn : l.length = n) (hcs : cs = (l.map fun n : Nat => Value.int .i64 n).toArray) (hg : Gr base W w v xs) (hG : Blk w G 3 cs)
    (hl : ∀ n ∈ l, n ≤ 281474976710655) (hs : xs.length + 6 * l.length ≤ 1000000) : Calls Tryz.prog 31 #[v, .slice (some ⟨G, 0, none⟩) n cap] w (BPost2 base W w (xs ++ wn l)) := by
  subst hn hcs
  exact (num_gr w base v xs G l cap hg.own hg.le hG hl hs).mono fun e w' ⟨v', he, hk⟩ => ⟨v', he, hg.trans hk, hk⟩
theorem text_go (W w : World) (base : Nat) (v : Value) (xs : List UInt8) (G : Nat) (l : List ByteArray) (n cap : Nat) (cs : Array Value) (hn : l.length = n) (hcs : cs = (l.map Value.string).toArray) (hg : Gr base W w v xs) (hG : Blk w G 9 cs)
    (hl : ∀ t ∈ l, t.size ≤ 500) (hs : xs.length + 502 * l.length ≤ 1000000) : Calls Tryz.prog 32 #[v, .slice (some ⟨G, 0, none⟩) n cap] w (BPost2 base W w (xs ++ wts l)) := by
  subst hn hcs
  exact (text_app w base v xs G l cap hg.own hg.le hG hl hs).mono fun e w' ⟨v', he, hk⟩ => ⟨v', he, hg.trans hk, hk⟩
theorem Blk.new1 (w : World) (o : Obj) (t : TypeId) (cs : Array Value) : Blk ((w.alloc o).alloc (.cells cs t)) (w.heap.size + 1) t cs := by
  have := Blk.new (w.alloc o) t cs
  simpa using this
theorem Blk.new2 (w : World) (o o' : Obj) (t : TypeId) (cs : Array Value) : Blk (((w.alloc o).alloc o').alloc (.cells cs t)) (w.heap.size + 1 + 1) t cs := by
  have := Blk.new1 (w.alloc o) o' t cs
  simpa using this
theorem cs1 (a : Nat) : #[Value.int .i64 a] = ([a].map fun n : Nat => Value.int .i64 n).toArray := rfl
theorem cs4 (a b c d : Nat) : #[Value.int .i64 a, Value.int .i64 b, Value.int .i64 c, Value.int .i64 d] = ([a, b, c, d].map fun n : Nat => Value.int .i64 n).toArray := rfl
theorem ct1 (a : ByteArray) : #[Value.string a] = ([a].map Value.string).toArray := rfl

end Go.Proofs.YtapkhldfbdcblaaGreatDoor
