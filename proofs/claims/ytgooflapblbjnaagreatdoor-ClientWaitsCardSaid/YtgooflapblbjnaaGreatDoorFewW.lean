import Derived.Test.YtgooflapblbjnaaGreatDoorChecked
import Derived.WalkKit
import Derived.Below
import Derived.Deep.Slices
import Derived.Lib.Hide
set_option linter.unusedVariables false
set_option linter.unusedSimpArgs false
set_option linter.unusedSectionVars false
namespace Go.Proofs.YtgooflapblbjnaaGreatDoor
open Go Go.RowKit Go.Proofs
set_option maxRecDepth 100000
def SomeBool (w : World) (e : Ending) (w' : World) : Prop := ∃ b : Bool, e = .returned (.bool b) ∧ Below w.heap.size w w'
theorem someBool {w w' : World} {b : Bool} (h : Below w.heap.size w w') : SomeBool w (.returned (.bool b)) w' := ⟨b, rfl, h⟩

theorem few_nil (c0 c1 c2 c3 c6 c7 : Value) (s : ByteArray) (a : Option Addr) (cap : Nat) (w : World) : Calls Tryz.prog 5 #[.agg #[c0, c1, c2, c3, .slice a 0 cap, .string s, c6, c7]] w (SomeBool w) := by
  go_enter Tryz.func5, Tryz.ntmps5
  go_wp2
  go_loopw [8] (fun i wr => i = .int .i64 0 ∧ wr = w.alloc (.cells #[c0, c1, c2, c3, .slice a 0 cap, .string s, c6, c7] 25)) (fun i _ => 0)
  case atStart => exact ⟨rfl, rfl⟩
  case round =>
    obtain ⟨rfl, rfl⟩ := hrel
    go_wp2
    go_ret
    exact someBool (Below.alloc (Below.refl _ _) (Nat.le_refl _) _)

theorem size_of {B : Nat} {w wr : World} {o : Obj} (h : Below B (w.alloc o) wr) : w.heap.size + 1 ≤ wr.heap.size := by have := h.size; simpa using this
theorem few_some (c0 c1 c2 c3 c6 c7 : Value) (s : ByteArray) (b off len cap : Nat) (w : World) (hb : b < w.heap.size) (hm : len ≤ 9223372036854775807)
    (I0 I3 : Nat → Int) (S1 S2 : Nat → ByteArray) (B4 B5 : Nat → Bool)
    (hV : ∀ k, k < len → w.cell? ⟨b, off + k * 6, none⟩ = some (.int .i64 (I0 k)) ∧ w.cell? ⟨b, off + k * 6 + 1, none⟩ = some (.string (S1 k)) ∧ w.cell? ⟨b, off + k * 6 + 2, none⟩ = some (.string (S2 k)) ∧
      w.cell? ⟨b, off + k * 6 + 3, none⟩ = some (.int .i64 (I3 k)) ∧ w.cell? ⟨b, off + k * 6 + 4, none⟩ = some (.bool (B4 k)) ∧ w.cell? ⟨b, off + k * 6 + 5, none⟩ = some (.bool (B5 k))) :
    Calls Tryz.prog 5 #[.agg #[c0, c1, c2, c3, .slice (some ⟨b, off, none⟩) len cap, .string s, c6, c7]] w (SomeBool w) := by
  go_enter Tryz.func5, Tryz.ntmps5
  go_wp2
  go_loopw [8] (fun i wr => ∃ k : Nat, k ≤ len ∧ i = .int .i64 k ∧ Below (w.heap.size + 1) (w.alloc (.cells #[c0, c1, c2, c3, .slice (some ⟨b, off, none⟩) len cap, .string s, c6, c7] 25)) wr) (fun i _ => len - (intOf i).toNat)
  case atStart => exact ⟨0, Nat.zero_le _, rfl, Below.refl _ _⟩
  case round =>
    obtain ⟨k, hk, rfl, hbel⟩ := hrel
    have hx4 : wr.cell? ⟨w.heap.size, 4, none⟩ = some (.slice (some ⟨b, off, none⟩) len cap) := by
      rw [hbel.cell (p := ⟨w.heap.size, 4, none⟩) (Nat.lt_succ_self _), World.cell?_alloc_new]
      rfl
    have hx5 : wr.cell? ⟨w.heap.size, 5, none⟩ = some (.string s) := by
      rw [hbel.cell (p := ⟨w.heap.size, 5, none⟩) (Nat.lt_succ_self _), World.cell?_alloc_new]
      rfl
    have hsz : w.heap.size + 1 ≤ wr.heap.size := size_of hbel
    have hend : Below w.heap.size w wr := (Below.alloc (Below.refl _ _) (Nat.le_refl _) _).trans (hbel.mono (by omega))
    by_cases hlt : k < len
    · have hc : ∀ o u, w.cell? ⟨b, o, none⟩ = some u → wr.cell? ⟨b, o, none⟩ = some u := fun o u hu => by
        rw [hbel.cell (p := ⟨b, o, none⟩) (Nat.lt_succ_of_lt hb), World.cell?_alloc_lt _ _ _ hb]
        exact hu
      obtain ⟨hc0, hc1, hc2, hc3, hc4, hc5⟩ := hV k hlt
      replace hc0 := hc _ _ hc0
      replace hc1 := hc _ _ hc1
      replace hc2 := hc _ _ hc2
      replace hc3 := hc _ _ hc3
      replace hc4 := hc _ _ hc4
      replace hc5 := hc _ _ hc5
      clear hc hV
      have HS := Lib.hid hsz
      have HE := Lib.hid hend
      have HB := Lib.hid hbel
      clear hsz hend hbel
      go_wp2
      · go_ret
        exact someBool (HE.out.trans (Below.alloc (Below.refl _ _) (Nat.le_of_succ_le HS.out) _))
      · go_roundw
        case rel =>
          exact ⟨k + 1, by omega, by go_num, HB.out.trans (Below.alloc (Below.refl _ _) HS.out _)⟩
        case measure => simp [intOf]; omega
      · go_ret
        exact someBool (HE.out.trans (Below.alloc (Below.refl _ _) (Nat.le_of_succ_le HS.out) _))
    · have HE := Lib.hid hend
      clear hend hsz hbel hV
      go_wp2
      all_goals go_ret
      all_goals exact someBool HE.out

end Go.Proofs.YtgooflapblbjnaaGreatDoor
