/- An abstract executor, eleventh part: append and its kin. -/
import Derived.Test.YtapkhldfbdcblaaGreatDoorAxMaps2
set_option linter.unusedSectionVars false
set_option linter.unnecessarySimpa false
set_option linter.unusedSimpArgs false
set_option linter.unusedVariables false
namespace Go.Ax
noncomputable section
variable {P : Program}

def tuckBound : Nat := 1048576

/-- Cells of a row, written one behind the other. -/
theorem run_storeRow (P : Program) {B : Nat} {el : TypeId} {lo hi : Nat} : ∀ (us : List Value) (off i : Nat) (w : World) (C : Array Value), w.heap[B]? = some (.cells C el (lo, hi)) → off + i + us.length ≤ C.size →
    (∀ j, j < C.size → ¬ (lo ≤ j ∧ j < hi)) → (∀ u ∈ us, u.oneCell' = true) →
    ∃ w' C', (storeCells ⟨B, off, none⟩ us i).run P w = .ok () w' ∧ w'.heap[B]? = some (.cells C' el (lo, hi)) ∧ C'.size = C.size ∧ (∀ j, C'[j]? = if off + i ≤ j ∧ j < off + i + us.length then us[j - (off + i)]? else C[j]?) ∧
      w'.heap.size = w.heap.size ∧ (∀ k, k ≠ B → w'.heap[k]? = w.heap[k]?) ∧ w'.os = w.os ∧ w'.tape = w.tape ∧ w'.output = w.output
  | [], off, i, w, C, h, hl, hf, hc => ⟨w, C, by simp [storeCells], h, rfl, fun j => by rw [if_neg (by simp only [List.length_nil]; omega)], rfl, fun _ _ => rfl, rfl, rfl, rfl⟩
  | u :: us, off, i, w, C, h, hl, hf, hc => by
    simp only [List.length_cons] at hl
    have hlt : off + i < C.size := by omega
    have hcell : w.cell? ⟨B, off + i, none⟩ = some C[off + i] := by simp [World.cell?, h, hlt]
    have hfr : w.frozen? ⟨B, off + i, none⟩ = false := by
      simp only [World.frozen?, h]
      have := hf (off + i) hlt
      simpa using this
    have hset : (w.setCell ⟨B, off + i, none⟩ u).heap[B]? = some (.cells (C.setIfInBounds (off + i) u) el (lo, hi)) := setCell_heap h
    obtain ⟨w', C', k1, k2, k3, k4, k5, k6, k7, k8, k9⟩ := run_storeRow P us off (i + 1) (w.setCell ⟨B, off + i, none⟩ u) (C.setIfInBounds (off + i) u) hset (by simp; omega) (by simpa using hf) (fun v hv => hc v (by simp [hv]))
    refine ⟨w', C', ?_, k2, by simpa using k3, fun j => ?_, by rw [k5]; simp [World.setCell], fun k hk => by rw [k6 k hk]; exact setCell_other hk, k7, k8, k9⟩
    · simp only [storeCells, Sem.run_bind]
      rw [addr_add, run_store P w _ u .plain (hc u (by simp)), hcell]
      simp only [hfr, Bool.false_eq_true, if_false, Result.andThen_ok]
      exact k1
    · rw [k4 j]
      by_cases h1 : off + (i + 1) ≤ j ∧ j < off + (i + 1) + us.length
      · rw [if_pos h1, if_pos (by simp only [List.length_cons]; omega)]
        rw [show j - (off + i) = (j - (off + (i + 1))) + 1 by omega, List.getElem?_cons_succ]
      · rw [if_neg h1]
        by_cases h2 : j = off + i
        · subst h2
          rw [if_pos (by simp only [List.length_cons]; omega)]
          simp [hlt]
        · rw [if_neg (by simp only [List.length_cons]; omega)]
          rw [Array.getElem?_setIfInBounds_ne (by omega)]

theorem VRelL.oneCells {E : Env} {as : List AV} {us : List Value} (h : VRelL E as us) (hc : allCells as = true) : ∀ u ∈ us, u.oneCell' = true := by
  intro u hu
  obtain ⟨i, hi⟩ := List.getElem?_of_mem hu
  have hl := h.length
  have hlt : i < as.length := by have := (List.getElem?_eq_some_iff.1 hi).1; omega
  obtain ⟨v, hv, hr⟩ := h.get (List.getElem?_eq_getElem hlt)
  rw [hi] at hv
  obtain rfl : u = v := by simpa using hv
  have hcl := hr.cellLike (allCells_mem hc _ (List.getElem_mem hlt))
  cases u <;> simp_all [Value.oneCell']

/-- What is appended: how many elements, and their cells. -/
def addedA (P : Program) (h : AH) (el : TypeId) (sz : Nat) (x : AV) : Option (Nat × List AV) :=
  match x with
  | .nils => some (0, [])
  | .slice0 _ _ => some (0, [])
  | .slice b o len _ s => match cellsAt h b with
    | some cs => bif Nat.beq s sz && Nat.ble (o + len * sz) cs.length then some (len, (cs.drop o).take (len * sz)) else none
    | none => none
  | .str len n => bif byteElem P el && Nat.beq sz 1 then some (len, bytesA len n) else none
  | _ => none
theorem addedA_ok {E : Env} {h : AH} {w : World} (hr : HRel E h w) {el : TypeId} {sz n : Nat} {x : AV} {u : Value} {cs : List AV} (hx : VRel E x u) (e : addedA P h el sz x = some (n, cs)) :
    cs.length = n * sz ∧ allCells cs = true ∧ (Builtin.lenOf u).run P w = .ok n w ∧ ∃ us : List Value, VRelL E cs us ∧ (Builtin.firstCells sz n u).run P w = .ok us.toArray w := by
  unfold addedA at e
  split at e
  · simp only [VRel] at hx; subst hx; simp at e; obtain ⟨rfl, rfl⟩ := e
    exact ⟨by simp, rfl, by simp [Builtin.lenOf], [], by simp [VRelL], by simp [Builtin.firstCells]⟩
  · simp only [VRel] at hx
    obtain ⟨B, sh, N, o, c, hb, rfl, _⟩ := hx
    simp at e; obtain ⟨rfl, rfl⟩ := e
    exact ⟨by simp, rfl, by simp [Builtin.lenOf], [], by simp [VRelL], by simp [Builtin.firstCells, loadCells, loadCellsFrom]⟩
  · rename_i b o len cap s
    simp only [VRel] at hx
    obtain ⟨B, sh, N, c, hb, rfl, _⟩ := hx
    split at e
    · rename_i cs0 hcs
      cases hc : Nat.beq s sz && Nat.ble (o + len * sz) cs0.length <;> simp [hc] at e
      obtain ⟨rfl, rfl⟩ := e
      simp only [Bool.and_eq_true, Nat.beq_eq] at hc
      obtain ⟨rfl, h2⟩ := hc
      have hle := Nat.le_of_ble_eq_true h2
      obtain ⟨B', sh', N', g1, us, g2, g3, g4⟩ := hr.loads (cellsAt_ok hcs) hle
      rw [hb] at g1
      obtain ⟨rfl, rfl, rfl⟩ : B = B' ∧ sh = sh' ∧ N = N' := by simpa using g1
      obtain ⟨_, _, _, _, C, _, _, _, _, _, _, h5, _⟩ := hr.obj b _ (cellsAt_ok hcs)
      refine ⟨by simp; omega, allCells_of fun a ha => ?_, by simp [Builtin.lenOf], us, g3, by simp [Builtin.firstCells, g4 P]⟩
      have ha' : a ∈ cs0 := List.mem_of_mem_drop (List.mem_of_mem_take ha)
      obtain ⟨i, hi⟩ := List.getElem?_of_mem ha'
      exact (h5 i a hi).1
    · cases e
  · rename_i len n'
    simp only [VRel] at hx; subst hx
    cases hc : byteElem P el && Nat.beq sz 1 <;> simp [hc] at e
    obtain ⟨rfl, rfl⟩ := e
    simp only [Bool.and_eq_true, Nat.beq_eq] at hc
    obtain ⟨_, rfl⟩ := hc
    refine ⟨by simp [bytesA_length], bytesA_cells _ _, by simp [Builtin.lenOf, unpack_size], _, bytesA_rel E len n', ?_⟩
    simp only [Builtin.firstCells, Sem.run_pure]
    have hx1 : ((unpack len n').extract 0 len).data = (unpackL len n').toArray := by
      rw [ByteArray.data_extract]
      show (unpackL len n').toArray.extract 0 len = _
      rw [List.extract_toArray]
      simp only [List.extract_eq_take_drop, List.drop_zero, Nat.sub_zero]
      rw [List.take_of_length_le (by rw [unpackL_length]; exact Nat.le_refl _)]
    rw [hx1]
    simp [List.take_of_length_le, unpackL_length]
  · cases e

theorem nextslicecap_le (need old : Nat) : Builtin.nextslicecap need old ≤ 2 * need + 768 ∨ need ≤ old := by
  unfold Builtin.nextslicecap
  split
  · left; omega
  · split
    · by_cases h : need ≤ old
      · right; exact h
      · left; omega
    · by_cases h : need ≤ old
      · right; exact h
      · left
        have key : ∀ (r c : Nat), c ≤ 2 * need + 768 → Builtin.growBy need r c ≤ 2 * need + 768 := by
          intro r
          induction r with
          | zero => intro c hc; simpa [Builtin.growBy] using hc
          | succ r ih =>
            intro c hc
            simp only [Builtin.growBy]
            split
            · exact hc
            · exact ih _ (by omega)
        exact key 4 old (by omega)

theorem notInt {d : TypeDesc} (h : ∀ k, d ≠ .int k) : (d matches .int _) = false := by
  cases d <;> first | rfl | exact absurd rfl (h _)

/-- An append that makes a new row. -/
theorem run_grow {w : World} {ts : Array TypeId} {t xt el ty : TypeId} {i : TypeInfo} {zv : Value} (h0 : ts[0]? = some t) (h1 : ts[1]? = some xt) (hu : P.underlying t = some (.slice el)) (hi : P.info? el = some i) (hz : i.zero = some zv)
    (hx : ∃ d, P.underlying xt = some d ∧ ∀ k, d ≠ .int k) {base : Option Addr} {len cap n : Nat} {x : Value} (hn : (Builtin.lenOf x).run P w = .ok n w)
    {old new : List Value} (hold : (Builtin.firstCells i.size len (.slice base len cap)).run P { w with drawn := w.drawn + 1 } = .ok old.toArray { w with drawn := w.drawn + 1 })
    (hnew : (Builtin.firstCells i.size n x).run P { w with drawn := w.drawn + 1 } = .ok new.toArray { w with drawn := w.drawn + 1 }) (hcap : ¬ len + n ≤ cap) (hb : len + n ≤ 1048576) (hby : i.bytes ≤ 4096) :
    ∃ c, len + n ≤ c ∧ (Builtin.append_ ts ty #[.slice base len cap, x]).run P w =
      .ok (.slice (some ⟨w.heap.size, 0, none⟩) (len + n) c) { w with drawn := w.drawn + 1, heap := w.heap.push (.cells (old.toArray ++ new.toArray ++ Builtin.zeroCells zv.cells (c - (len + n))) el) } := by
  obtain ⟨d, hd, hd'⟩ := hx
  refine ⟨(Question.appendCap (len + n) cap el).cut (w.tape w.drawn (.appendCap (len + n) cap el)), by simp [Question.cut], ?_⟩
  have hsz : P.cellsOf el = i.size := by simp [Program.cellsOf, hi]
  have hbig : ¬ (((len + n : Nat) : Int) > IntKind.i64.max ∧ (false = true ∨ i.bytes = 0)) := by
    intro ⟨h1, _⟩
    have h2 : IntKind.i64.max = 9223372036854775807 := by decide
    rw [h2] at h1
    omega
  have hnsc : ¬ (Builtin.nextslicecap (len + n) cap * i.bytes > 2 ^ 48) := by
    rcases nextslicecap_le (len + n) cap with h | h
    · have h2 : Builtin.nextslicecap (len + n) cap ≤ 2097920 := by omega
      have := Nat.mul_le_mul h2 hby
      omega
    · omega
  simp only [Builtin.append_, h0, h1, List.getElem?_toArray, List.getElem?_cons_zero, List.getElem?_cons_succ, Sem.run_bind, run_underlying hu, Result.andThen_ok, run_sizeOf w hi, hsz, run_underlying hd, Sem.run_pure]
  simp only [Bool.false_eq_true, if_false, hn, Result.andThen_ok, hcap, Sem.run_bind, run_typeInfo w hi, Bool.not_false, if_true]
  rw [if_neg (by simpa using hbig)]
  simp only [Sem.run_pure, Result.andThen_ok, Sem.run_bind, run_typeInfo w hi, hnsc, if_false, run_choose, Question.forced, Bool.false_eq_true]
  simp only [run_typeInfo _ hi, Result.andThen_ok, run_askRoom, hold, hnew, run_zero _ hi hz, run_newRow]
end
end Go.Ax
