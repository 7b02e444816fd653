/- What the reader's contracts come to, as the plain reader of the plain law. -/
import Derived.Test.YtapkhldfbdcblaaGreatDoorRdA
import Derived.Deep.RegionHeld3
import Derived.Deep.RegionLaw
import Derived.Deep.RegionWith
import Derived.Deep.DrawnRows
import Derived.Deep.Cut
import Derived.Deep.CutRange
set_option linter.unusedSimpArgs false
set_option linter.unusedSectionVars false
set_option linter.unnecessarySimpa false
namespace Go.Proofs.YtapkhldfbdcblaaGreatDoor
open Go Go.RowKit Go.Proofs
set_option maxRecDepth 100000
set_option linter.unusedVariables false

theorem ext_take (s : ByteArray) (n : Nat) : (s.extract 0 n).data.toList = s.data.toList.take n := by simp
theorem ext_drop (s : ByteArray) (n : Nat) (h : n ≤ s.size) : (s.extract n s.size).data.toList = s.data.toList.drop n := by
  simp
  rw [List.take_of_length_le]
  simp
def outO (v : Nat) : Option ByteArray → Option (Nat × List UInt8)
  | none => none
  | some r => some (v, r.data.toList)
theorem len_of (s : ByteArray) : s.data.toList.length = s.size := by simp
theorem num_scr (most : Nat) (s : ByteArray) : Scr.rnum most s.data.toList = outO (numV most (some s)) (numS most (some s)) := by
  unfold Scr.rnum Scr.take
  rw [len_of]
  by_cases h : 6 ≤ s.size
  · rw [if_pos h, Option.bind_some]
    have e : Scr.unbe (s.data.toList.take 6) = valB (s.extract 0 6) := by unfold valB; rw [ext_take]
    by_cases hv : valB (s.extract 0 6) ≤ most
    · simp only [numV, numS, if_pos (show 6 ≤ s.size ∧ valB (s.extract 0 6) ≤ most from ⟨h, hv⟩), outO, e, if_pos hv, ext_drop s 6 h]
    · simp only [numV, numS, if_neg (show ¬ (6 ≤ s.size ∧ valB (s.extract 0 6) ≤ most) from fun x => hv x.2), outO, e, if_neg hv]
  · rw [if_neg h]
    simp only [numV, numS, if_neg (show ¬ (6 ≤ s.size ∧ valB (s.extract 0 6) ≤ most) from fun x => h x.1), outO]
    rfl
def outT (v : ByteArray) : Option ByteArray → Option (List UInt8 × List UInt8)
  | none => none
  | some r => some (v.data.toList, r.data.toList)
theorem text_scr (most : Nat) (s : ByteArray) : Scr.rtext most s.data.toList = outT (textV most (some s)) (textS most (some s)) := by
  unfold Scr.rtext
  have h2 : Scr.take 2 s.data.toList = if 2 ≤ s.size then some (s.data.toList.take 2, s.data.toList.drop 2) else none := by unfold Scr.take; rw [len_of]
  rw [h2]
  by_cases h : 2 ≤ s.size
  · rw [if_pos h, Option.bind_some]
    have e : Scr.unbe (s.data.toList.take 2) = textK s := by unfold textK valB; rw [ext_take]
    simp only [textV, textS, if_pos h, e]
    by_cases hk : textK s ≤ most
    · simp only [if_pos hk]
      generalize hr : s.extract 2 s.size = r
      rw [← ext_drop s 2 h, hr]
      unfold Scr.take
      rw [len_of]
      by_cases hn : textK s ≤ r.size
      · simp only [takeV, takeS, if_pos hn, outT, ext_take, ext_drop r _ hn]
      · simp only [takeV, takeS, if_neg hn, outT]
    · simp only [if_neg hk, outT]
  · rw [if_neg h]
    simp only [textV, textS, if_neg h, outT]
    rfl
def itS : Nat → Option ByteArray → Option ByteArray
  | 0, st => st
  | k + 1, st => numS 2 (itS k st)
def itV : Nat → Option ByteArray → List Nat
  | 0, _ => []
  | k + 1, st => itV k st ++ [numV 2 (itS k st)]
theorem itV_len : ∀ k st, (itV k st).length = k
  | 0, _ => rfl
  | k + 1, st => by simp [itV, itV_len k st]
theorem rnums_succ (most k : Nat) (s : List UInt8) : Scr.rnums most (k + 1) s = (Scr.rnum most s).bind fun x => (Scr.rnums most k x.2).bind fun y => some (x.1 :: y.1, y.2) := rfl
theorem rnums_snoc (most : Nat) : ∀ (k : Nat) (s : List UInt8), Scr.rnums most (k + 1) s = (Scr.rnums most k s).bind fun x => (Scr.rnum most x.2).bind fun y => some (x.1 ++ [y.1], y.2)
  | 0, s => by simp [Scr.rnums]
  | k + 1, s => by
    rw [rnums_succ, rnums_succ most k]
    cases h : Scr.rnum most s with
    | none => rfl
    | some a =>
      rw [Option.bind_some, Option.bind_some, rnums_snoc most k]
      cases h2 : Scr.rnums most k a.2 with
      | none => rfl
      | some b =>
        rw [Option.bind_some, Option.bind_some, Option.bind_some]
        cases h3 : Scr.rnum most b.2 with
        | none => rfl
        | some c => rfl
theorem rsteps_succ (k : Nat) (s : List UInt8) : Scr.rsteps (k + 1) s = (Scr.rstep s).bind fun x => (Scr.rsteps k x.2).bind fun y => some (x.1 :: y.1, y.2) := rfl
theorem rsteps_snoc : ∀ (k : Nat) (s : List UInt8), Scr.rsteps (k + 1) s = (Scr.rsteps k s).bind fun x => (Scr.rstep x.2).bind fun y => some (x.1 ++ [y.1], y.2)
  | 0, s => by simp [Scr.rsteps]
  | k + 1, s => by
    rw [rsteps_succ, rsteps_succ k]
    cases h : Scr.rstep s with
    | none => rfl
    | some a =>
      rw [Option.bind_some, Option.bind_some, rsteps_snoc k]
      cases h2 : Scr.rsteps k a.2 with
      | none => rfl
      | some b =>
        rw [Option.bind_some, Option.bind_some, Option.bind_some]
        cases h3 : Scr.rstep b.2 with
        | none => rfl
        | some c => rfl
theorem rsteps_none {s : List UInt8} {k : Nat} (h : Scr.rsteps k s = none) : ∀ n, k ≤ n → Scr.rsteps n s = none := by
  intro n hn
  induction n with
  | zero =>
    have : k = 0 := by omega
    rw [← this]; exact h
  | succ n ih =>
    by_cases e : k = n + 1
    · rw [← e]; exact h
    · rw [rsteps_snoc, ih (by omega)]; rfl
def outL (v : List Nat) : Option ByteArray → Option (List Nat × List UInt8)
  | none => none
  | some r => some (v, r.data.toList)
theorem it_scr : ∀ (k : Nat) (s : ByteArray), Scr.rnums 2 k s.data.toList = outL (itV k (some s)) (itS k (some s))
  | 0, s => rfl
  | k + 1, s => by
    rw [rnums_snoc, it_scr k s]
    simp only [itS, itV]
    cases h : itS k (some s) with
    | none => rfl
    | some r =>
      simp only [outL, Option.bind_some, num_scr]
      cases h2 : numS 2 (some r) with
      | none => rfl
      | some q => rfl
/-- The states through a step. -/
def q1 (st : Option ByteArray) := numS 13 st
def q2 (st : Option ByteArray) := numS 1048576 (q1 st)
def q3 (st : Option ByteArray) := numS 1048576 (q2 st)
def q4 (st : Option ByteArray) := numS 1048576 (q3 st)
def q5 (st : Option ByteArray) := textS 500 (q4 st)
def q6 (st : Option ByteArray) := numS 100 (q5 st)
def cnt (st : Option ByteArray) := numV 100 (q5 st)
def q7 (st : Option ByteArray) := itS (cnt st) (q6 st)
def stp (st : Option ByteArray) : Scr.Step := ⟨numV 13 st, numV 1048576 (q1 st), numV 1048576 (q2 st), numV 1048576 (q3 st), (textV 500 (q4 st)).data.toList, itV (cnt st) (q6 st)⟩
theorem itS_none : ∀ k, itS k none = none
  | 0 => rfl
  | k + 1 => by simp [itS, itS_none k, numS]
def outP (v : Scr.Step) : Option ByteArray → Option (Scr.Step × List UInt8)
  | none => none
  | some r => if 1 ≤ v.kind then some (v, r.data.toList) else none
theorem numS_none (m : Nat) : numS m none = none := rfl
theorem textS_none (m : Nat) : textS m none = none := rfl
theorem outP_none (v : Scr.Step) : outP v none = none := rfl
theorem step_scr (s : ByteArray) : Scr.rstep s.data.toList = outP (stp (some s)) (q7 (some s)) := by
  unfold Scr.rstep
  rw [num_scr]
  cases h1 : numS 13 (some s) with
  | none => simp [outO, q7, q6, q5, q4, q3, q2, q1, h1, numS_none, textS_none, itS_none, outP_none]
  | some s1 =>
    simp only [outO, Option.bind_some, num_scr]
    cases h2 : numS 1048576 (some s1) with
    | none => simp [outO, q7, q6, q5, q4, q3, q2, q1, h1, h2, numS_none, textS_none, itS_none, outP_none]
    | some s2 =>
      simp only [outO, Option.bind_some, num_scr]
      cases h3 : numS 1048576 (some s2) with
      | none => simp [outO, q7, q6, q5, q4, q3, q2, q1, h1, h2, h3, numS_none, textS_none, itS_none, outP_none]
      | some s3 =>
        simp only [outO, Option.bind_some, num_scr]
        cases h4 : numS 1048576 (some s3) with
        | none => simp [outO, q7, q6, q5, q4, q3, q2, q1, h1, h2, h3, h4, numS_none, textS_none, itS_none, outP_none]
        | some s4 =>
          simp only [outO, Option.bind_some, text_scr]
          cases h5 : textS 500 (some s4) with
          | none => simp [outT, q7, q6, q5, q4, q3, q2, q1, h1, h2, h3, h4, h5, numS_none, itS_none, outP_none]
          | some s5 =>
            simp only [outT, Option.bind_some, num_scr]
            cases h6 : numS 100 (some s5) with
            | none => simp [outO, q7, q6, q5, q4, q3, q2, q1, h1, h2, h3, h4, h5, h6, itS_none, outP_none]
            | some s6 =>
              simp only [outO, Option.bind_some, it_scr]
              cases h7 : itS (numV 100 (some s5)) (some s6) with
              | none => simp [outL, q7, q6, q5, q4, q3, q2, q1, cnt, h1, h2, h3, h4, h5, h6, h7, outP_none]
              | some s7 => simp [outL, q7, q6, q5, q4, q3, q2, q1, cnt, h1, h2, h3, h4, h5, h6, h7, outP, stp]
theorem numV_le (most : Nat) (st : Option ByteArray) : numV most st ≤ most := by
  cases st with
  | none => exact Nat.zero_le _
  | some s =>
    by_cases h : 6 ≤ s.size ∧ valB (s.extract 0 6) ≤ most
    · simp only [numV, if_pos h]; exact h.2
    · simp only [numV, if_neg h]; exact Nat.zero_le _
theorem ext_fits {s : ByteArray} (n : Nat) (h : s.size ≤ 9223372036854775807) : fits (some (s.extract n s.size)) := by
  show (s.extract n s.size).size ≤ _
  simp; omega
theorem numS_fits (most : Nat) {st : Option ByteArray} (h : fits st) : fits (numS most st) := by
  cases st with
  | none => trivial
  | some s =>
    by_cases hc : 6 ≤ s.size ∧ valB (s.extract 0 6) ≤ most
    · simp only [numS, if_pos hc]; exact ext_fits 6 h
    · simp only [numS, if_neg hc]; trivial
theorem takeS_fits (n : Nat) {st : Option ByteArray} (h : fits st) : fits (takeS n st) := by
  cases st with
  | none => trivial
  | some s =>
    by_cases hc : n ≤ s.size
    · simp only [takeS, if_pos hc]; exact ext_fits n h
    · simp only [takeS, if_neg hc]; trivial
theorem textS_fits (most : Nat) {st : Option ByteArray} (h : fits st) : fits (textS most st) := by
  cases st with
  | none => trivial
  | some s =>
    by_cases hc : 2 ≤ s.size
    · by_cases hk : textK s ≤ most
      · simp only [textS, if_pos hc, if_pos hk]; exact takeS_fits _ (ext_fits 2 h)
      · simp only [textS, if_pos hc, if_neg hk]; trivial
    · simp only [textS, if_neg hc]; trivial
theorem itS_fits {st : Option ByteArray} (h : fits st) : ∀ k, fits (itS k st)
  | 0 => h
  | k + 1 => numS_fits 2 (itS_fits h k)
end Go.Proofs.YtapkhldfbdcblaaGreatDoor

namespace Go.Proofs.YtapkhldfbdcblaaGreatDoor
open Go Go.RowKit Go.Proofs
set_option maxRecDepth 100000
set_option linter.unusedVariables false
set_option maxHeartbeats 4000000
attribute [local go_sem ↓] Go.wp_at_zero Go.wp_at_succ

theorem body26 : ∃ c, Tryz.f26.body = some c := ⟨match Tryz.f26.body with | some c => c | none => .skip, by kernel_rfl⟩
theorem name26 : (Tryz.f26.name == "runtime.NumGoroutine") = false := by kernel_rfl
theorem step_num {ops : Array Oper} {o : Oper} {a : Act} {w : World} {K : Act → World → Prop} {Q : Exit → Act → World → Prop} {E : Prop} (hgd : o.guard = none) (x y : Operand) (tys : Array TypeId)
    (ho : o.op = .call { callee := .value (.func 26), args := #[x, y], argTypes := tys }) (u v : Value) (hx : a.eval x = u) (hy : a.eval y = v) {post : Ending → World → Prop} (hc : Calls Tryz.prog 26 #[u, v] w post)
    (hp : ∀ e w', post e w' → ∃ r, e = .returned r ∧ K (a.put o.dst r) w') : if Region.wanted o (yielded ops a.tmps) = true then Oper.wp Tryz.prog o a w K Q else E := by
  have hw : Region.wanted o (yielded ops a.tmps) = true := by simp [Region.wanted, hgd]
  rw [if_pos hw]
  have key : Oper.upon Tryz.prog o a K Q (.ok (.enter 26 #[u, v]) w) := by
    refine hc.mono fun e w' h => ?_
    obtain ⟨r, rfl, hk⟩ := hp e w' h
    exact hk
  obtain ⟨c, hb⟩ := body26
  have h1 := name26
  have hf := Tryz.func26
  have hrun : (callFunc 26 #[u, v]).run Tryz.prog w = .ok (.enter 26 #[u, v]) w := by
    simp at h1
    simp [callFunc, hf, h1, hb]
  have he : (execOp a.eval o).run Tryz.prog w = .ok (.enter 26 #[u, v]) w := by
    unfold execOp
    have hfn : a.eval (.func 26) = .func (.func 26) #[] #[] := rfl
    simp only [ho, resolve, hfn, Deferred.ofValue, invoke, Sem.run_bind, Sem.run_pure, Result.andThen_ok, List.map_toArray, List.map_cons, List.map_nil, hx, hy]
    first | exact hrun | simp
  unfold Oper.wp
  rw [he]
  exact key
/-- Below block K all is as it was, but the reader's block. -/
structure Kp (K R : Nat) (w w' : World) : Prop where
  os : w'.os = w.os
  tape : w'.tape = w.tape
  output : w'.output = w.output
  size : w.heap.size ≤ w'.heap.size
  block : ∀ k, k < K → k ≠ R → w'.heap[k]? = w.heap[k]?
theorem Kp.refl (K R : Nat) (w : World) : Kp K R w w := ⟨rfl, rfl, rfl, Nat.le_refl _, fun _ _ _ => rfl⟩
theorem Kp.trans {K R : Nat} {a b c : World} (h : Kp K R a b) (k : Kp K R b c) : Kp K R a c :=
  ⟨k.os.trans h.os, k.tape.trans h.tape, k.output.trans h.output, Nat.le_trans h.size k.size, fun i hi hr => (k.block i hi hr).trans (h.block i hi hr)⟩
theorem Kp.alloc {K R : Nat} {a w : World} (h : Kp K R a w) (hK : K ≤ w.heap.size) (o : Obj) : Kp K R a (w.alloc o) :=
  h.trans ⟨rfl, rfl, rfl, by simp, fun k hk _ => Below.heap_alloc _ _ _ (by omega)⟩
theorem Kp.set_ {K R : Nat} {a w : World} (h : Kp K R a w) {p : Addr} (hp : K ≤ p.block) (u : Value) : Kp K R a (w.setCell p u) :=
  h.trans ⟨rfl, rfl, rfl, by simp [World.setCell], fun k hk _ => Below.heap_setCell _ _ _ _ (by omega)⟩
theorem Kp.grown {K R : Nat} {a w w' : World} {row : Option Nat} (h : Kp K R a w) (hg : w.grownBy w' row) (hK : K ≤ w.heap.size) (hr : ∀ k, row = some k → K ≤ k ∨ k = R) : Kp K R a w' :=
  h.trans ⟨hg.os, hg.tape, hg.output, hg.size, fun k hk hkR => hg.block k (by omega) (fun e => by rcases hr k e.symm with h | h <;> omega)⟩
theorem Kp.below {K R B : Nat} {w w' : World} (h : Kp K R w w') (hB : B ≤ K) (hR : B ≤ R) : Below B w w' := ⟨h.os, h.tape, h.output, h.size, fun k hk => h.block k (by omega) (by omega)⟩
theorem Kp.own {K R : Nat} {w w' : World} (h : Kp K R w w') (hK : w.heap.size ≤ K) {base : Nat} {e t : TypeId} {size n : Nat} {v : Value} {xs : List Value} {cs : Array Value} (ho : w.ownsRow base e size v n xs) (hR : Blk w R t cs) (hne : e ≠ t) : w'.ownsRow base e size v n xs := by
  have hb := own_blk_ne ho hR hne
  refine ⟨ho.1, ?_⟩
  rcases ho.2 with h0 | ⟨g, cap, cur, rfl, hg, hh, r⟩
  · exact .inl h0
  · refine .inr ⟨g, cap, cur, rfl, hg, ?_, r⟩
    have hlt : g < w.heap.size := (Array.getElem?_eq_some_iff.1 hh).1
    rw [h.block g (by omega) (fun e => hb (by rw [e]; rfl))]
    exact hh
theorem RdrO.blk {w : World} {R : Nat} {st : Option ByteArray} (h : RdrO w R st) : ∃ cs, Blk w R 96 cs := by
  cases st with
  | none => exact ⟨_, h⟩
  | some s => exact ⟨_, h⟩
theorem RdrO.of_heap {w w' : World} {R : Nat} {st : Option ByteArray} (h : RdrO w R st) (hk : w'.heap[R]? = w.heap[R]?) : RdrO w' R st := by
  cases st with
  | none => exact hk.trans h
  | some s => exact hk.trans h
theorem RdrO.lt {w : World} {R : Nat} {st : Option ByteArray} (h : RdrO w R st) : R < w.heap.size := by obtain ⟨cs, hb⟩ := h.blk; exact hb.lt
theorem RdrO.alloc {w : World} {R : Nat} {st : Option ByteArray} (h : RdrO w R st) (o : Obj) : RdrO (w.alloc o) R st := h.of_heap (Below.heap_alloc w o R h.lt)
theorem RdrO.set_ {w : World} {R : Nat} {st : Option ByteArray} (h : RdrO w R st) {p : Addr} (hp : R ≠ p.block) (u : Value) : RdrO (w.setCell p u) R st := h.of_heap (Below.heap_setCell _ _ _ _ hp)
theorem RdrO.grown {w w' : World} {R : Nat} {st : Option ByteArray} (h : RdrO w R st) {row : Option Nat} (hg : w.grownBy w' row) (hr : row ≠ some R) : RdrO w' R st := h.of_heap (hg.block R h.lt (Ne.symm hr))
def ints (l : List Nat) : List Value := l.map fun n : Nat => .int .i64 n
theorem ints_app (a b : List Nat) : ints (a ++ b) = ints a ++ ints b := by simp [ints]
def sCells (a b c d : Nat) (t : ByteArray) (v : Value) : Array Value := #[.int .i64 a, .int .i64 b, .int .i64 c, .int .i64 d, .string t, v]
/-- What was read so far. -/
def Got (w : World) (B0 : Nat) (cells : List Value) (L : List Scr.Step) : Prop := ∀ i s, L[i]? = some s → ∃ t F c, t.data.toList = s.text ∧ w.ownsRow B0 68 1 (.slice F s.fates.length c) s.fates.length (ints s.fates) ∧ ∀ j, j < 6 → cells[i * 6 + j]? = (sCells s.kind s.who s.n s.m t (.slice F s.fates.length c))[j]?
theorem Tryz.info68 : (Tryz.prog.info? 68).map (fun i => (i.zero, i.size, i.bytes)) = some (some (.int .i64 0), 1, 8) := by kernel_rfl
theorem Tryz.info33 : (Tryz.prog.info? 33).map (fun i => (i.zero, i.size, i.bytes)) = some (some (.agg #[.int .i64 0, .int .i64 0, .int .i64 0, .int .i64 0, .string ⟨#[]⟩, .slice none 0 0]), 6, 72) := by kernel_rfl
def ParsePost (w : World) (data : List UInt8) (e : Ending) (w' : World) : Prop :=
  Below w.heap.size w w' ∧ ((Scr.parse data = none ∧ e = .returned (.tuple #[.slice none 0 0, .int .i64 2])) ∨
    ∃ L v cells, Scr.parse data = some L ∧ e = .returned (.tuple #[v, .int .i64 0]) ∧ w'.ownsRow w.heap.size 33 6 v L.length cells ∧ Got w' w.heap.size cells L)

theorem num_at (w : World) (R : Nat) (st : Option ByteArray) (most : Nat) (m : Int) (hm : (most : Int) = m) (h : RdrO w R st) (hf : fits st) (hb : most ≤ 9223372036854775807) :
    Calls Tryz.prog 26 #[.pointer (some ⟨R, 0, none⟩), .int .i64 m] w (OPost R w (.int .i64 (numV most st)) (numS most st)) := by
  subst hm
  exact num_any w R st most h hf hb
theorem text_at (w : World) (R : Nat) (st : Option ByteArray) (most : Nat) (m : Int) (hm : (most : Int) = m) (h : RdrO w R st) (hf : fits st) (hb : most ≤ 9223372036854775807) :
    Calls Tryz.prog 27 #[.pointer (some ⟨R, 0, none⟩), .int .i64 m] w (OPost R w (.string (textV most st)) (textS most st)) := by
  subst hm
  exact text_any w R st most h hf hb
theorem c2 : ((2 : Nat) : Int) = 2 := rfl
theorem c13 : ((13 : Nat) : Int) = 13 := rfl
theorem c100 : ((100 : Nat) : Int) = 100 := rfl
theorem c500 : ((500 : Nat) : Int) = 500 := rfl
theorem cM : ((1048576 : Nat) : Int) = 1048576 := rfl
theorem b2 : 2 ≤ 9223372036854775807 := by omega
theorem b13 : 13 ≤ 9223372036854775807 := by omega
theorem b100 : 100 ≤ 9223372036854775807 := by omega
theorem b500 : 500 ≤ 9223372036854775807 := by omega
theorem bM : 1048576 ≤ 9223372036854775807 := by omega
theorem own_base {w : World} {B B' e size n : Nat} {v : Value} {xs : List Value} (h : w.ownsRow B' e size v n xs) (hB : B ≤ B') : w.ownsRow B e size v n xs :=
  ⟨h.1, h.2.imp id (fun ⟨g, cap, cur, a, b, c⟩ => ⟨g, cap, cur, a, Nat.le_trans hB b, c⟩)⟩
theorem own_ne {w : World} {B B' e e' size size' n n' : Nat} {v v' : Value} {xs xs' : List Value} (h : w.ownsRow B e size v n xs) (h' : w.ownsRow B' e' size' v' n' xs') (hne : e ≠ e') : v.ownBlock = none ∨ v.ownBlock ≠ v'.ownBlock := by
  rcases h'.2 with ⟨rfl, _⟩ | ⟨g, cap, cur, rfl, _, hh, _⟩
  · cases hv : v.ownBlock with
    | none => exact .inl rfl
    | some k => exact .inr (by simp [Value.ownBlock])
  · exact .inr (own_blk_ne h (show Blk w g e' cur from hh) hne)
theorem Got.step {w w8 : World} {B0 : Nat} {cells : List Value} {L : List Scr.Step} (h : Got w B0 cells L) (hlen : cells.length = L.length * 6) (hk : ∀ v n xs, w.ownsRow B0 68 1 v n xs → w8.ownsRow B0 68 1 v n xs) (s : Scr.Step) (t : ByteArray) (F : Option Addr) (c : Nat)
    (ht : t.data.toList = s.text) (ho : w8.ownsRow B0 68 1 (.slice F s.fates.length c) s.fates.length (ints s.fates)) : Got w8 B0 (cells ++ (sCells s.kind s.who s.n s.m t (.slice F s.fates.length c)).toList) (L ++ [s]) := by
  intro i s' hi
  by_cases hlt : i < L.length
  · rw [List.getElem?_append_left hlt] at hi
    obtain ⟨t', F', c', h1, h2, h3⟩ := h i s' hi
    refine ⟨t', F', c', h1, hk _ _ _ h2, fun j hj => ?_⟩
    rw [List.getElem?_append_left (by omega)]
    exact h3 j hj
  · have hil : i < (L ++ [s]).length := (List.getElem?_eq_some_iff.1 hi).1
    have he : i = L.length := by simp at hil; omega
    subst he
    have hs : s' = s := by simpa using hi.symm
    subst hs
    refine ⟨t, F, c, ht, ho, fun j hj => ?_⟩
    rw [List.getElem?_append_right (by omega), hlen, Nat.add_sub_cancel_left]
    simp
theorem keepO {w7 w8 : World} {o : Obj} {v v' : Value} {B B' n n' : Nat} {xs xs' : List Value} (hg : (w7.alloc o).grownBy w8 v'.ownBlock) (hv : w7.ownsRow B' 33 6 v' n' xs') (h : w7.ownsRow B 68 1 v n xs) : w8.ownsRow B 68 1 v n xs :=
  (h.alloc o).kept hg (own_ne (h.alloc o) (hv.alloc o) (by decide))
theorem fates_of {w : World} {B : Nat} {F : Option Addr} {c : Nat} {l : List Nat} (h : w.ownsRow B 68 1 (.slice F l.length c) l.length (ints l)) : Fates w F l := fun hl => by
  obtain ⟨g, cap, e, _, hlt⟩ := h.form hl
  injection e with e1 e2 e3
  refine ⟨g, e1, fun j hj => ?_⟩
  have hc := h.cells (g := g) (by rw [e1]; rfl) j (.int .i64 (l.getD j 0 : Nat)) (by simp [ints, List.getD, List.getElem?_eq_getElem hj])
  rw [show ((⟨g, 0, none⟩ : Addr).add j) = ⟨g, j, none⟩ by unfold Addr.add; split <;> simp_all] at hc
  exact hc
theorem parse_no {s r0 r : ByteArray} {N k : Nat} {L : List Scr.Step} (hN : N = numV 500 (some s)) (hst : some r0 = numS 500 (some s)) (hrs : Scr.rsteps k r0.data.toList = some (L, r.data.toList)) (hk : k < N) (h : Scr.rstep r.data.toList = none) : Scr.parse s.data.toList = none := by
  unfold Scr.parse
  rw [num_scr, ← hst, ← hN]
  have h1 : Scr.rsteps (k + 1) r0.data.toList = none := by rw [rsteps_snoc, hrs, Option.bind_some, h]; rfl
  simp only [outO, Option.bind_some, rsteps_none h1 N hk]
  rfl
theorem parse_end {s r0 : ByteArray} {N : Nat} {L : List Scr.Step} {r : ByteArray} (hN : N = numV 500 (some s)) (hst : some r0 = numS 500 (some s)) (hrs : Scr.rsteps N r0.data.toList = some (L, r.data.toList)) : Scr.parse s.data.toList = if r.size = 0 then some L else none := by
  unfold Scr.parse
  rw [num_scr, ← hst, ← hN]
  simp only [outO, Option.bind_some, hrs]
  have e : (r.data.toList = []) ↔ r.size = 0 := by rw [← len_of r]; exact List.length_eq_zero_iff.symm
  simp only [e]
theorem parse_any (w : World) (s : ByteArray) (hs : s.size ≤ 9223372036854775807) : Calls Tryz.prog 7 #[.string s] w (ParsePost w s.data.toList) := by
  obtain ⟨i68, hi68, hz68, hy68, hb68⟩ := info_parts Tryz.info68
  obtain ⟨i33, hi33, hz33, hy33, hb33⟩ := info_parts Tryz.info33
  obtain ⟨R, hR⟩ : ∃ R, R = w.heap.size := ⟨_, rfl⟩
  have h0 : RdrO (w.alloc (.cells #[.string s, .bool false] 96)) R (some s) := by rw [hR]; exact Blk.new _ _ _
  have f0 : fits (some s) := hs
  obtain ⟨N, hN⟩ : ∃ N, N = numV 500 (some s) := ⟨_, rfl⟩
  have hN5 : N ≤ 500 := by rw [hN]; exact numV_le _ _
  have HT := Lib.hid (num_at _ R (some s) 500 500 c500 h0 f0 b500)
  rw [← hN] at HT
  obtain ⟨st, hst⟩ : ∃ st, st = numS 500 (some s) := ⟨_, rfl⟩
  have hf : fits st := by rw [hst]; exact numS_fits _ f0
  rw [← hst] at HT
  have HN := Lib.hid hN
  have HST := Lib.hid hst
  have HF := Lib.hid hf
  clear h0 f0 hN hst hf
  rw [hR] at HT
  go_enter Tryz.func7, Tryz.ntmps7
  go_wp2_with (first
    | (go_at_call 25; refine (read_any _ _).mono ?_; rintro e w0 ⟨rfl, rfl⟩)
    | (go_at_call 26; (with_reducible refine HT.out.mono ?_); rintro e w1 ⟨rfl, hr1, hg1⟩))
  rw [← hR] at hr1 hg1 ⊢
  have hkp : Below R w w1 := by
    have := ((Below.refl R w).alloc (by omega) (.cells #[.string s, .bool false] 96)).grown hg1 (by simp; omega) (fun k hk => by injection hk with hk; omega)
    exact this
  have HK := Lib.hid hkp
  have HR := Lib.hid hr1
  have HRq := Lib.hid hR
  clear hr1 hg1 hkp hR
  cases st with
  | none =>
    have hN0 : N = 0 := by
      have h1 := HN.out
      have h2 := HST.out
      rw [h1]
      by_cases hc : 6 ≤ s.size ∧ valB (s.extract 0 6) ≤ 500
      · simp only [numS, if_pos hc] at h2; cases h2
      · simp only [numV, if_neg hc]
    have HP : Hid (Scr.parse s.data.toList = none) := by
      have h2 := HST.out
      show Scr.parse s.data.toList = none
      unfold Scr.parse
      rw [num_scr, ← h2]; rfl
    subst hN0
    clear hN5
    rw [show ((0 : Nat) : Int) = 0 from rfl]
    go_loop [11] (fun i => i = .int .i64 0) (fun i => 0)
    case atStart => rfl
    case round =>
      obtain rfl := hrel
      go_wp2_with (go_at_call 30; refine (done_any _ R none HR.out).mono ?_; rintro e w' ⟨rfl, rfl⟩)
      go_ret2
      exact ⟨by rw [← HRq.out]; exact HK.out, .inl ⟨HP.out, rfl⟩⟩
  | some r0 =>
    go_loopw [5, 11] (fun v i wr => ∃ (k : Nat) (L : List Scr.Step) (r : ByteArray) (cells : List Value), k ≤ N ∧ i = .int .i64 k ∧ L.length = k ∧ Scr.rsteps k r0.data.toList = some (L, r.data.toList) ∧ fits (some r) ∧ RdrO wr R (some r) ∧ wr.ownsRow R 33 6 v k cells ∧ Got wr R cells L ∧ Below R w wr) (fun _ i _ => N - (intOf i).toNat)
    case atStart => exact ⟨0, [], r0, [], Nat.zero_le _, rfl, rfl, rfl, HF.out, HR.out, World.ownsRow_nil _ _ _ _, fun i s h => (by simp at h), HK.out⟩
    case round =>
      obtain ⟨k, L, r, cells, hk, rfl, hL, hrs, hfr, hr, hown, hgot, hbl⟩ := hrel
      have HRr := Lib.hid hrs
      have HO := Lib.hid hown
      have HGt := Lib.hid hgot
      have HBl := Lib.hid hbl
      have HRd := Lib.hid hr
      have HLn := Lib.hid hL
      have HFr := Lib.hid hfr
      by_cases hlt : k < N
      · obtain ⟨cs0, hcs0⟩ := hr.blk
        obtain ⟨K0, hK0⟩ : ∃ K0, K0 = wr.heap.size := ⟨_, rfl⟩
        have hRK : R < K0 := by rw [hK0]; exact hr.lt
        obtain ⟨a, ha⟩ : ∃ a, a = numV 13 (some r) := ⟨_, rfl⟩
        obtain ⟨s1, hs1⟩ : ∃ x, x = q1 (some r) := ⟨_, rfl⟩
        obtain ⟨b, hb⟩ : ∃ a, a = numV 1048576 s1 := ⟨_, rfl⟩
        obtain ⟨s2, hs2⟩ : ∃ x, x = q2 (some r) := ⟨_, rfl⟩
        obtain ⟨c, hc⟩ : ∃ a, a = numV 1048576 s2 := ⟨_, rfl⟩
        obtain ⟨s3, hs3⟩ : ∃ x, x = q3 (some r) := ⟨_, rfl⟩
        obtain ⟨d, hd⟩ : ∃ a, a = numV 1048576 s3 := ⟨_, rfl⟩
        obtain ⟨s4, hs4⟩ : ∃ x, x = q4 (some r) := ⟨_, rfl⟩
        obtain ⟨t, ht⟩ : ∃ a, a = textV 500 s4 := ⟨_, rfl⟩
        obtain ⟨s5, hs5⟩ : ∃ x, x = q5 (some r) := ⟨_, rfl⟩
        obtain ⟨M, hM⟩ : ∃ a, a = numV 100 s5 := ⟨_, rfl⟩
        obtain ⟨s6, hs6⟩ : ∃ x, x = q6 (some r) := ⟨_, rfl⟩
        have g1 : fits s1 := by rw [hs1]; exact numS_fits _ hfr
        have g2 : fits s2 := by rw [hs2]; unfold q2; rw [← hs1]; exact numS_fits _ g1
        have g3 : fits s3 := by rw [hs3]; unfold q3; rw [← hs2]; exact numS_fits _ g2
        have g4 : fits s4 := by rw [hs4]; unfold q4; rw [← hs3]; exact numS_fits _ g3
        have g5 : fits s5 := by rw [hs5]; unfold q5; rw [← hs4]; exact textS_fits _ g4
        have g6 : fits s6 := by rw [hs6]; unfold q6; rw [← hs5]; exact numS_fits _ g5
        have N1 : Hid (∀ W, RdrO W R (some r) → Calls Tryz.prog 26 #[.pointer (some ⟨R, 0, none⟩), .int .i64 13] W (OPost R W (.int .i64 a) s1)) := fun W h => by rw [ha, hs1]; exact num_at _ _ _ _ _ c13 h hfr b13
        have N2 : Hid (∀ W, RdrO W R s1 → Calls Tryz.prog 26 #[.pointer (some ⟨R, 0, none⟩), .int .i64 1048576] W (OPost R W (.int .i64 b) s2)) := fun W h => by rw [hb, hs2]; unfold q2; rw [← hs1]; exact num_at _ _ _ _ _ cM h g1 bM
        have N3 : Hid (∀ W, RdrO W R s2 → Calls Tryz.prog 26 #[.pointer (some ⟨R, 0, none⟩), .int .i64 1048576] W (OPost R W (.int .i64 c) s3)) := fun W h => by rw [hc, hs3]; unfold q3; rw [← hs2]; exact num_at _ _ _ _ _ cM h g2 bM
        have N4 : Hid (∀ W, RdrO W R s3 → Calls Tryz.prog 26 #[.pointer (some ⟨R, 0, none⟩), .int .i64 1048576] W (OPost R W (.int .i64 d) s4)) := fun W h => by rw [hd, hs4]; unfold q4; rw [← hs3]; exact num_at _ _ _ _ _ cM h g3 bM
        have N5 : Hid (∀ W, RdrO W R s4 → Calls Tryz.prog 27 #[.pointer (some ⟨R, 0, none⟩), .int .i64 500] W (OPost R W (.string t) s5)) := fun W h => by rw [ht, hs5]; unfold q5; rw [← hs4]; exact text_at _ _ _ _ _ c500 h g4 b500
        have N6 : Hid (∀ W, RdrO W R s5 → Calls Tryz.prog 26 #[.pointer (some ⟨R, 0, none⟩), .int .i64 100] W (OPost R W (.int .i64 M) s6)) := fun W h => by rw [hM, hs6]; unfold q6; rw [← hs5]; exact num_at _ _ _ _ _ c100 h g5 b100
        have hM1 : M ≤ 100 := by rw [hM]; exact numV_le _ _
        have hstp : stp (some r) = ⟨a, b, c, d, t.data.toList, itV M s6⟩ := by unfold stp cnt; rw [← hs1, ← hs2, ← hs3, ← hs4, ← hs5, ← hs6, ← ha, ← hb, ← hc, ← hd, ← ht, ← hM]
        have hq7 : q7 (some r) = itS M s6 := by unfold q7 cnt; rw [← hs5, ← hs6, ← hM]
        have HStp := Lib.hid hstp
        have HQ7 := Lib.hid hq7
        have HG6 := Lib.hid g6
        have HC0 := Lib.hid hcs0
        have HK0 := Lib.hid hK0
        clear ha hs1 hb hs2 hc hs3 hd hs4 ht hs5 hM hs6 g1 g2 g3 g4 g5 g6 hstp hq7 hr hrs hown hgot hbl hL hfr hcs0 hK0
        go_wp2_with (first
          | (go_at_call 26; (with_reducible refine (N1.out _ HRd.out).mono ?_); rintro e w1 ⟨rfl, hr1, hg1⟩)
          | (go_at_call 26; (with_reducible refine (N2.out _ hr1).mono ?_); rintro e w2 ⟨rfl, hr2, hg2⟩)
          | (go_at_call 26; (with_reducible refine (N3.out _ hr2).mono ?_); rintro e w3 ⟨rfl, hr3, hg3⟩)
          | (go_at_call 26; (with_reducible refine (N4.out _ hr3).mono ?_); rintro e w4 ⟨rfl, hr4, hg4⟩)
          | (go_at_call 27; (with_reducible refine (N5.out _ hr4).mono ?_); rintro e w5 ⟨rfl, hr5, hg5⟩)
          | (go_at_call 26; (with_reducible refine (N6.out _ (hr5.alloc _)).mono ?_); rintro e w6 ⟨rfl, hr6, hg6⟩))
        have hk1 : Kp K0 R wr w5 :=
          (((((Kp.refl K0 R wr).grown hg1 (by rw [HK0.out]; exact Nat.le_refl _) (fun k hk => by injection hk with hk; omega)).grown hg2 (by rw [HK0.out]; exact hg1.size) (fun k hk => by injection hk with hk; omega)).grown hg3 (by rw [HK0.out]; have := hg1.size; have := hg2.size; omega) (fun k hk => by injection hk with hk; omega)).grown hg4 (by rw [HK0.out]; have := hg1.size; have := hg2.size; have := hg3.size; omega) (fun k hk => by injection hk with hk; omega)).grown hg5 (by rw [HK0.out]; have := hg1.size; have := hg2.size; have := hg3.size; have := hg4.size; omega) (fun k hk => by injection hk with hk; omega)
        obtain ⟨D, hD⟩ : ∃ D, D = w5.heap.size := ⟨_, rfl⟩
        have hK5 : K0 ≤ w5.heap.size := by have := hk1.size; rw [HK0.out]; exact this
        have hKD : K0 ≤ D := by rw [hD]; exact hK5
        have hk6 : Kp K0 R wr w6 := (hk1.alloc hK5 _).grown hg6 (by simp; omega) (fun k hk => by injection hk with hk; omega)
        have hbx : Blk w6 D 33 (sCells a b c d t (.slice none 0 0)) := by
          rw [hD]
          exact Blk.grown (Blk.new w5 33 (sCells a b c d t (.slice none 0 0))) hg6 (by simp; omega)
        rw [← hD]
        have HD := Lib.hid hD
        have HK6 := Lib.hid hk6
        have HBx := Lib.hid hbx
        have HR6 := Lib.hid hr6
        clear hg1 hg2 hg3 hg4 hg5 hg6 hr1 hr2 hr3 hr4 hr5 hr6 hk1 hk6 hbx hD hK5
        go_loopw [26] (fun i wx => ∃ (j : Nat) (F : Option Addr) (cp : Nat), j ≤ M ∧ i = .int .i64 j ∧ RdrO wx R (itS j s6) ∧ Blk wx D 33 (sCells a b c d t (.slice F j cp)) ∧ wx.ownsRow (D + 1) 68 1 (.slice F j cp) j (ints (itV j s6)) ∧ Kp K0 R wr wx) (fun i _ => M - (intOf i).toNat)
        case atStart => exact ⟨0, none, 0, Nat.zero_le _, rfl, HR6.out, HBx.out, World.ownsRow_nil _ _ _ _, HK6.out⟩
        case round =>
          obtain ⟨j, F, cp, hj, rfl, hrj, hbj, hoj, hkj⟩ := hrel
          have HRj := Lib.hid hrj
          have HBj := Lib.hid hbj
          have HOj := Lib.hid hoj
          have HKj := Lib.hid hkj
          by_cases hjM : j < M
          · obtain ⟨f, hf⟩ : ∃ f, f = numV 2 (itS j s6) := ⟨_, rfl⟩
            obtain ⟨sj, hsj⟩ : ∃ x, x = itS (j + 1) s6 := ⟨_, rfl⟩
            have NJ : Hid (∀ W, RdrO W R (itS j s6) → Calls Tryz.prog 26 #[.pointer (some ⟨R, 0, none⟩), .int .i64 2] W (OPost R W (.int .i64 f) sj)) := fun W h => by rw [hf, hsj]; exact num_at _ _ _ _ _ c2 h (itS_fits HG6.out j) b2
            have hDlt := hbj.lt
            have c5 := hbj.cell 5
            simp only [sCells, List.getElem?_toArray, List.getElem?_cons_zero, List.getElem?_cons_succ] at c5
            have Hf := Lib.hid hf
            have Hsj := Lib.hid hsj
            obtain ⟨csR, hcR⟩ := hrj.blk
            have hneD : R ≠ D := Blk.ne_ hcR hbj (by decide)
            have HRo := Lib.hid (own_blk_ne hoj hcR (by decide))
            have HFo := Lib.hid (own_blk_ne hoj hbj (by decide))
            clear hf hsj hrj hbj hoj hkj hcR
            have hrdr : RdrO wr.drew R (itS j s6) := RdrO.of_heap HRj.out rfl
            have HRJ := Lib.hid hrdr
            clear hrdr
            go_wp2_with fail
            go_region_law (first
                | (refine step_num (by rfl) _ _ _ (by rfl) _ _ (by rfl) (by rfl) (NJ.out _ HRJ.out) ?_
                   rintro e w1 ⟨rfl, hr1, hg1⟩
                   refine ⟨_, rfl, ?_⟩
                   have hg1' : wr.grownBy w1 (some R) := ⟨hg1.os, hg1.tape, hg1.output, hg1.size, hg1.block⟩
                   have hO1 := Lib.hid (HOj.out.kept hg1' (.inr (HRo.out)))
                   have hB1 := Lib.hid (Blk.grown HBj.out hg1' (by simp; omega))
                   have hsz1 := hg1.size
                   have c51 := (hg1'.cell_far ⟨D, 5, none⟩ hDlt (by simp; omega)).trans c5
                   have c53 := (World.cell?_alloc_lt w1 (.cells #[.int .i64 f] 68) ⟨D, 5, none⟩ (show D < w1.heap.size from hB1.out.lt)).trans c51)
                | (refine step_append_lies _ (by rfl) _ _ _ (by rfl) (D + 1) 68 i68 _ 1 8 Tryz.underlying31 hi68 hz68 hy68 hb68 rfl (by omega) (.slice F j cp) j (ints (itV j s6)) (by rfl) (by first | exact (hO1.out.alloc _).drew | exact hO1.out.alloc _ | exact hO1.out.drew.alloc _) ⟨w1.heap.size, 0, none⟩ 1 1 [.int .i64 f] (by rfl) (by rfl) (World.news_of_block (cs := #[.int .i64 f]) (t := 68) (fr := (0, 0)) (heap_alloc_new w1 _)) (by simp [Value.oneCell']) (by omega) (by simp only [maxLen]; omega) (by omega) (by simp at hsz1; simp; omega) (w1.heap.size + 1) (by simp) ?_
                   intro g cp2 w2 hown2 hgrow hat hlt2
                   have hB2 := Blk.grown (w' := w2) (show Blk _ D 33 _ from (hB1.out.alloc (.cells #[.int .i64 f] 68))) hgrow (Ne.symm HFo.out)
                   have c52 := hB2.cell 5
                   have f52 := hB2.frozen 5
                   simp only [sCells, List.getElem?_toArray, List.getElem?_cons_zero, List.getElem?_cons_succ] at c52))
            all_goals
              go_wp2_with fail
              go_roundw
              case rel =>
                have hgr2 : (w1.alloc (.cells #[.int .i64 f] 68)).grownBy w2 (Value.slice F j cp).ownBlock := ⟨hgrow.os, hgrow.tape, hgrow.output, hgrow.size, hgrow.block⟩
                have hK1 : K0 ≤ wr.heap.size := by have := hDlt; omega
                refine ⟨j + 1, some ⟨g, 0, none⟩, cp2, by omega, by go_num, ?_, hB2.set_ 5 _, ?_, ?_⟩
                · rw [← Hsj.out]
                  exact (RdrO.grown (hr1.alloc _) hgr2 HRo.out).set_ hneD _
                · have e : ints (itV (j + 1) s6) = ints (itV j s6) ++ [.int .i64 f] := by rw [itV, ints_app, ← Hf.out]; rfl
                  rw [e]
                  exact ownsRow_setCell_below hown2 (Nat.lt_succ_self D) _
                · exact (((HKj.out.grown hg1' hK1 (fun k hk => .inr (by injection hk with hk; exact hk.symm))).alloc (by have := hg1'.size; omega) _).grown hgr2 (by have := hg1'.size; simp; omega) (fun k hk => .inl (by have := (HOj.out.lt k hk).1; omega))).set_ hKD _
              case measure => simp [intOf]; omega
          · obtain rfl : j = M := by omega
            cases hs7 : itS j s6 with
            | none =>
              have HP : Hid (Scr.parse s.data.toList = none) := by
                have h1 : Scr.rstep r.data.toList = none := by rw [step_scr, HQ7.out, hs7]; rfl
                exact parse_no HN.out HST.out HRr.out hlt h1
              rw [hs7] at HRj
              have HB3 : Hid (Below R w wr) := HBl.out.trans (HKj.out.below (by omega) (Nat.le_refl _))
              clear hs7 hrj hbj hoj hkj
              go_wp2_with (first
                | (go_at_call 28; (with_reducible refine (ok_any _ R none HRj.out).mono ?_); rintro e w1 ⟨rfl, rfl⟩))
              go_ret2
              exact ⟨by rw [← HRq.out]; exact HB3.out, .inl ⟨HP.out, rfl⟩⟩
            | some r7 =>
              have hb0 := HBj.out.cell 0
              have hb1 := HBj.out.cell 1
              have hb2 := HBj.out.cell 2
              have hb3 := HBj.out.cell 3
              have hb4 := HBj.out.cell 4
              have hb5 := HBj.out.cell 5
              simp only [sCells, List.getElem?_toArray, List.getElem?_cons_zero, List.getElem?_cons_succ] at hb0 hb1 hb2 hb3 hb4 hb5
              by_cases ha0 : a = 0
              · subst ha0
                have HP : Hid (Scr.parse s.data.toList = none) := by
                  have h1 : Scr.rstep r.data.toList = none := by rw [step_scr, HQ7.out, hs7, HStp.out]; rfl
                  exact parse_no HN.out HST.out HRr.out hlt h1
                rw [hs7] at HRj
                have HB3 : Hid (Below R w wr) := HBl.out.trans (HKj.out.below (by omega) (Nat.le_refl _))
                clear hs7 hrj hbj hoj hkj
                go_wp2_with (first
                  | (go_at_call 28; (with_reducible refine (ok_any _ R _ HRj.out).mono ?_); rintro e w1 ⟨rfl, rfl⟩)
                  | (go_at_call 29; refine (right_no _ _ _ _ _ _ _ _).mono ?_; rintro e w7 ⟨rfl, hg7⟩))
                go_ret2
                exact ⟨by rw [← HRq.out]; exact HB3.out.grown hg7 (by have := HRj.out.lt; omega) (by simp), .inl ⟨HP.out, rfl⟩⟩
              · have hst : Scr.rstep r.data.toList = some (⟨a, b, c, d, t.data.toList, itV j s6⟩, r7.data.toList) := by
                  rw [step_scr, HQ7.out, hs7, HStp.out]
                  simp only [outP]
                  rw [if_pos (by omega)]
                have hright := (Scr.rstep_some hst).2
                have hfat : Fates wr F (itV j s6) := by
                  have h1 := HOj.out
                  have h2 := itV_len j s6
                  exact fates_of (B := D + 1) (c := cp) (by rw [h2]; exact h1)
                have HRY : Hid (Calls Tryz.prog 29 #[.agg #[.int .i64 a, .int .i64 b, .int .i64 c, .int .i64 d, .string t, .slice F j cp]] wr (BelowBool wr true)) := by
                  have h1 := right_yes wr ⟨a, b, c, d, t.data.toList, itV j s6⟩ t F cp hright rfl hfat
                  simp only [itV_len] at h1
                  exact h1
                have HStep := Lib.hid hst
                have f7 : fits (some r7) := by rw [← hs7]; exact itS_fits HG6.out j
                have HF7 := Lib.hid f7
                rw [hs7] at HRj
                clear hs7 hrj hbj hoj hkj hst hright hfat f7
                have howr := HKj.out.own (by rw [HK0.out]; exact Nat.le_refl _) HO.out HC0.out (by decide)
                have HOw := Lib.hid howr
                have hRlt := HRj.out.lt
                clear howr
                go_wp2_with (first
                  | (go_at_call 28; (with_reducible refine (ok_any _ R _ HRj.out).mono ?_); rintro e w1 ⟨rfl, rfl⟩)
                  | (go_at_call 29; (with_reducible refine HRY.out.mono ?_); rintro e w7 ⟨rfl, hg7⟩
                     have hB7 := Lib.hid (Blk.grown HBj.out hg7 (by simp))
                     have hd0 := hB7.out.cell 0
                     have hd1 := hB7.out.cell 1
                     have hd2 := hB7.out.cell 2
                     have hd3 := hB7.out.cell 3
                     have hd4 := hB7.out.cell 4
                     have hd5 := hB7.out.cell 5
                     simp only [sCells, List.getElem?_toArray, List.getElem?_cons_zero, List.getElem?_cons_succ] at hd0 hd1 hd2 hd3 hd4 hd5
                     have hO7 := Lib.hid (HOw.out.kept hg7 (by cases u5.ownBlock <;> simp))
                     have hs7 := hg7.size)
                  | (at_builtin
                     refine wpList_append_lies _ rfl (.tmp 44) (.tmp 46) 23 rfl R 33 i33 _ 6 72 Tryz.underlying23 hi33 hz33 hy33 hb33 rfl (by decide) u5 k cells rfl (hO7.out.alloc _) ⟨w7.heap.size, 0, none⟩ 1 1 [.int .i64 a, .int .i64 b, .int .i64 c, .int .i64 d, .string t, .slice F j cp] rfl rfl (World.news_of_block (cs := #[.int .i64 a, .int .i64 b, .int .i64 c, .int .i64 d, .string t, .slice F j cp]) (heap_alloc_new w7 _)) (by simp [Value.oneCell']) (by decide) (by simp only [maxLen]; omega) (by omega) (by simp; omega) (w7.heap.size + 1) (by simp) ?_
                     intro g cap w8 hown8 hgr8 hat8 hlt8))
                go_roundw
                case rel =>
                  have hlen : cells.length = L.length * 6 := by have h1 := HO.out.1; have h2 := HLn.out; rw [h1, h2]
                  have hu : (Value.slice F j cp).ownBlock = none ∨ (Value.slice F j cp).ownBlock ≠ u5.ownBlock := own_ne HOj.out HOw.out (by decide)
                  have keep68 : ∀ v n xs, wr.ownsRow R 68 1 v n xs → w8.ownsRow R 68 1 v n xs := fun v n xs h =>
                    keepO hgr8 hO7.out (h.kept hg7 (by cases v.ownBlock <;> simp))
                  have hnew : w8.ownsRow R 68 1 (.slice F j cp) j (ints (itV j s6)) := keep68 _ _ _ (own_base HOj.out (by omega))
                  have hgot2 : Got wr R cells L := fun i s' hi => by
                    obtain ⟨t', F', c', h1, h2, h3⟩ := HGt.out i s' hi
                    exact ⟨t', F', c', h1, HKj.out.own (by rw [HK0.out]; exact Nat.le_refl _) h2 HC0.out (by decide), h3⟩
                  have hstepGot := Got.step hgot2 hlen keep68 ⟨a, b, c, d, t.data.toList, itV j s6⟩ t F cp rfl (by rw [itV_len]; exact hnew)
                  simp only [itV_len] at hstepGot
                  refine ⟨k + 1, L ++ [⟨a, b, c, d, t.data.toList, itV j s6⟩], r7, cells ++ (sCells a b c d t (.slice F j cp)).toList, by omega, by go_num, by simp [HLn.out], ?_, HF7.out, ?_, hown8, hstepGot, ?_⟩
                  · rw [rsteps_snoc, HRr.out, Option.bind_some, HStep.out]; rfl
                  · exact RdrO.grown ((RdrO.grown HRj.out hg7 (by simp)).alloc _) hgr8 (by obtain ⟨cs, hcs⟩ := HRj.out.blk; exact own_blk_ne hO7.out (Blk.grown hcs hg7 (by simp)) (by decide))
                  · exact (((HBl.out.trans (HKj.out.below (by omega) (Nat.le_refl _))).grown hg7 (by omega) (by simp)).alloc (by omega) _).grown hgr8 (by simp; omega) (fun k hk => (hO7.out.lt k hk).1)
                case measure => simp [intOf]; omega
      · obtain rfl : k = N := by omega
        have hfin := parse_end HN.out HST.out HRr.out
        have HFin := Lib.hid hfin
        have HDn := Lib.hid (done_any wr R (some r) hr)
        clear hr hrs hown hgot hbl hfr hfin
        by_cases hz : r.size = 0
        · have hz2 : Scr.parse s.data.toList = some L := by rw [HFin.out, if_pos hz]
          have hdv : doneV (some r) = 0 := by simp only [doneV, if_pos hz]
          rw [hdv] at HDn
          have HZ := Lib.hid hz2
          clear hz hz2 hdv hL
          go_wp2_with (go_at_call 30; (with_reducible refine HDn.out.mono ?_); rintro e w' ⟨rfl, rfl⟩)
          go_ret2
          exact ⟨by rw [← HRq.out]; exact HBl.out, .inr ⟨L, _, cells, HZ.out, rfl, by rw [← HRq.out, HLn.out]; exact HO.out, by rw [← HRq.out]; exact HGt.out⟩⟩
        · have hz2 : Scr.parse s.data.toList = none := by rw [HFin.out, if_neg hz]
          have hdv : doneV (some r) = 2 := by simp only [doneV, if_neg hz]
          rw [hdv] at HDn
          have HZ := Lib.hid hz2
          clear hz hz2 hdv hL
          go_wp2_with (go_at_call 30; (with_reducible refine HDn.out.mono ?_); rintro e w' ⟨rfl, rfl⟩)
          go_ret2
          exact ⟨by rw [← HRq.out]; exact HBl.out, .inl ⟨HZ.out, rfl⟩⟩
#print axioms parse_any
end Go.Proofs.YtapkhldfbdcblaaGreatDoor
