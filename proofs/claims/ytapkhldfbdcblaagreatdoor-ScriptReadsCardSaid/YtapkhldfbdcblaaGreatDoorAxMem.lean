/- An abstract executor, fourth part: what an operation comes to, and the operations on memory. -/
import Derived.Test.YtapkhldfbdcblaaGreatDoorAxScal
import Derived.Laws.Cells
import Derived.ChangeKeysEq
set_option linter.unusedVariables false
set_option linter.unusedSimpArgs false
set_option linter.unusedSectionVars false
set_option linter.unnecessarySimpa false
namespace Go.Ax

inductive AK where
  | ptr
  | map
  | slice (len : Nat) (cap : Option Nat) (sz : Nat)
def AK.av : AK → Pos → AV
  | .ptr, p => .ptr p 0
  | .map, p => .map p
  | .slice len cap sz, p => .slice p 0 len cap sz

/-- What an operation comes to: a value; cells written; a new block; a block that is no row of cells, turned; a row that is consumed and goes on. -/
inductive ORes where
  | val (v : AV)
  | stores (b : Pos) (i : Nat) (vs : List AV) (v : AV)
  | alloc (o : AObj) (k : AK)
  | obj (b : Pos) (o : AObj) (v : AV)
  | renew (b : Pos) (cs : List AV) (k : AK)

def splice : Nat → List AV → List AV → List AV
  | 0, [], cs => cs
  | 0, v :: vs, _ :: cs => v :: splice 0 vs cs
  | 0, _ :: _, [] => []
  | i + 1, vs, c :: cs => c :: splice i vs cs
  | _ + 1, _, [] => []

theorem splice_length : ∀ (i : Nat) (vs cs : List AV), i + vs.length ≤ cs.length → (splice i vs cs).length = cs.length
  | 0, [], cs, _ => by simp [splice]
  | 0, v :: vs, c :: cs, h => by simp only [splice, List.length_cons] at *; rw [splice_length 0 vs cs (by omega)]
  | 0, v :: vs, [], h => by simp at h
  | i + 1, vs, c :: cs, h => by simp only [splice, List.length_cons] at *; rw [splice_length i vs cs (by omega)]
  | i + 1, vs, [], h => by simp at h
theorem splice_nil : ∀ (i : Nat) (cs : List AV), i ≤ cs.length → splice i [] cs = cs
  | 0, cs, _ => by simp [splice]
  | i + 1, c :: cs, h => by simp only [splice, List.length_cons] at *; rw [splice_nil i cs (by omega)]
  | i + 1, [], h => by simp at h
theorem splice_cons : ∀ (i : Nat) (v : AV) (vs cs : List AV), i + vs.length + 1 ≤ cs.length → splice i (v :: vs) cs = splice (i + 1) vs (cs.set i v)
  | 0, v, vs, c :: cs, h => by simp [splice]
  | 0, v, vs, [], h => by simp at h
  | i + 1, v, vs, c :: cs, h => by
    simp only [List.length_cons] at h
    simp only [splice, List.set_cons_succ]
    rw [splice_cons i v vs cs (by omega)]
  | i + 1, v, vs, [], h => by simp at h

theorem AH.set_set (h : AH) (b : Pos) (x y : AObj) : (h.set b x).set b y = h.set b y := by
  simp [AH.set, PM.put_put]

structure Kept (w w' : World) : Prop where
  heap : w'.heap = w.heap
  os : w'.os = w.os
  tape : w'.tape = w.tape
  output : w'.output = w.output
theorem Kept.refl (w : World) : Kept w w := ⟨rfl, rfl, rfl, rfl⟩

/-- The value that an operation leaves. -/
def Gives (R : Result Next) (u : Value) (w' : World) : Prop := R = .ok (.value u) w' ∨ (R = .ok .skip w' ∧ u = undef)

noncomputable def ORes.app : ORes → AH → AV × AH
  | .val v, h => (v, h)
  | .stores b i vs v, h => (v, match h.m.get b with | some (.cells cs) => h.set b (.cells (splice i vs cs)) | _ => h)
  | .alloc o k, h => (k.av h.nx, h.push o)
  | .obj b o v, h => (v, h.set b o)
  | .renew b cs k, h => (k.av h.nx, (h.drop b).push (.cells cs))

def ResOK (E : Env) (h : AH) (w : World) (R : Result Next) : ORes → Prop
  | .val v => ∃ u w', Gives R u w' ∧ VRel E v u ∧ Kept w w'
  | .alloc o k => ∃ u w' O N, Gives R u w' ∧ Kept { w with heap := w.heap.push O } w' ∧ ORel E o 0 N (some O) ∧ ∀ E' : Env, ∀ p, E'.blk p = some (w.heap.size, 0, N) → VRel E' (k.av p) u
  | r => ∃ u w' E', Gives R u w' ∧ VRel E' (r.app h).1 u ∧ HRel E' (r.app h).2 w' ∧ Fr E h w E' (r.app h).2 w'

/-- In one form. -/
theorem ResOK.all {E : Env} {h : AH} {w : World} {R : Result Next} {r : ORes} (hr : HRel E h w) (ok : ResOK E h w R r) :
    ∃ u w' E', Gives R u w' ∧ VRel E' (r.app h).1 u ∧ HRel E' (r.app h).2 w' ∧ Fr E h w E' (r.app h).2 w' := by
  cases r with
  | val v =>
    obtain ⟨u, w', g, hv, k⟩ := ok
    exact ⟨u, w', E, g, hv, hr.congr k.heap, Fr.refl.congr k.heap k.os k.tape k.output⟩
  | alloc o k =>
    obtain ⟨u, w', O, N, g, kp, ho, hv⟩ := ok
    obtain ⟨h1, h2⟩ := hr.push ho
    exact ⟨u, w', _, g, hv _ _ (by simp [Env.set]), h1.congr kp.heap, h2.congr kp.heap kp.os kp.tape kp.output⟩
  | stores b i vs v => exact ok
  | obj b o v => exact ok
  | renew b cs k => exact ok

theorem addr_add (B o i : Nat) : (Addr.mk B o none).add i = ⟨B, o + i, none⟩ := by
  unfold Addr.add
  split
  · subst i; rfl
  · rfl

section
variable {P : Program}
theorem run_isAgg {t : TypeId} {d : TypeDesc} (w : World) (h : P.underlying t = some d) : (isAgg t).run P w = .ok (match d with | .struct _ | .array _ _ => true | _ => false) w := by
  simp only [isAgg, Sem.run_bind, run_underlying h, Result.andThen_ok]
  cases d <;> rfl

/-- Cells that are spoken of, read. -/
theorem HRel.loads {E : Env} {h : AH} {w : World} (r : HRel E h w) {b : Pos} {cs : List AV} {i n : Nat} (hb : h.m.get b = some (.cells cs)) (hi : i + n ≤ cs.length) :
    ∃ B sh N, E.blk b = some (B, sh, N) ∧ ∃ us : List Value, us.length = n ∧ VRelL E ((cs.drop i).take n) us ∧ ∀ P : Program, (loadCells ⟨B, sh + i, none⟩ n).run P w = .ok us.toArray w := by
  obtain ⟨B, sh, N, h1, C, el, lo, hi', h2, h3, h4, h5, h6⟩ := r.obj b _ hb
  refine ⟨B, sh, N, h1, (C.toList.drop (sh + i)).take n, ?_, ?_, fun P => ?_⟩
  · simp; omega
  · refine VRelL.of_get (by simp; omega) fun j a ha => ?_
    rw [List.getElem?_take] at ha
    by_cases hj : j < n
    · simp only [hj, if_true, List.getElem?_drop] at ha
      obtain ⟨_, u, hu, hv⟩ := h5 (i + j) a ha
      refine ⟨u, ?_, hv⟩
      rw [List.getElem?_take]
      simp only [hj, if_true, List.getElem?_drop]
      rw [← hu, ← Array.getElem?_toList]
      congr 1
      omega
    · simp [hj] at ha
  · have hlen : ((C.toList.drop (sh + i)).take n).length = n := by simp; omega
    have := run_loadCells_list (P := P) w ⟨B, sh + i, none⟩ ((C.toList.drop (sh + i)).take n) fun j v hv => by
      rw [addr_add]
      rw [List.getElem?_take] at hv
      by_cases hj : j < n
      · simp only [hj, if_true, List.getElem?_drop] at hv
        simp only [World.cell?, h2, Option.isSome_none, Bool.false_eq_true, if_false]
        rw [← Array.getElem?_toList]
        exact hv
      · simp [hj] at hv
    rw [hlen] at this
    exact this

/-- Cells that are spoken of, written. -/
theorem HRel.storesL {E : Env} {b : Pos} {B sh N : Nat} (P : Program) : ∀ (vs : List AV) (us : List Value) (i j : Nat) (h : AH) (w : World) (cs : List AV), HRel E h w → E.blk b = some (B, sh, N) → h.m.get b = some (.cells cs) →
    i + j + vs.length ≤ cs.length → VRelL E vs us → (∀ v ∈ vs, v.cell = true) →
    ∃ w', (storeCells ⟨B, sh + i, none⟩ us j).run P w = .ok () w' ∧ HRel E (h.set b (.cells (splice (i + j) vs cs))) w' ∧ Fr E h w E (h.set b (.cells (splice (i + j) vs cs))) w' := by
  intro vs
  induction vs with
  | nil =>
    intro us i j h w cs hr hB hb hl hv _
    simp only [VRelL] at hv
    subst hv
    refine ⟨w, by simp [storeCells], ?_⟩
    rw [splice_nil _ _ (by simpa using hl)]
    obtain ⟨B', sh', N', h1, h2⟩ := hr.obj b _ hb
    rw [hB] at h1
    obtain ⟨rfl, rfl, rfl⟩ : B = B' ∧ sh = sh' ∧ N = N' := by simpa using h1
    exact hr.set (by unfold AH.live; rw [hb]; rfl) hB rfl (fun _ _ => rfl) rfl rfl rfl h2
  | cons v vs ih =>
    intro us i j h w cs hr hB hb hl hv hc
    simp only [VRelL] at hv
    obtain ⟨u, us', rfl, hvu, hvs⟩ := hv
    simp only [List.length_cons] at hl
    obtain ⟨c0, hc0⟩ : ∃ c0, cs[i + j]? = some c0 := ⟨_, List.getElem?_eq_getElem (by omega)⟩
    obtain ⟨B', sh', N', u', g1, g2, g3, _, _⟩ := hr.cell hb hc0
    rw [hB] at g1
    obtain ⟨rfl, rfl, rfl⟩ : B = B' ∧ sh = sh' ∧ N = N' := by simpa using g1
    obtain ⟨hr1, hf1⟩ := hr.store hb (i := i + j) (by omega) hvu (hc v (by simp)) hB
    obtain ⟨w', k1, k2, k3⟩ := ih us' i (j + 1) (h.set b (.cells (cs.set (i + j) v))) _ (cs.set (i + j) v) hr1 hB (by simp [AH.set, PM.get_put_same]) (by simp; omega) hvs (fun x hx => hc x (by simp [hx]))
    have hcell := hvu.cellLike (hc v (by simp))
    refine ⟨w', ?_, ?_, ?_⟩
    · simp only [storeCells, Sem.run_bind]
      have hone : u.oneCell' = true := by
        cases u <;> simp_all [Value.oneCell']
      rw [addr_add, run_store P w _ u .plain hone]
      rw [show sh + i + j = sh + (i + j) by omega, g2]
      simp only [g3, Bool.false_eq_true, if_false, Result.andThen_ok]
      exact k1
    · rw [splice_cons _ _ _ _ (by omega)]
      rw [AH.set_set] at k2
      exact k2
    · rw [splice_cons _ _ _ _ (by omega)]
      rw [AH.set_set] at k3
      exact hf1.trans k3
end
end Go.Ax
