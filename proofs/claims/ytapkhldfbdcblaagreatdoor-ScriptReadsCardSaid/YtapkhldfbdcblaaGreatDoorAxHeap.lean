/- An abstract executor, second part: abstract heaps, how they stand for worlds, and what a step may turn. -/
import Derived.Test.YtapkhldfbdcblaaGreatDoorAxBase
set_option linter.unusedVariables false
set_option linter.unusedSimpArgs false
set_option linter.unusedSectionVars false
set_option linter.unnecessarySimpa false
namespace Go.Ax

structure ALoop where
  state : LoopState
  pending : Option Code
  T : PM AV
  n : Nat
  params : Array Tmp
  assign : Code
  body : Code
  defers : Pos

abbrev AEnt := AV × AV × Nat

inductive AObj where
  | cells (cs : List AV)
  | map (es : List AEnt) (clock : Nat)
  | iter (m : Option Pos) (since : Nat) (seen : List Nat) (stepped : Nat)
  | loop (l : ALoop)
  | deferred

structure AH where
  m : PM AObj
  nx : Pos

def AH.live (h : AH) (b : Pos) : Prop := (h.m.get b).isSome = true

/-- Temporaries. -/
def TRel (E : Env) (n : Nat) (T : PM AV) (tmps : Array Value) : Prop :=
  tmps.size = n ∧ ∀ t v, t < 2 ^ 62 → T.get (posOf t) = some v → ∃ u, tmps[t]? = some u ∧ VRel E v u

theorem TRel.mono {E E' : Env} {n : Nat} {T : PM AV} {tmps : Array Value} (h : E.le E') (r : TRel E n T tmps) : TRel E' n T tmps :=
  ⟨r.1, fun t v ht hg => let ⟨u, hu, hv⟩ := r.2 t v ht hg; ⟨u, hu, VRel.mono h _ _ hv⟩⟩

def MRel (E : Env) : List AEnt → List MapEntry → Prop
  | [], es => es = []
  | (k, v, b) :: as, es => ∃ e es', es = e :: es' ∧ VRel E k e.key ∧ VRel E v e.val ∧ e.born = b ∧ MRel E as es'

theorem MRel.mono {E E' : Env} (h : E.le E') : ∀ {as : List AEnt} {es : List MapEntry}, MRel E as es → MRel E' as es
  | [], _, r => r
  | (k, v, b) :: as, es, r => by
    obtain ⟨e, es', rfl, hk, hv, hb, hs⟩ := r
    exact ⟨e, es', rfl, VRel.mono h _ _ hk, VRel.mono h _ _ hv, hb, MRel.mono h hs⟩

def ORel (E : Env) (o : AObj) (sh N : Nat) (O : Option Obj) : Prop :=
  match o with
  | .cells cs => ∃ C el lo hi, O = some (.cells C el (lo, hi)) ∧ C.size = N ∧ sh + cs.length ≤ N ∧
      (∀ (i : Nat) (v : AV), cs[i]? = some v → v.cell = true ∧ ∃ u, C[sh + i]? = some u ∧ VRel E v u) ∧ (∀ j, j < N → ¬ (lo ≤ j ∧ j < hi))
  | .map es clock => sh = 0 ∧ ∃ es', O = some (.map es' clock) ∧ MRel E es es'.toList
  | .iter m since seen stepped => sh = 0 ∧ match m with
      | none => O = some (.mapIter none since seen.toArray stepped)
      | some p => ∃ M K, E.blk p = some (M, 0, K) ∧ O = some (.mapIter (some M) since seen.toArray stepped)
  | .loop l => sh = 0 ∧ ∃ fn tmps D K, E.blk l.defers = some (D, 0, K) ∧ TRel E l.n l.T tmps ∧
      O = some (.loop { state := l.state, pending := l.pending, fn, tmps, params := l.params, assign := l.assign, body := l.body, defers := D })
  | .deferred => sh = 0 ∧ O = some (.deferred (some []))

theorem ORel.mono {E E' : Env} (h : E.le E') {o : AObj} {sh N : Nat} {O : Option Obj} (r : ORel E o sh N O) : ORel E' o sh N O := by
  cases o with
  | cells cs =>
    obtain ⟨C, el, lo, hi, h1, h2, h3, h4, h5⟩ := r
    exact ⟨C, el, lo, hi, h1, h2, h3, fun i v hv => ⟨(h4 i v hv).1, let ⟨u, hu, hr⟩ := (h4 i v hv).2; ⟨u, hu, VRel.mono h _ _ hr⟩⟩, h5⟩
  | map es clock => obtain ⟨h0, es', h1, h2⟩ := r; exact ⟨h0, es', h1, h2.mono h⟩
  | iter m since seen stepped =>
    cases m with
    | none => exact r
    | some p => obtain ⟨h0, M, K, h1, h2⟩ := r; exact ⟨h0, M, K, h.blk _ _ h1, h2⟩
  | loop l => obtain ⟨h0, fn, tmps, D, K, h1, h2, h3⟩ := r; exact ⟨h0, fn, tmps, D, K, h.blk _ _ h1, h2.mono h, h3⟩
  | deferred => exact r

structure HRel (E : Env) (h : AH) (w : World) : Prop where
  obj : ∀ b o, h.m.get b = some o → ∃ B sh N, E.blk b = some (B, sh, N) ∧ ORel E o sh N w.heap[B]?
  inj : ∀ b b' B sh N sh' N', h.live b → h.live b' → E.blk b = some (B, sh, N) → E.blk b' = some (B, sh', N') → b = b'
  fresh : ∀ p : Pos, h.nx.nat ≤ p.nat → E.blk p = none
  below : ∀ p B sh N, E.blk p = some (B, sh, N) → B < w.heap.size

/-- What a step has kept. -/
structure Fr (E : Env) (h : AH) (w : World) (E' : Env) (h' : AH) (w' : World) : Prop where
  le : E.le E'
  old : ∀ p : Pos, p.nat < h.nx.nat → E'.blk p = E.blk p
  nx : h.nx.nat ≤ h'.nx.nat
  size : w.heap.size ≤ w'.heap.size
  os : w'.os = w.os
  tape : w'.tape = w.tape
  output : w'.output = w.output
  rest : ∀ B, B < w.heap.size → (∀ b sh N, h.live b → E.blk b ≠ some (B, sh, N)) → w'.heap[B]? = w.heap[B]?
  own : ∀ b B sh N, h'.live b → E'.blk b = some (B, sh, N) → w.heap.size ≤ B ∨ ∃ b₀ sh₀ N₀, h.live b₀ ∧ E.blk b₀ = some (B, sh₀, N₀)

theorem Fr.refl {E : Env} {h : AH} {w : World} : Fr E h w E h w :=
  ⟨.refl E, fun _ _ => rfl, Nat.le_refl _, Nat.le_refl _, rfl, rfl, rfl, fun _ _ _ => rfl, fun b B sh N hl hb => .inr ⟨b, sh, N, hl, hb⟩⟩

theorem Fr.trans {E E' E'' : Env} {h h' h'' : AH} {w w' w'' : World} (f : Fr E h w E' h' w') (g : Fr E' h' w' E'' h'' w'') : Fr E h w E'' h'' w'' where
  le := f.le.trans g.le
  old := fun p hp => (g.old p (Nat.lt_of_lt_of_le hp f.nx)).trans (f.old p hp)
  nx := Nat.le_trans f.nx g.nx
  size := Nat.le_trans f.size g.size
  os := g.os.trans f.os
  tape := g.tape.trans f.tape
  output := g.output.trans f.output
  rest := fun B hB hn => by
    rw [g.rest B (Nat.lt_of_lt_of_le hB f.size), f.rest B hB hn]
    intro b sh N hl he
    rcases f.own b B sh N hl he with h1 | ⟨b₀, sh₀, N₀, h1, h2⟩
    · omega
    · exact hn _ _ _ h1 h2
  own := fun b B sh N hl he => by
    rcases g.own b B sh N hl he with h1 | ⟨b₀, sh₀, N₀, h1, h2⟩
    · exact .inl (Nat.le_trans f.size h1)
    · exact f.own _ _ _ _ h1 h2

/-- A draw turns nothing here. -/
theorem HRel.congr {E : Env} {h : AH} {w w' : World} (r : HRel E h w) (e : w'.heap = w.heap) : HRel E h w' :=
  ⟨fun b o hb => by rw [e]; exact r.obj b o hb, r.inj, r.fresh, fun p _ sh N hp => by rw [e]; exact r.below p _ sh N hp⟩
theorem Fr.congr {E E' : Env} {h h' : AH} {w w' w'' : World} (f : Fr E h w E' h' w') (e : w''.heap = w'.heap) (o : w''.os = w'.os) (t : w''.tape = w'.tape) (u : w''.output = w'.output) :
    Fr E h w E' h' w'' :=
  ⟨f.le, f.old, f.nx, by rw [e]; exact f.size, o.trans f.os, t.trans f.tape, u.trans f.output, fun B hB hn => by rw [e]; exact f.rest B hB hn, f.own⟩

def Env.set (E : Env) (p : Pos) (x : Nat × Nat × Nat) : Env := { E with blk := fun q => if q = p then some x else E.blk q }

noncomputable def AH.push (h : AH) (o : AObj) : AH := { m := h.m.put h.nx (some o), nx := h.nx.succ }
noncomputable def AH.set (h : AH) (b : Pos) (o : AObj) : AH := { h with m := h.m.put b (some o) }

theorem AH.live_put {m : PM AObj} {nx p q : Pos} {o : AObj} : (AH.live { m := m.put p (some o), nx } q) ↔ q = p ∨ AH.live { m, nx } q := by
  unfold AH.live
  simp only [PM.get_put]
  by_cases e : p = q
  · simp [e]
  · simp [e, Ne.symm e]

theorem HRel.nx_none {E : Env} {h : AH} {w : World} (r : HRel E h w) : E.blk h.nx = none := r.fresh _ (Nat.le_refl _)

/-- A new block. -/
theorem HRel.push {E : Env} {h : AH} {w : World} (r : HRel E h w) {o : AObj} {O : Obj} {N : Nat}
    (ho : ORel E o 0 N (some O)) :
    (HRel (E.set h.nx (w.heap.size, 0, N)) (h.push o) { w with heap := w.heap.push O } ∧ Fr E h w (E.set h.nx (w.heap.size, 0, N)) (h.push o) { w with heap := w.heap.push O }) := by
  have hle : E.le (E.set h.nx (w.heap.size, 0, N)) := ⟨fun p x hp => by
    by_cases e : p = h.nx
    · rw [e, r.nx_none] at hp; cases hp
    · simp [Env.set, e, hp], rfl⟩
  have hget : ∀ B, B < w.heap.size → (w.heap.push O)[B]? = w.heap[B]? := fun B hB => by rw [Array.getElem?_push, if_neg (by omega)]
  refine ⟨⟨fun b o' hb => ?_, fun b b' B sh N₁ sh' N' hl hl' e e' => ?_, fun p hp => ?_, fun p B sh N₁ hp => ?_⟩, ⟨hle, fun p hp => ?_, ?_, by simp, rfl, rfl, rfl, fun B hB _ => hget B hB, fun b B sh N₁ hl he => ?_⟩⟩
  · simp only [AH.push, PM.get_put] at hb
    by_cases e : h.nx = b
    · subst e
      simp at hb
      subst hb
      refine ⟨w.heap.size, 0, N, by simp [Env.set], ?_⟩
      rw [show (w.heap.push O)[w.heap.size]? = some O from by simp]
      exact ho.mono hle
    · simp [e] at hb
      obtain ⟨B, sh, N', h1, h2⟩ := r.obj b o' hb
      refine ⟨B, sh, N', hle.blk _ _ h1, ?_⟩
      show ORel _ o' sh N' ((w.heap.push O)[B]?)
      rw [hget B (r.below _ _ _ _ h1)]
      exact h2.mono hle
  · have hl0 := AH.live_put.1 hl
    have hl0' := AH.live_put.1 hl'
    simp only [Env.set] at e e'
    by_cases e1 : b = h.nx <;> by_cases e2 : b' = h.nx
    · rw [e1, e2]
    · simp [e1] at e; simp [e2] at e'; have := r.below _ _ _ _ e'; omega
    · simp [e1] at e; simp [e2] at e'; have := r.below _ _ _ _ e; omega
    · simp [e1] at e; simp [e2] at e'
      exact r.inj b b' B sh N₁ sh' N' (hl0.resolve_left e1) (hl0'.resolve_left e2) e e'
  · have h1 : h.nx.nat + 1 ≤ p.nat := by simpa [AH.push, Pos.nat_succ] using hp
    have h2 : p ≠ h.nx := fun e => by rw [e] at h1; omega
    simp only [Env.set, h2, if_false]
    exact r.fresh p (by omega)
  · simp only [Env.set] at hp
    by_cases e : p = h.nx
    · simp [e] at hp; simp; omega
    · simp [e] at hp; have := r.below _ _ _ _ hp; simp; omega
  · have h2 : p ≠ h.nx := fun e => by rw [e] at hp; omega
    simp [Env.set, h2]
  · simp [AH.push, Pos.nat_succ]
  · by_cases e : b = h.nx
    · subst e; simp [Env.set] at he; left; omega
    · simp [Env.set, e] at he
      exact .inr ⟨b, sh, N₁, (AH.live_put.1 hl).resolve_left e, he⟩

/-- A block of its own is turned. -/
theorem HRel.set {E : Env} {h : AH} {w : World} (r : HRel E h w) {b : Pos} {B sh N : Nat} (hl : h.live b) (hb : E.blk b = some (B, sh, N)) {o : AObj} {w' : World}
    (hsz : w'.heap.size = w.heap.size) (hother : ∀ k, k ≠ B → w'.heap[k]? = w.heap[k]?) (hos : w'.os = w.os) (ht : w'.tape = w.tape) (hu : w'.output = w.output)
    (ho : ORel E o sh N w'.heap[B]?) : HRel E (h.set b o) w' ∧ Fr E h w E (h.set b o) w' := by
  have live : ∀ q, (h.set b o).live q ↔ h.live q := fun q => by
    refine AH.live_put.trans ⟨fun hq => ?_, .inr⟩
    rcases hq with rfl | hq
    · exact hl
    · exact hq
  refine ⟨⟨fun q o' hq => ?_, fun q q' B' sh₁ N₁ sh' N' l l' e e' => r.inj q q' B' sh₁ N₁ sh' N' ((live q).1 l) ((live q').1 l') e e', r.fresh, fun p B' sh' N' hp => by rw [hsz]; exact r.below _ _ _ _ hp⟩,
    ⟨.refl E, fun _ _ => rfl, Nat.le_refl _, by omega, hos, ht, hu, fun B' hB' hn => ?_, fun q B' sh' N' l e => .inr ⟨q, sh', N', (live q).1 l, e⟩⟩⟩
  · simp only [AH.set, PM.get_put] at hq
    by_cases e : b = q
    · subst e; simp at hq; subst hq; exact ⟨B, sh, N, hb, ho⟩
    · simp [e] at hq
      obtain ⟨B', sh', N', h1, h2⟩ := r.obj q o' hq
      have hne : B' ≠ B := fun e' => by
        subst e'
        exact e (r.inj b q B' sh N sh' N' hl (by unfold AH.live; rw [hq]; rfl) hb h1)
      exact ⟨B', sh', N', h1, by rw [hother B' hne]; exact h2⟩
  · exact hother B' fun e => hn b sh N hl (e ▸ hb)

/-- A block is no longer spoken of. -/
noncomputable def AH.drop (h : AH) (b : Pos) : AH := { h with m := h.m.put b none }
theorem AH.live_drop {h : AH} {b q : Pos} : (h.drop b).live q ↔ q ≠ b ∧ h.live q := by
  unfold AH.live AH.drop
  simp only [PM.get_put]
  by_cases e : b = q
  · simp [e]
  · simp [e, Ne.symm e]
theorem HRel.drop {E : Env} {h : AH} {w : World} (r : HRel E h w) (b : Pos) : HRel E (h.drop b) w ∧ Fr E h w E (h.drop b) w := by
  have get : ∀ q o, (h.drop b).m.get q = some o → h.m.get q = some o := fun q o hq => by
    simp only [AH.drop, PM.get_put] at hq
    by_cases e : b = q
    · simp [e] at hq
    · simpa [e] using hq
  refine ⟨⟨fun q o hq => r.obj q o (get q o hq), fun q q' B' sh₁ N₁ sh' N' l l' e e' => r.inj q q' B' sh₁ N₁ sh' N' (AH.live_drop.1 l).2 (AH.live_drop.1 l').2 e e', r.fresh, r.below⟩,
    ⟨.refl E, fun _ _ => rfl, Nat.le_refl _, Nat.le_refl _, rfl, rfl, rfl, fun _ _ _ => rfl, fun q B' sh' N' l e => .inr ⟨q, sh', N', (AH.live_drop.1 l).2, e⟩⟩⟩

/-- A row that was consumed goes on under a new key, at the same place or behind it. -/
theorem HRel.renew {E : Env} {h : AH} {w : World} (r : HRel E h w) {b : Pos} {B sh N sh' : Nat} (hl : h.live b) (hb : E.blk b = some (B, sh, N)) {o : AObj} {w' : World}
    (hsz : w'.heap.size = w.heap.size) (hother : ∀ k, k ≠ B → w'.heap[k]? = w.heap[k]?) (hos : w'.os = w.os) (ht : w'.tape = w.tape) (hu : w'.output = w.output)
    (ho : ORel E o sh' N w'.heap[B]?) : HRel (E.set h.nx (B, sh', N)) ((h.drop b).push o) w' ∧ Fr E h w (E.set h.nx (B, sh', N)) ((h.drop b).push o) w' := by
  have hle : E.le (E.set h.nx (B, sh', N)) := ⟨fun p x hp => by
    by_cases e : p = h.nx
    · rw [e, r.nx_none] at hp; cases hp
    · simp [Env.set, e, hp], rfl⟩
  have hbn : b ≠ h.nx := fun e => by rw [e, r.nx_none] at hb; cases hb
  have hBlt := r.below _ _ _ _ hb
  have live : ∀ q, ((h.drop b).push o).live q ↔ q = h.nx ∨ (q ≠ b ∧ h.live q) := fun q => by
    refine AH.live_put.trans ?_
    show _ ∨ (h.drop b).live q ↔ _
    rw [AH.live_drop]
    exact Iff.rfl
  refine ⟨⟨fun q o' hq => ?_, fun q q' B' sh₁ N₁ sh₂ N' l l' e e' => ?_, fun p hp => ?_, fun p B' sh₁ N₁ hp => ?_⟩, ⟨hle, fun p hp => ?_, ?_, by omega, hos, ht, hu, fun B' hB' hn => ?_, fun q B' sh₁ N₁ l e => ?_⟩⟩
  · simp only [AH.push, AH.drop, PM.get_put] at hq
    by_cases e : h.nx = q
    · subst e
      simp at hq
      subst hq
      exact ⟨B, sh', N, by simp [Env.set], ho.mono hle⟩
    · simp only [e, if_false] at hq
      by_cases e2 : b = q
      · simp [e2] at hq
      · simp only [e2, if_false] at hq
        obtain ⟨B', sh₁, N₁, h1, h2⟩ := r.obj q o' hq
        have hne : B' ≠ B := fun e' => by
          subst e'
          exact e2 (r.inj b q B' sh N sh₁ N₁ hl (by unfold AH.live; rw [hq]; rfl) hb h1)
        exact ⟨B', sh₁, N₁, hle.blk _ _ h1, by rw [hother B' hne]; exact h2.mono hle⟩
  · have l0 := (live q).1 l
    have l0' := (live q').1 l'
    simp only [Env.set] at e e'
    by_cases e1 : q = h.nx <;> by_cases e2 : q' = h.nx
    · rw [e1, e2]
    · simp [e1] at e; simp [e2] at e'
      have h2 := l0'.resolve_left e2
      have : b = q' := r.inj b q' B sh N sh₂ N' hl h2.2 hb (by rw [e']; simp [e.1])
      exact absurd this.symm h2.1
    · simp [e1] at e; simp [e2] at e'
      have h2 := l0.resolve_left e1
      have : b = q := r.inj b q B sh N sh₁ N₁ hl h2.2 hb (by rw [e]; simp [e'.1])
      exact absurd this.symm h2.1
    · simp [e1] at e; simp [e2] at e'
      exact r.inj q q' B' sh₁ N₁ sh₂ N' (l0.resolve_left e1).2 (l0'.resolve_left e2).2 e e'
  · have h1 : h.nx.nat + 1 ≤ p.nat := by simpa [AH.push, AH.drop, Pos.nat_succ] using hp
    have h2 : p ≠ h.nx := fun e => by rw [e] at h1; omega
    simp only [Env.set, h2, if_false]
    exact r.fresh p (by omega)
  · simp only [Env.set] at hp
    by_cases e : p = h.nx
    · simp [e] at hp; omega
    · simp [e] at hp; have := r.below _ _ _ _ hp; omega
  · have h2 : p ≠ h.nx := fun e => by rw [e] at hp; omega
    simp [Env.set, h2]
  · simp [AH.push, AH.drop, Pos.nat_succ]
  · exact hother B' fun e => hn b sh N hl (e ▸ hb)
  · simp only [Env.set] at e
    by_cases e1 : q = h.nx
    · simp [e1] at e; exact .inr ⟨b, sh, N, hl, by rw [hb]; simp [e.1]⟩
    · simp [e1] at e; exact .inr ⟨q, sh₁, N₁, (((live q).1 l).resolve_left e1).2, e⟩

/-- A cell that is spoken of. -/
theorem HRel.cell {E : Env} {h : AH} {w : World} (r : HRel E h w) {b : Pos} {cs : List AV} {i : Nat} {v : AV} (hb : h.m.get b = some (.cells cs)) (hi : cs[i]? = some v) :
    ∃ B sh N u, E.blk b = some (B, sh, N) ∧ w.cell? ⟨B, sh + i, none⟩ = some u ∧ w.frozen? ⟨B, sh + i, none⟩ = false ∧ VRel E v u ∧ v.cell = true := by
  obtain ⟨B, sh, N, h1, C, el, lo, hi', h2, h3, h4, h5, h6⟩ := r.obj b _ hb
  obtain ⟨hc, u, hu, hv⟩ := h5 i v hi
  refine ⟨B, sh, N, u, h1, by simp [World.cell?, h2, hu], ?_, hv, hc⟩
  have hlt : sh + i < N := by
    rw [← h3]
    rcases Nat.lt_or_ge (sh + i) C.size with hlt | hge
    · exact hlt
    · rw [Array.getElem?_eq_none hge] at hu; cases hu
  simp only [World.frozen?, h2]
  have := h6 (sh + i) hlt
  simpa using this

theorem setCell_heap {w : World} {B o : Nat} {u : Value} {C : Array Value} {el : TypeId} {fr : Nat × Nat} (h : w.heap[B]? = some (.cells C el fr)) :
    (w.setCell ⟨B, o, none⟩ u).heap[B]? = some (.cells (C.setIfInBounds o u) el fr) := by
  simp [World.setCell, Array.getElem?_modify, h]
theorem setCell_other {w : World} {B o k : Nat} {u : Value} (h : k ≠ B) : (w.setCell ⟨B, o, none⟩ u).heap[k]? = w.heap[k]? := by
  simp only [World.setCell, Array.getElem?_modify]
  rw [if_neg (by omega)]

/-- A cell is written. -/
theorem HRel.store {E : Env} {h : AH} {w : World} (r : HRel E h w) {b : Pos} {cs : List AV} {i : Nat} {v : AV} {u : Value} (hb : h.m.get b = some (.cells cs)) (hi : i < cs.length)
    (hv : VRel E v u) (hc : v.cell = true) {B sh N : Nat} (hB : E.blk b = some (B, sh, N)) :
    HRel E (h.set b (.cells (cs.set i v))) (w.setCell ⟨B, sh + i, none⟩ u) ∧ Fr E h w E (h.set b (.cells (cs.set i v))) (w.setCell ⟨B, sh + i, none⟩ u) := by
  obtain ⟨B', sh', N', h1, C, el, lo, hi', h2, h3, h4, h5, h6⟩ := r.obj b _ hb
  rw [hB] at h1
  obtain ⟨rfl, rfl, rfl⟩ : B = B' ∧ sh = sh' ∧ N = N' := by simpa using h1
  refine r.set (by unfold AH.live; rw [hb]; rfl) hB (by simp [World.setCell]) (fun k hk => setCell_other hk) rfl rfl rfl ?_
  rw [setCell_heap h2]
  refine ⟨_, el, lo, hi', rfl, by simp [h3], by simp; exact h4, fun j x hx => ?_, h6⟩
  rw [List.getElem?_set] at hx
  by_cases e : i = j
  · subst e
    simp [hi] at hx
    subst hx
    refine ⟨hc, u, ?_, hv⟩
    have : sh + i < C.size := by omega
    simp [this]
  · simp [e] at hx
    obtain ⟨q1, x', q2, q3⟩ := h5 j x hx
    exact ⟨q1, x', by rw [Array.getElem?_setIfInBounds_ne (by omega)]; exact q2, q3⟩
end Go.Ax
