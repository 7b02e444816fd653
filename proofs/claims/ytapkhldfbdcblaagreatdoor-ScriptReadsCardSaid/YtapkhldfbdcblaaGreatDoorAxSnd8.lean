/- An abstract executor, twenty-third part: the plan of a drawn region. -/
import Derived.Test.YtapkhldfbdcblaaGreatDoorAxSnd7
set_option linter.unusedSectionVars false
set_option linter.unnecessarySimpa false
set_option linter.unusedSimpArgs false
set_option linter.unusedVariables false
namespace Go.Ax
noncomputable section
variable {P : Program}

inductive PK where
  | skip
  | quiet
  | new (id : Pos) (ob : AObj)
  | loud
structure Pl where
  T : Nat → PM AV
  h : Nat → AH
  v : Nat → AV
  kd : Nat → PK
  mg : Nat → Nat

def Prec (ops : Array Oper) (i j : Nat) : Prop := Nat.testBit ((Region.before ops).getD j 0) i = true
def tstep (T : PM AV) (dst : Option Tmp) (v : AV) : PM AV := match dst with | none => T | some d => T.put (posOf d) (some v)

structure HIn (pl : Pl) (l : Nat) (hin : AH) : Prop where
  nx : hin.nx = (pl.h l).nx
  a : ∀ p ob, hin.m.get p = some ob → (pl.h l).m.get p = some ob ∨ ∃ j, j < l ∧ pl.kd j = .new p ob ∧ pl.mg j = l
  b : ∀ p, ((pl.h l).m.get p).isSome = true → (hin.m.get p).isSome = true
  c : ∀ j p ob, j < l → pl.kd j = .new p ob → pl.mg j = l → (hin.m.get p).isSome = true

def StepK (P : Program) (ops : Array Oper) (base : List Pos) (pl : Pl) (i j : Nat) (o : Oper) : PK → Prop
  | .skip => wantedA ops (pl.T j) o = some false ∧ pl.v j = .undef ∧ pl.h (j + 1) = pl.h j
  | .quiet => wantedA ops (pl.T j) o = some true ∧ pl.h (j + 1) = pl.h j ∧
      ∀ q, q ≤ i → (∀ l, l < j → pl.kd l = .loud → Prec ops l j → l < q) → (∀ l, l < i → j < l → pl.kd l = .loud → Prec ops j l → q ≤ l) → opA P o (pl.T j) (pl.h q) = some (.val (pl.v j))
  | .new id ob => wantedA ops (pl.T j) o = some true ∧ pl.h (j + 1) = pl.h j ∧ base[j]? = some id ∧ (∃ kd, (∀ h, opA P o (pl.T j) h = some (.alloc ob kd)) ∧ pl.v j = kd.av id) ∧
      j < pl.mg j ∧ (pl.mg j < i → pl.kd (pl.mg j) = .loud ∧ Prec ops j (pl.mg j)) ∧ (i ≤ pl.mg j → pl.mg j = ops.size) ∧ (∀ l, l < i → j < l → pl.kd l = .loud → Prec ops j l → pl.mg j ≤ l)
  | .loud => wantedA ops (pl.T j) o = some true ∧ isLoud o = true ∧ ∃ hin, HIn pl j hin ∧ SoundO2 P o (pl.T j) hin (pl.v j) (pl.h (j + 1))
def StepOK (P : Program) (ops : Array Oper) (n : Nat) (base : List Pos) (pl : Pl) (i j : Nat) : Prop :=
  ∃ o, ops[j]? = some o ∧ (∀ d, o.dst = some d → d < n) ∧ pl.T (j + 1) = tstep (pl.T j) o.dst (pl.v j) ∧ StepK P ops base pl i j o (pl.kd j)

structure PP (P : Program) (ops : Array Oper) (n : Nat) (base : List Pos) (T₀ : PM AV) (h₀ : AH) (pl : Pl) (i : Nat) (s : DSt) : Prop where
  si : s.i = i
  sT : s.T = pl.T i
  sh : s.h = pl.h i
  t0 : pl.T 0 = T₀
  h0 : pl.h 0 = h₀
  step : ∀ j, j < i → StepOK P ops n base pl i j
  louds : ∀ l, l < i → pl.kd l = .loud → (l, pl.h l) ∈ s.louds
  lsort : s.louds.Pairwise (fun x y => y.1 < x.1)
  lback : ∀ l h, (l, h) ∈ s.louds → l < i ∧ pl.kd l = .loud ∧ pl.h l = h
  quiet : ∀ j, j < i → pl.kd j = .quiet → (∀ l, l < i → j < l → pl.kd l = .loud → ¬ Prec ops j l) → ∃ o, ops[j]? = some o ∧ (j, o, pl.T j, pl.v j) ∈ s.quiet
  pend1 : ∀ j, j < i → ∀ id ob, pl.kd j = .new id ob → i ≤ pl.mg j → (j, id, ob) ∈ s.pend
  pend2 : ∀ j id ob, (j, id, ob) ∈ s.pend → j < i ∧ pl.kd j = .new id ob ∧ pl.mg j = ops.size

def Pl.ext (pl : Pl) (i N : Nat) (T' : PM AV) (h' : AH) (v : AV) (kd : PK) (M : Nat → Bool) : Pl where
  T := fun k => if k ≤ i then pl.T k else T'
  h := fun k => if k ≤ i then pl.h k else h'
  v := fun k => if k = i then v else pl.v k
  kd := fun k => if k = i then kd else pl.kd k
  mg := fun k => if k = i then N else if M k = true then i else pl.mg k

theorem PP.h_const {ops : Array Oper} {n : Nat} {base : List Pos} {pl : Pl} {i : Nat} (st : ∀ j, j < i → StepOK P ops n base pl i j) {q : Nat} : ∀ {r : Nat}, q ≤ r → r ≤ i → (∀ l, q ≤ l → l < r → pl.kd l ≠ .loud) → pl.h r = pl.h q := by
  intro r
  induction r with
  | zero => intro hq _ _; rw [show q = 0 by omega]
  | succ r ih =>
    intro hq hr hl
    by_cases e : q = r + 1
    · rw [e]
    · have h1 := ih (by omega) (by omega) fun l a b => hl l a (by omega)
      obtain ⟨o, _, _, _, hk⟩ := st r (by omega)
      have h2 := hl r (by omega) (by omega)
      rw [← h1]
      cases hkd : pl.kd r with
      | loud => exact absurd hkd h2
      | skip => rw [hkd] at hk; exact hk.2.2
      | quiet => rw [hkd] at hk; exact hk.2.1
      | new id ob => rw [hkd] at hk; exact hk.2.1

def ExtK (P : Program) (ops : Array Oper) (base : List Pos) (pl : Pl) (s : DSt) (i : Nat) (o : Oper) (h' : AH) (v : AV) (M : Nat → Bool) : PK → Prop
  | .skip => wantedA ops (pl.T i) o = some false ∧ v = .undef ∧ h' = pl.h i
  | .quiet => wantedA ops (pl.T i) o = some true ∧ h' = pl.h i ∧ ∀ q, q ≤ i → (∀ l, l < i → pl.kd l = .loud → Prec ops l i → l < q) → opA P o (pl.T i) (pl.h q) = some (.val v)
  | .new id ob => wantedA ops (pl.T i) o = some true ∧ h' = pl.h i ∧ base[i]? = some id ∧ ∃ kd, (∀ h, opA P o (pl.T i) h = some (.alloc ob kd)) ∧ v = kd.av id
  | .loud => wantedA ops (pl.T i) o = some true ∧ isLoud o = true ∧ ∃ hin : AH, hin.nx = (pl.h i).nx ∧ (∀ p ob, hin.m.get p = some ob → (pl.h i).m.get p = some ob ∨ ∃ j, M j = true ∧ (j, p, ob) ∈ s.pend) ∧
          (∀ p, ((pl.h i).m.get p).isSome = true → (hin.m.get p).isSome = true) ∧ (∀ j p ob, M j = true → (j, p, ob) ∈ s.pend → (hin.m.get p).isSome = true) ∧ SoundO2 P o (pl.T i) hin v h'
/-- One operation more. -/
theorem PP.ext {ops : Array Oper} {n : Nat} {base : List Pos} {T₀ : PM AV} {h₀ : AH} {pl : Pl} {i : Nat} {s s' : DSt} (pp : PP P ops n base T₀ h₀ pl i s) (hi : i < ops.size) {o : Oper} (ho : ops[i]? = some o)
    {T' : PM AV} {h' : AH} {v : AV} {kd : PK} {M : Nat → Bool} (hd : ∀ d, o.dst = some d → d < n) (hT : T' = tstep (pl.T i) o.dst v)
    (hM : ∀ k, M k = true → kd = .loud ∧ Prec ops k i ∧ ∃ id ob, (k, id, ob) ∈ s.pend) (hM2 : kd = .loud → ∀ k id ob, (k, id, ob) ∈ s.pend → Prec ops k i → M k = true)
    (hk : ExtK P ops base pl s i o h' v M kd)
    (hfront : kd = .loud → ∀ j o', j < i → ops[j]? = some o' → (j, o', pl.T j, pl.v j) ∈ s.quiet → ¬ Prec ops j i → opA P o' (pl.T j) h' = some (.val (pl.v j)))
    (si : s'.i = i + 1) (sT : s'.T = T') (sh : s'.h = h')
    (hl : (kd = .loud → s'.louds = (i, pl.h i) :: s.louds) ∧ (kd ≠ .loud → s'.louds = s.louds))
    (hq : ∀ x ∈ s.quiet, (kd = .loud → ¬ Prec ops x.1 i) → x ∈ s'.quiet) (hq2 : kd = .quiet → (i, o, pl.T i, v) ∈ s'.quiet)
    (hp : ∀ x, x ∈ s'.pend ↔ (x ∈ s.pend ∧ M x.1 = false) ∨ (∃ id ob, kd = .new id ob ∧ x = (i, id, ob))) :
    PP P ops n base T₀ h₀ (pl.ext i ops.size T' h' v kd M) (i + 1) s' := by
  have eT : ∀ k, k ≤ i → (pl.ext i ops.size T' h' v kd M).T k = pl.T k := fun k hk => by simp [Pl.ext, hk]
  have eT1 : (pl.ext i ops.size T' h' v kd M).T (i + 1) = T' := if_neg (by omega)
  have eh : ∀ k, k ≤ i → (pl.ext i ops.size T' h' v kd M).h k = pl.h k := fun k hk => by simp [Pl.ext, hk]
  have eh1 : (pl.ext i ops.size T' h' v kd M).h (i + 1) = h' := if_neg (by omega)
  have ev : ∀ k, k < i → (pl.ext i ops.size T' h' v kd M).v k = pl.v k := fun k hk => by simp [Pl.ext, Nat.ne_of_lt hk]
  have ev1 : (pl.ext i ops.size T' h' v kd M).v i = v := by simp [Pl.ext]
  have ek : ∀ k, k < i → (pl.ext i ops.size T' h' v kd M).kd k = pl.kd k := fun k hk => by simp [Pl.ext, Nat.ne_of_lt hk]
  have ek1 : (pl.ext i ops.size T' h' v kd M).kd i = kd := by simp [Pl.ext]
  have em : ∀ k, k < i → M k = false → (pl.ext i ops.size T' h' v kd M).mg k = pl.mg k := fun k hk hm => by simp [Pl.ext, Nat.ne_of_lt hk, hm]
  have emM : ∀ k, k < i → M k = true → (pl.ext i ops.size T' h' v kd M).mg k = i := fun k hk hm => by simp [Pl.ext, Nat.ne_of_lt hk, hm]
  have em1 : (pl.ext i ops.size T' h' v kd M).mg i = ops.size := by simp [Pl.ext]
  have Mpend : ∀ k, M k = true → pl.mg k = ops.size := fun k hk => by
    obtain ⟨_, _, id, ob, hm⟩ := hM k hk
    exact (pp.pend2 _ _ _ hm).2.2
  generalize hpl : pl.ext i ops.size T' h' v kd M = pl' at *
  refine ⟨si, sT.trans eT1.symm, sh.trans eh1.symm, (eT 0 (Nat.zero_le _)).trans pp.t0, (eh 0 (Nat.zero_le _)).trans pp.h0, fun j hj => ?_, fun l hl' hlk => ?_, ?_, fun l h hm => ?_, fun j hj hjk hno => ?_, fun j hj id ob hjk hmg => ?_, fun j id ob hm => ?_⟩
  · by_cases e : j = i
    · subst e
      refine ⟨o, ho, hd, by rw [eT1, eT j (Nat.le_refl _), ev1]; exact hT, ?_⟩
      rw [ek1]
      cases kd with
      | skip =>
        obtain ⟨a, b, c⟩ := hk
        exact ⟨by rw [eT j (Nat.le_refl _)]; exact a, by rw [ev1]; exact b, by rw [eh1, eh j (Nat.le_refl _)]; exact c⟩
      | quiet =>
        obtain ⟨a, b, c⟩ := hk
        refine ⟨by rw [eT j (Nat.le_refl _)]; exact a, by rw [eh1, eh j (Nat.le_refl _)]; exact b, fun q hq1 hq2 hq3 => ?_⟩
        rw [eT j (Nat.le_refl _), ev1]
        by_cases e : q ≤ j
        · rw [eh q e]
          exact c q e fun l hl1 hl2 hl3 => hq2 l hl1 (by rw [ek l hl1]; exact hl2) hl3
        · have : q = j + 1 := by omega
          subst this
          rw [eh1, b]
          exact c j (Nat.le_refl _) fun l hl1 _ _ => hl1
      | new id ob =>
        obtain ⟨a, b, c, kd', d1, d2⟩ := hk
        exact ⟨by rw [eT j (Nat.le_refl _)]; exact a, by rw [eh1, eh j (Nat.le_refl _)]; exact b, c, ⟨kd', by rw [eT j (Nat.le_refl _)]; exact d1, by rw [ev1]; exact d2⟩, by rw [em1]; exact hi,
          fun hx => by rw [em1] at hx; omega, fun _ => em1, fun l h1 h2 => by omega⟩
      | loud =>
        obtain ⟨a, b, hin, c1, c2, c3, c4, c5⟩ := hk
        refine ⟨by rw [eT j (Nat.le_refl _)]; exact a, b, hin, ⟨by rw [eh j (Nat.le_refl _)]; exact c1, fun p ob hpo => ?_, fun p hps => c3 p (by rw [eh j (Nat.le_refl _)] at hps; exact hps), fun k p ob hk1 hk2 hk3 => ?_⟩, by rw [eT j (Nat.le_refl _), ev1, eh1]; exact c5⟩
        · rw [eh j (Nat.le_refl _)]
          rcases c2 p ob hpo with x | ⟨k, hk1, hk2⟩
          · exact .inl x
          · obtain ⟨g1, g2, g3⟩ := pp.pend2 _ _ _ hk2
            exact .inr ⟨k, g1, by rw [ek k g1]; exact g2, emM k g1 hk1⟩
        · rw [ek k hk1] at hk2
          have hMk : M k = true := by
            cases hmk : M k with
            | true => rfl
            | false =>
              rw [em k hk1 hmk] at hk3
              obtain ⟨o', _, _, _, hs⟩ := pp.step k hk1
              rw [hk2] at hs
              have := hs.2.2.2.2.2.2.1 (by omega)
              omega
          obtain ⟨_, _, id, ob', hm⟩ := hM k hMk
          have g := (pp.pend2 _ _ _ hm).2.1
          rw [hk2] at g
          injection g with g1 g2
          subst g1 g2
          exact c4 k p ob hMk hm
    · have hj' : j < i := by omega
      obtain ⟨o', h1, h2, h3, h4⟩ := pp.step j hj'
      refine ⟨o', h1, h2, by rw [eT (j + 1) hj', eT j (by omega), ev j hj']; exact h3, ?_⟩
      rw [ek j hj']
      cases hkd : pl.kd j with
      | skip =>
        rw [hkd] at h4
        exact ⟨by rw [eT j (by omega)]; exact h4.1, by rw [ev j hj']; exact h4.2.1, by rw [eh (j + 1) hj', eh j (by omega)]; exact h4.2.2⟩
      | quiet =>
        rw [hkd] at h4
        obtain ⟨a, b, c⟩ := h4
        refine ⟨by rw [eT j (by omega)]; exact a, by rw [eh (j + 1) hj', eh j (by omega)]; exact b, fun q hq1 hq2 hq3 => ?_⟩
        rw [eT j (by omega), ev j hj']
        have old : ∀ q, q ≤ i → (∀ l, l < j → pl'.kd l = .loud → Prec ops l j → l < q) → (∀ l, l < i + 1 → j < l → pl'.kd l = .loud → Prec ops j l → q ≤ l) → opA P o' (pl.T j) (pl.h q) = some (.val (pl.v j)) := fun q hq1 hq2 hq3 =>
          c q hq1 (fun l hl1 hl2 hl3 => hq2 l hl1 (by rw [ek l (by omega)]; exact hl2) hl3) (fun l hl1 hl2 hl3 hl4 => hq3 l (by omega) hl2 (by rw [ek l hl1]; exact hl3) hl4)
        by_cases e : q ≤ i
        · rw [eh q e]; exact old q e hq2 hq3
        · have : q = i + 1 := by omega
          subst this
          rw [eh1]
          cases kd with
          | loud =>
            have hno : ∀ l, l < i → j < l → pl.kd l = .loud → ¬ Prec ops j l := fun l hl1 hl2 hl3 hl4 => by
              have := hq3 l (by omega) hl2 (by rw [ek l hl1]; exact hl3) hl4
              omega
            obtain ⟨o'', g1, g2⟩ := pp.quiet j hj' hkd hno
            rw [h1] at g1
            simp at g1
            subst g1
            exact hfront rfl j o' hj' h1 g2 fun hpr => by
              have := hq3 i (by omega) hj' (by rw [ek1]) hpr
              omega
          | _ =>
            have e2 : h' = pl.h i := by first | exact hk.2.1 | exact hk.2.2
            rw [e2]
            refine old i (Nat.le_refl _) (fun l hl1 _ _ => by omega) fun l hl1 hl2 hl3 hl4 => ?_
            have := hq3 l hl1 hl2 hl3 hl4
            omega
      | new id ob =>
        rw [hkd] at h4
        obtain ⟨a, b, c, ⟨kd', d1, d2⟩, e1, e2, e3, e4⟩ := h4
        refine ⟨by rw [eT j (by omega)]; exact a, by rw [eh (j + 1) hj', eh j (by omega)]; exact b, c, ⟨kd', by rw [eT j (by omega)]; exact d1, by rw [ev j hj']; exact d2⟩, ?_⟩
        cases hmj : M j with
        | true =>
          rw [emM j hj' hmj]
          obtain ⟨g1, g2, _⟩ := hM j hmj
          refine ⟨hj', fun _ => ⟨by rw [ek1]; exact g1, g2⟩, fun hx => by omega, fun l hl1 hl2 hl3 hl4 => ?_⟩
          by_cases el : l = i
          · omega
          · have := e4 l (by omega) hl2 (by rw [ek l (by omega)] at hl3; exact hl3) hl4
            rw [Mpend j hmj] at this
            omega
        | false =>
          rw [em j hj' hmj]
          refine ⟨e1, fun hx => ?_, fun hx => e3 (by omega), fun l hl1 hl2 hl3 hl4 => ?_⟩
          · by_cases el : pl.mg j < i
            · rw [ek _ el]; exact e2 el
            · have := e3 (by omega); omega
          · by_cases el : l = i
            · subst el
              rw [ek1] at hl3
              by_cases em' : pl.mg j ≤ l
              · exact em'
              · have := hM2 hl3 j id ob (pp.pend1 j hj' id ob hkd (by omega)) hl4
                rw [hmj] at this
                cases this
            · exact e4 l (by omega) hl2 (by rw [ek l (by omega)] at hl3; exact hl3) hl4
      | loud =>
        rw [hkd] at h4
        obtain ⟨a, b, hin, hh, c⟩ := h4
        refine ⟨by rw [eT j (by omega)]; exact a, b, hin, ⟨by rw [eh j (by omega)]; exact hh.nx, fun p ob hpo => ?_, fun p hps => hh.b p (by rw [eh j (by omega)] at hps; exact hps), fun k p ob hk1 hk2 hk3 => ?_⟩, by rw [eT j (by omega), ev j hj', eh (j + 1) hj']; exact c⟩
        · rw [eh j (by omega)]
          rcases hh.a p ob hpo with x | ⟨k, g1, g2, g3⟩
          · exact .inl x
          · refine .inr ⟨k, g1, by rw [ek k (by omega)]; exact g2, ?_⟩
            rw [em k (by omega) ?_]
            · exact g3
            · cases hmk : M k with
              | false => rfl
              | true => have := Mpend k hmk; omega
        · rw [ek k (by omega)] at hk2
          cases hmk : M k with
          | true => rw [emM k (by omega) hmk] at hk3; omega
          | false => rw [em k (by omega) hmk] at hk3; exact hh.c k p ob hk1 hk2 hk3
  · by_cases e : l = i
    · subst e
      rw [ek1] at hlk
      rw [hl.1 hlk, eh l (Nat.le_refl _)]
      exact List.mem_cons_self ..
    · have hl2 : l < i := by omega
      rw [ek l hl2] at hlk
      rw [eh l (by omega)]
      have := pp.louds l hl2 hlk
      cases hkd : kd with
      | loud => rw [hl.1 hkd]; exact List.mem_cons_of_mem _ this
      | _ => rw [hl.2 (by rw [hkd]; intro q; cases q)]; exact this
  · cases hkd : kd with
    | loud =>
      rw [hl.1 hkd]
      exact List.pairwise_cons.2 ⟨fun y hy => (pp.lback y.1 y.2 hy).1, pp.lsort⟩
    | _ => rw [hl.2 (by rw [hkd]; intro q; cases q)]; exact pp.lsort
  · have old : (l, h) ∈ s.louds → l < i + 1 ∧ pl'.kd l = .loud ∧ pl'.h l = h := fun hm => by
      obtain ⟨g1, g2, g3⟩ := pp.lback l h hm
      exact ⟨by omega, by rw [ek l g1]; exact g2, by rw [eh l (by omega)]; exact g3⟩
    cases hkd : kd with
    | loud =>
      rw [hl.1 hkd] at hm
      rcases List.mem_cons.1 hm with x | x
      · injection x with x1 x2; subst x1 x2; exact ⟨by omega, by rw [ek1]; exact hkd, eh _ (Nat.le_refl _)⟩
      · exact old x
    | _ => rw [hl.2 (by rw [hkd]; intro q; cases q)] at hm; exact old hm
  · by_cases e : j = i
    · subst e
      rw [ek1] at hjk
      exact ⟨o, ho, by rw [eT j (Nat.le_refl _), ev1]; exact hq2 hjk⟩
    · have hj' : j < i := by omega
      rw [ek j hj'] at hjk
      obtain ⟨o', g1, g2⟩ := pp.quiet j hj' hjk fun l h1 h2 h3 h4 => hno l (by omega) h2 (by rw [ek l h1]; exact h3) h4
      refine ⟨o', g1, ?_⟩
      rw [eT j (by omega), ev j hj']
      exact hq _ g2 fun hkd => hno i (by omega) hj' (by rw [ek1]; exact hkd)
  · by_cases e : j = i
    · subst e
      rw [ek1] at hjk
      exact (hp _).2 (.inr ⟨id, ob, hjk, rfl⟩)
    · have hj' : j < i := by omega
      rw [ek j hj'] at hjk
      cases hmj : M j with
      | true => rw [emM j hj' hmj] at hmg; omega
      | false =>
        rw [em j hj' hmj] at hmg
        exact (hp _).2 (.inl ⟨pp.pend1 j hj' id ob hjk (by omega), hmj⟩)
  · rcases (hp _).1 hm with ⟨x, y⟩ | ⟨id', ob', x, y⟩
    · obtain ⟨g1, g2, g3⟩ := pp.pend2 _ _ _ x
      exact ⟨by omega, by rw [ek j g1]; exact g2, by rw [em j g1 y]; exact g3⟩
    · injection y with y1 y2
      injection y2 with y2 y3
      subst y1 y2 y3
      exact ⟨by omega, by rw [ek1]; exact x, em1⟩
end
end Go.Ax
