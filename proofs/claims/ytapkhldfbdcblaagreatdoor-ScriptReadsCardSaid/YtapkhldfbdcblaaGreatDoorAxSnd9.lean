/- An abstract executor, twenty-fourth part: a run in the order of the text has a plan. -/
import Derived.Test.YtapkhldfbdcblaaGreatDoorAxSnd8
set_option linter.unusedSectionVars false
set_option linter.unnecessarySimpa false
set_option linter.unusedSimpArgs false
set_option linter.unusedVariables false
namespace Go.Ax
noncomputable section
variable {P : Program}

theorem tputK_step {n : Nat} {T : PM AV} {dst : Option Tmp} {v : AV} {k : PM AV → Bool} (e : tputK n T dst v k = true) : (∀ d, dst = some d → d < n) ∧ k (tstep T dst v) = true := by
  cases dst with
  | none => exact ⟨fun d h => (by cases h), e⟩
  | some d =>
    simp only [tputK] at e
    cases hb : Nat.ble (Nat.succ d) n <;> simp [hb] at e
    rw [PM.putK_eq] at e
    exact ⟨fun d' h => by injection h with h; subst h; exact Nat.le_of_ble_eq_true hb, e⟩

variable {all : Array Oper} {n : Nat} {base₀ : List Pos} {T₀ : PM AV} {h₀ : AH} {pl : Pl} {i : Nat} {s : DSt} {o : Oper}

theorem PP.skip (pp : PP P all n base₀ T₀ h₀ pl i s) (ho : all[i]? = some o) (hi : i < all.size) (hw : wantedA all s.T o = some false) (hd : ∀ d, o.dst = some d → d < n) (i' : Nat) (hi' : i' = s.i + 1) :
    ∃ pl', PP P all n base₀ T₀ h₀ pl' (i + 1) { s with i := i', T := tstep s.T o.dst .undef } := by
  refine ⟨_, pp.ext (kd := .skip) (M := fun _ => false) (v := .undef) (T' := tstep s.T o.dst .undef) (h' := pl.h i) hi ho hd (by rw [pp.sT]) (fun k hk => by cases hk) (fun h => by cases h) ⟨by rw [← pp.sT]; exact hw, rfl, rfl⟩ (fun h => by cases h) (by rw [← pp.si]; exact hi') rfl pp.sh ⟨fun h => (by cases h), fun _ => rfl⟩ (fun x hx _ => hx) (fun h => by cases h) fun x => ?_⟩
  simp

theorem PP.quietly (pp : PP P all n base₀ T₀ h₀ pl i s) (ho : all[i]? = some o) (hi : i < all.size) (hw : wantedA all s.T o = some true) (hd : ∀ d, o.dst = some d → d < n) {v : AV} (he : opA P o s.T s.h = some (.val v))
    (hb : backOK P ((Region.before all).getD i 0) o s.T v s.louds = true) (i' : Nat) (hi' : i' = s.i + 1) :
    ∃ pl', PP P all n base₀ T₀ h₀ pl' (i + 1) { i := i', T := tstep s.T o.dst v, h := s.h, louds := s.louds, quiet := (s.i, o, s.T, v) :: s.quiet, pend := s.pend } := by
  refine ⟨_, pp.ext (kd := .quiet) (M := fun _ => false) (v := v) (T' := tstep s.T o.dst v) (h' := pl.h i) hi ho hd (by rw [pp.sT]) (fun k hk => by cases hk) (fun h => by cases h) ⟨by rw [← pp.sT]; exact hw, rfl, fun q hq hwin => ?_⟩ (fun h => by cases h) (by rw [← pp.si]; exact hi') rfl pp.sh
    ⟨fun h => (by cases h), fun _ => rfl⟩ (fun x hx _ => List.mem_cons_of_mem _ hx) (fun _ => by rw [pp.si, ← pp.sT]; exact List.mem_cons_self ..) fun x => ?_⟩
  · rw [← pp.sT]
    have key : ∀ m, m ≤ i → (∀ l, q ≤ l → l < m → pl.kd l ≠ .loud) → (∀ l, q ≤ l → l < i → pl.kd l ≠ .loud) ∨ ∃ l, q ≤ l ∧ l < i ∧ pl.kd l = .loud ∧ ∀ l', q ≤ l' → l' < l → pl.kd l' ≠ .loud := by
      intro m
      induction hm : i - m generalizing m with
      | zero => intro h1 h2; exact .inl fun l a b => h2 l a (by omega)
      | succ d ih =>
        intro h1 h2
        by_cases hml : q ≤ m ∧ pl.kd m = .loud
        · exact .inr ⟨m, hml.1, by omega, hml.2, h2⟩
        · refine ih (m + 1) (by omega) (by omega) fun l a b => ?_
          by_cases e : l = m
          · subst e; exact fun hx => hml ⟨a, hx⟩
          · exact h2 l a (by omega)
    rcases key 0 (Nat.zero_le _) (fun l a b => by omega) with h1 | ⟨l, h1, h2, h3, h4⟩
    · rw [← PP.h_const pp.step hq (Nat.le_refl _) h1, ← pp.sh]; exact he
    · rw [← PP.h_const pp.step h1 (by omega) h4]
      refine backOK_ok pp.lsort hb l _ (pp.louds l h2 h3) fun l' h' hm hl => ?_
      cases ht : Nat.testBit ((Region.before all).getD i 0) l' with
      | false => rfl
      | true =>
        obtain ⟨g1, g2, _⟩ := pp.lback l' h' hm
        have := hwin l' g1 g2 ht
        omega
  · simp

theorem PP.newly (pp : PP P all n base₀ T₀ h₀ pl i s) (ho : all[i]? = some o) (hi : i < all.size) (hw : wantedA all s.T o = some true) (hd : ∀ d, o.dst = some d → d < n) {id : Pos} (hid : base₀[i]? = some id) (hn : isNew o = true) {ob : AObj} {kd : AK}
    (he : opA P o s.T ⟨.nil, .one⟩ = some (.alloc ob kd)) (i' : Nat) (hi' : i' = s.i + 1) :
    ∃ pl', PP P all n base₀ T₀ h₀ pl' (i + 1) { i := i', T := tstep s.T o.dst (kd.av id), h := s.h, louds := s.louds, quiet := s.quiet, pend := (s.i, id, ob) :: s.pend } := by
  refine ⟨_, pp.ext (kd := .new id ob) (M := fun _ => false) (v := kd.av id) (T' := tstep s.T o.dst (kd.av id)) (h' := pl.h i) hi ho hd (by rw [pp.sT]) (fun k hk => by cases hk) (fun h => by cases h) ⟨by rw [← pp.sT]; exact hw, rfl, hid, kd, by rw [← pp.sT]; exact isNew_ok hn he, rfl⟩ (fun h => by cases h) (by rw [← pp.si]; exact hi') rfl pp.sh
    ⟨fun h => (by cases h), fun _ => rfl⟩ (fun x hx _ => hx) (fun h => by cases h) fun x => ?_⟩
  simp only [List.mem_cons, and_true, pp.si]
  constructor
  · rintro (rfl | h)
    · exact .inr ⟨id, ob, rfl, rfl⟩
    · exact .inl h
  · rintro (h | ⟨id', ob', h1, rfl⟩)
    · exact .inr h
    · injection h1 with h1 h2; subst h1 h2; exact .inl rfl

theorem drawOne_ok {hk : Hook} {rec : Rec} (hh : HookOK P hk) (hg : Good P rec) (pp : PP P all n base₀ T₀ h₀ pl i s) (ho : all[i]? = some o) (hi : i < all.size) {id : Pos} (hid : base₀[i]? = some id) {k : DSt → Bool}
    (e : drawOne (wantedA all s.T o) P hk rec n ((Region.before all).getD i 0) id o s k = true) : ∃ pl' s', k s' = true ∧ PP P all n base₀ T₀ h₀ pl' (i + 1) s' := by
  unfold drawOne at e
  cases hw : wantedA all s.T o with
  | none => rw [hw] at e; cases e
  | some b =>
    cases b with
    | false =>
      rw [hw] at e
      obtain ⟨hd, e1⟩ := tputK_step e
      obtain ⟨pl', h1⟩ := pp.skip ho hi hw hd _ rfl
      exact ⟨pl', _, e1, h1⟩
    | true =>
      rw [hw] at e
      cases hlo : isLoud o with
      | true =>
        simp only [hlo, cond_true] at e
        unfold drawLoud at e
        obtain ⟨hin, pend, e1, m1, m2, m3, m4, m5⟩ := mergeK_ok e
        obtain ⟨v, h', e2, so⟩ := operK_ok2 hh hg e1
        obtain ⟨quiet, e3, f1⟩ := frontK_ok e2
        obtain ⟨hd, e4⟩ := tputK_step e3
        have any : ∀ {k : Nat}, (∃ id ob, (k, id, ob) ∈ s.pend) ↔ s.pend.any (fun x => Nat.beq x.1 k) = true := fun {k} => by
          rw [List.any_eq_true]
          constructor
          · rintro ⟨id, ob, hm⟩; exact ⟨_, hm, Nat.beq_refl _⟩
          · rintro ⟨⟨k', id, ob⟩, hm, hb⟩; have := Nat.eq_of_beq_eq_true hb; simp at this; subst this; exact ⟨id, ob, hm⟩
        refine ⟨_, _, e4, pp.ext (kd := .loud) (M := fun k => Nat.testBit ((Region.before all).getD i 0) k && s.pend.any (fun x => Nat.beq x.1 k)) (v := v) (T' := tstep s.T o.dst v) (h' := h') hi ho hd (by rw [pp.sT]) (fun k hk => ?_) (fun _ k id ob hm hp => ?_)
          ⟨by rw [← pp.sT]; exact hw, hlo, hin, by rw [m1, pp.sh], fun p ob hpo => ?_, fun p hp => m4 p (by rw [pp.sh]; exact hp), fun j p ob hj hm => ?_, by rw [← pp.sT]; exact so⟩ (fun _ j o' hj ho' hm hnp => ?_) (by rw [← pp.si]) rfl rfl
          ⟨fun _ => by rw [pp.si, pp.sh], fun h => absurd rfl h⟩ (fun x hx hnp => ?_) (fun h => by cases h) fun x => ?_⟩
        · simp only [Bool.and_eq_true] at hk
          exact ⟨rfl, hk.1, any.2 hk.2⟩
        · simp only [Bool.and_eq_true]
          exact ⟨hp, any.1 ⟨id, ob, hm⟩⟩
        · rw [← pp.sh]
          rcases m3 p ob hpo with x | ⟨j, x, y⟩
          · exact .inl x
          · refine .inr ⟨j, ?_, y⟩
            simp only [Bool.and_eq_true]
            exact ⟨x, any.1 ⟨p, ob, y⟩⟩
        · simp only [Bool.and_eq_true] at hj
          exact m5 j p ob hj.1 hm
        · have hb : Nat.testBit ((Region.before all).getD i 0) j = false := by
            cases ht : Nat.testBit ((Region.before all).getD i 0) j with
            | false => rfl
            | true => exact absurd ht hnp
          exact (f1 _ hm hb).2
        · have hb : Nat.testBit ((Region.before all).getD i 0) x.1 = false := by
            cases ht : Nat.testBit ((Region.before all).getD i 0) x.1 with
            | false => rfl
            | true => exact absurd ht (hnp rfl)
          exact (f1 _ hx hb).1
        · rw [m2 x]
          constructor
          · rintro ⟨a, b⟩
            exact .inl ⟨a, by rw [b]; rfl⟩
          · rintro (⟨a, b⟩ | ⟨id', ob', h1, _⟩)
            · refine ⟨a, ?_⟩
              rw [any.1 ⟨x.2.1, x.2.2, a⟩, Bool.and_true] at b
              exact b
            · cases h1
      | false =>
        simp only [hlo, cond_false] at e
        have quietly : drawQuiet (opA P o s.T s.h) P n ((Region.before all).getD i 0) o s k = true → ∃ pl' s', k s' = true ∧ PP P all n base₀ T₀ h₀ pl' (i + 1) s' := by
          intro e
          unfold drawQuiet at e
          split at e
          · rename_i v he
            rw [fVal_eq] at e
            simp only [Bool.and_eq_true] at e
            obtain ⟨hd, e1⟩ := tputK_step e.2
            obtain ⟨pl', h1⟩ := pp.quietly ho hi hw hd he e.1 _ rfl
            exact ⟨pl', _, e1, h1⟩
          · cases e
        cases hne : isNew o with
        | true =>
          simp only [hne, cond_true] at e
          unfold drawNew at e
          split at e
          · rename_i ob kd he
            rw [fObj_eq, fVal_eq] at e
            obtain ⟨hd, e1⟩ := tputK_step e
            obtain ⟨pl', h1⟩ := pp.newly ho hi hw hd hid hne he _ rfl
            exact ⟨pl', _, e1, h1⟩
          · exact quietly e
        | false =>
          simp only [hne, cond_false] at e
          exact quietly e

theorem drawOpsK_ok {hk : Hook} {rec : Rec} (hh : HookOK P hk) (hg : Good P rec) : ∀ (ops : List Oper) (i : Nat) (before : List Nat) (base : List Pos) (s : DSt) (pl : Pl) (k : PM AV → AH → Bool),
    i + ops.length = all.size → (∀ j o, ops[j]? = some o → all[i + j]? = some o) → (∀ j b, before[j]? = some b → (Region.before all)[i + j]? = some b) → (∀ j p, base[j]? = some p → base₀[i + j]? = some p) → PP P all n base₀ T₀ h₀ pl i s →
    drawOpsK P hk rec n all before base ops s k = true → ∃ pl' s', PP P all n base₀ T₀ h₀ pl' all.size s' ∧ mergeAllK s'.h s'.pend (fun h => k s'.T h) = true
  | [], i, before, base, s, pl, k, hl, _, _, _, pp, e => by
    have : i = all.size := by simpa using hl
    subst this
    exact ⟨pl, s, pp, e⟩
  | o :: ops, i, before, base, s, pl, k, hl, ha, hb, hp, pp, e => by
    change drawAt base before (fun id b base before => drawOne (wantedA all s.T o) P hk rec n b id o s fun s => drawOpsK P hk rec n all before base ops s k) = true at e
    unfold drawAt at e
    split at e
    · rename_i id base' b before'
      have ho := ha 0 o rfl
      have hbi := hb 0 b rfl
      have hpi := hp 0 id rfl
      simp only [Nat.add_zero] at ho hbi hpi
      have hi : i < all.size := by simp only [List.length_cons] at hl; omega
      have hbD : (Region.before all).getD i 0 = b := by simp [Array.getD_eq_getD_getElem?, hbi]
      rw [← hbD] at e
      obtain ⟨pl', s', e1, pp'⟩ := drawOne_ok hh hg pp ho hi hpi e
      have sh : ∀ j, i + 1 + j = i + (j + 1) := fun j => by omega
      exact drawOpsK_ok hh hg ops (i + 1) before' base' s' pl' k (by simp only [List.length_cons] at hl; omega) (fun j o hj => by rw [sh]; exact ha (j + 1) o (by simpa using hj)) (fun j b hj => by rw [sh]; exact hb (j + 1) b (by simpa using hj))
        (fun j p hj => by rw [sh]; exact hp (j + 1) p (by simpa using hj)) pp' e1
    · cases e

theorem quietK_ok {h : AH} : ∀ (ops : List Oper) (i : Nat) (s : DSt) (pl : Pl) (k : PM AV → Bool),
    i + ops.length = all.size → (∀ j o, ops[j]? = some o → all[i + j]? = some o) → PP P all n base₀ T₀ h₀ pl i s → s.louds = [] → s.pend = [] →
    quietK P n all ops s.T s.h k = true → ∃ pl' s', PP P all n base₀ T₀ h₀ pl' all.size s' ∧ s'.pend = [] ∧ s'.h = s.h ∧ k s'.T = true
  | [], i, s, pl, k, hl, _, pp, h1, h2, e => by
    have : i = all.size := by simpa using hl
    subst this
    exact ⟨pl, s, pp, h2, rfl, e⟩
  | o :: ops, i, s, pl, k, hl, ha, pp, h1, h2, e => by
    change quietOne (wantedA all s.T o) P n o s.T s.h (fun T => quietK P n all ops T s.h k) = true at e
    have ho := ha 0 o rfl
    simp only [Nat.add_zero] at ho
    have hi : i < all.size := by simp only [List.length_cons] at hl; omega
    have sh : ∀ j, i + 1 + j = i + (j + 1) := fun j => by omega
    unfold quietOne at e
    split at e
    · rename_i hw
      split at e
      · rename_i v he
        rw [fVal_eq] at e
        obtain ⟨hd, e1⟩ := tputK_step e
        obtain ⟨pl', pp'⟩ := pp.quietly ho hi hw hd he (by rw [h1]; rfl) _ rfl
        exact quietK_ok (h := h) ops (i + 1) { i := s.i + 1, T := tstep s.T o.dst v, h := s.h, louds := s.louds, quiet := (s.i, o, s.T, v) :: s.quiet, pend := s.pend } pl' k (by simp only [List.length_cons] at hl; omega) (fun j o hj => by rw [sh]; exact ha (j + 1) o (by simpa using hj)) pp' h1 h2 e1
      · cases e
    · rename_i hw
      obtain ⟨hd, e1⟩ := tputK_step e
      obtain ⟨pl', pp'⟩ := pp.skip ho hi hw hd _ rfl
      exact quietK_ok (h := h) ops (i + 1) { s with i := s.i + 1, T := tstep s.T o.dst .undef } pl' k (by simp only [List.length_cons] at hl; omega) (fun j o hj => by rw [sh]; exact ha (j + 1) o (by simpa using hj)) pp' h1 h2 e1
    · cases e

theorem idsK_ok : ∀ (ops : List Oper) (p : Pos) (k : List Pos → Pos → Bool), idsK ops p k = true → ∃ base e, k base e = true ∧ e.nat = p.nat + ops.length ∧ ∀ j id, base[j]? = some id → id.nat = p.nat + j ∧ j < ops.length
  | [], p, k, e => ⟨[], p, e, rfl, fun j id h => by simp at h⟩
  | o :: ops, p, k, e => by
    simp only [idsK, fPos_eq] at e
    obtain ⟨base, q, e1, h1, h2⟩ := idsK_ok ops p.succ _ e
    rw [Pos.nat_succ] at h1 h2
    refine ⟨p :: base, q, e1, by simp only [List.length_cons]; omega, fun j id hj => ?_⟩
    cases j with
    | zero => simp at hj; subst hj; simp
    | succ j =>
      have := h2 j id (by simpa using hj)
      simp only [List.length_cons]
      omega

/-- What is left to say of a plan at its end. -/
structure Plan (P : Program) (ops : Array Oper) (n : Nat) (base : List Pos) (T₀ : PM AV) (h₀ : AH) (pl : Pl) (hf : AH) : Prop where
  t0 : pl.T 0 = T₀
  h0 : pl.h 0 = h₀
  step : ∀ j, j < ops.size → StepOK P ops n base pl ops.size j
  nx : hf.nx = (pl.h ops.size).nx
  fin : ∀ p ob, hf.m.get p = some ob → (pl.h ops.size).m.get p = some ob ∨ ∃ j, j < ops.size ∧ pl.kd j = .new p ob ∧ pl.mg j = ops.size

theorem drawK_plan {hk : Hook} {rec : Rec} (hh : HookOK P hk) (hg : Good P rec) {ops : Array Oper} {T : PM AV} {h : AH} {k : PM AV → AH → Bool} (e : drawK P hk rec n ops T h k = true) :
    regionOK ops = true ∧ ∃ (base : List Pos) (nx : Pos) (pl : Pl) (hf : AH), h.nx.nat ≤ nx.nat ∧ (∀ j id, base[j]? = some id → id.nat = h.nx.nat + j ∧ id.nat < nx.nat) ∧ Plan P ops n base T { h with nx } pl hf ∧ k (pl.T ops.size) hf = true := by
  unfold drawK at e
  cases hr : regionOK ops with
  | false => rw [hr] at e; cases e
  | true =>
    refine ⟨rfl, ?_⟩
    rw [hr] at e
    simp only [cond_true] at e
    have start : ∀ (base : List Pos) (nx : Pos), PP P ops n base T { h with nx } { T := fun _ => T, h := fun _ => { h with nx }, v := fun _ => .undef, kd := fun _ => .skip, mg := fun _ => 0 } 0 { i := 0, T, h := { h with nx }, louds := [], quiet := [], pend := [] } := fun base nx =>
      ⟨rfl, rfl, rfl, rfl, rfl, fun j hj => (by omega), fun l hl => (by omega), List.Pairwise.nil, fun l h hm => (by cases hm), fun j hj => (by omega), fun j hj => (by omega), fun j id ob hm => (by cases hm)⟩
    cases hq : allQuiet ops with
    | true =>
      rw [hq] at e
      simp only [cond_true] at e
      obtain ⟨pl', s', pp, h1, h2, e1⟩ := quietK_ok (h := h) ops.toList 0 _ _ _ (by simp) (fun j o hj => by simpa using hj) (start [] h.nx) rfl rfl e
      refine ⟨[], h.nx, pl', h, Nat.le_refl _, fun j id hj => by simp at hj, ⟨pp.t0, pp.h0, pp.step, by rw [← pp.sh, h2], fun p ob hp => .inl (by rw [← pp.sh, h2]; exact hp)⟩, by rw [← pp.sT]; exact e1⟩
    | false =>
      rw [hq] at e
      simp only [cond_false] at e
      unfold drawG at e
      obtain ⟨base, nx, e0, i1, i2⟩ := idsK_ok _ _ _ e
      obtain ⟨pl', s', pp, e1⟩ := drawOpsK_ok hh hg ops.toList 0 _ base _ _ _ (by simp) (fun j o hj => by simpa using hj) (fun j b hj => by simpa using hj) (fun j p hj => by simpa using hj) (start base nx) e0
      obtain ⟨hf, e2, m1, m2⟩ := mergeAllK_ok e1
      refine ⟨base, nx, pl', hf, by omega, fun j id hj => by have := i2 j id hj; omega, ⟨pp.t0, pp.h0, pp.step, by rw [m1, pp.sh], fun p ob hp => ?_⟩, by rw [← pp.sT]; exact e2⟩
      rcases m2 p ob hp with x | ⟨j, x⟩
      · exact .inl (by rw [← pp.sh]; exact x)
      · obtain ⟨g1, g2, g3⟩ := pp.pend2 _ _ _ x
        exact .inr ⟨j, g1, g2, g3⟩
end
end Go.Ax
