/- An abstract executor, twenty-sixth part: the orders of a drawn region; the executor is sound. -/
import Derived.Test.YtapkhldfbdcblaaGreatDoorAxSnd10
set_option linter.unusedSectionVars false
set_option linter.unnecessarySimpa false
set_option linter.unusedSimpArgs false
set_option linter.unusedVariables false
namespace Go.Ax
noncomputable section
variable {P : Program}

def Lst (listed : Array Bool) (j : Nat) : Prop := listed.getD j false = true
structure Inv (P : Program) (ops : Array Oper) (n : Nat) (T₀ : PM AV) (nx : Pos) (pl : Pl) (E₀ : Env) (h₀ : AH) (w₀ : World) (ds : List Deferred) (listed : Array Bool) (q : Nat) (E : Env) (g : Pos → Option AObj) (a : Act) (w : World) : Prop where
  lsz : listed.size = ops.size
  qN : q ≤ ops.size
  lo : ∀ l, l < q → pl.kd l = .loud → Lst listed l
  hi : ∀ l, q ≤ l → l < ops.size → pl.kd l = .loud → ¬ Lst listed l
  down : ∀ j, Lst listed j → ∀ i, Prec ops i j → Lst listed i
  tsz : a.tmps.size = n
  tw : ∀ (j : Nat) (d : Nat) o, Lst listed j → ops[j]? = some o → o.dst = some d → (∀ j' o', Lst listed j' → ops[j']? = some o' → o'.dst = some d → j' ≤ j) → ∃ u, a.tmps[d]? = some u ∧ VRel E (pl.v j) u
  t0 : ∀ (t : Nat) v, t < 2 ^ 62 → T₀.get (posOf t) = some v → (∀ j o, Lst listed j → ops[j]? = some o → o.dst ≠ some t) → ∃ u, a.tmps[t]? = some u ∧ VRel E v u
  desc : ∀ p o, g p = some o ↔ (pl.h q).m.get p = some o ∨ ∃ j, Lst listed j ∧ pl.kd j = .new p o ∧ q ≤ pl.mg j
  rel : HRelF E g (pl.h q).nx w
  fr : FrF E₀ h₀ w₀ E g (pl.h q).nx w
  nxq : nx.nat ≤ (pl.h q).nx.nat
  apart : ∀ j p o, Lst listed j → pl.kd j = .new p o → q ≤ pl.mg j → (pl.h q).m.get p = none
  free : ∀ j p o, j < ops.size → pl.kd j = .new p o → ¬ Lst listed j → E.blk p = none
  dfr : a.defers = ds

structure Sta (P : Program) (ops : Array Oper) (n : Nat) (base : List Pos) (T₀ : PM AV) (h₀ : AH) (nx : Pos) (pl : Pl) : Prop where
  nn : n ≤ 1000000
  rok : ROK ops
  step : ∀ j, j < ops.size → StepOK P ops n base pl ops.size j
  t0 : pl.T 0 = T₀
  ids : ∀ j id, base[j]? = some id → id.nat = h₀.nx.nat + j ∧ id.nat < nx.nat

variable {ops : Array Oper} {n : Nat} {base : List Pos} {T₀ : PM AV} {nx : Pos} {pl : Pl} {E₀ : Env} {h₀ : AH} {w₀ : World} {ds : List Deferred} {listed : Array Bool} {q : Nat} {E : Env} {g : Pos → Option AObj} {a : Act} {w : World}

theorem Lst.lt (i : Inv P ops n T₀ nx pl E₀ h₀ w₀ ds listed q E g a w) {j : Nat} (h : Lst listed j) : j < ops.size := by
  unfold Lst at h
  rcases Nat.lt_or_ge j listed.size with hlt | hge
  · rw [← i.lsz]; exact hlt
  · rw [Array.getD_eq_getD_getElem?, Array.getElem?_eq_none hge] at h; cases h
theorem not_lst {listed : Array Bool} {j : Nat} (h : listed.getD j true = false) : ¬ Lst listed j := by
  unfold Lst
  rcases Nat.lt_or_ge j listed.size with hlt | hge
  · simp [Array.getD_eq_getD_getElem?, hlt] at h ⊢; exact h
  · rw [Array.getD_eq_getD_getElem?, Array.getElem?_eq_none hge] at h; cases h
theorem lst_set {listed : Array Bool} {i j : Nat} (hi : i < listed.size) : Lst (listed.setIfInBounds i true) j ↔ j = i ∨ Lst listed j := by
  unfold Lst
  by_cases e : j = i
  · subst e; simp [Array.getD_eq_getD_getElem?, hi]
  · rw [getD_set_ne false (fun q => e q.symm)]; simp [e]

theorem Sta.new (st : Sta P ops n base T₀ h₀ nx pl) {j : Nat} (hj : j < ops.size) {p : Pos} {o : AObj} (hk : pl.kd j = .new p o) : base[j]? = some p ∧ j < pl.mg j ∧ (pl.mg j < ops.size → pl.kd (pl.mg j) = .loud ∧ Prec ops j (pl.mg j)) ∧ (ops.size ≤ pl.mg j → pl.mg j = ops.size) := by
  obtain ⟨_, _, _, _, hs⟩ := st.step j hj
  rw [hk] at hs
  obtain ⟨_, _, c, _, d1, d2, d3, _⟩ := hs
  exact ⟨c, d1, d2, d3⟩
theorem Sta.uniq (st : Sta P ops n base T₀ h₀ nx pl) {i j : Nat} (hi : i < ops.size) (hj : j < ops.size) {p : Pos} {o o' : AObj} (h1 : pl.kd i = .new p o) (h2 : pl.kd j = .new p o') : i = j := by
  have a := (st.ids _ _ (st.new hi h1).1).1
  have b := (st.ids _ _ (st.new hj h2).1).1
  omega

/-- Between two writing operations. -/
theorem Inv.shift (st : Sta P ops n base T₀ h₀ nx pl) (i : Inv P ops n T₀ nx pl E₀ h₀ w₀ ds listed q E g a w) {r : Nat} (hqr : q ≤ r) (hr : r ≤ ops.size) (hno : ∀ l, q ≤ l → l < r → pl.kd l ≠ .loud) :
    Inv P ops n T₀ nx pl E₀ h₀ w₀ ds listed r E g a w := by
  have hh : pl.h r = pl.h q := PP.h_const st.step hqr hr hno
  have mgr : ∀ j p o, Lst listed j → pl.kd j = .new p o → (q ≤ pl.mg j ↔ r ≤ pl.mg j) := fun j p o hj hk => by
    constructor
    · intro h
      by_cases e : r ≤ pl.mg j
      · exact e
      · have := ((st.new (Lst.lt i hj) hk).2.2.1 (by omega)).1
        exact absurd this (hno _ h (by omega))
    · intro h; omega
  refine ⟨i.lsz, hr, fun l hl hk => ?_, fun l hl => i.hi l (by omega), i.down, i.tsz, i.tw, i.t0, fun p o => ?_, by rw [hh]; exact i.rel, by rw [hh]; exact i.fr, by rw [hh]; exact i.nxq, fun j p o hj hk hm => by rw [hh]; exact i.apart j p o hj hk ((mgr j p o hj hk).2 hm), i.free, i.dfr⟩
  · by_cases e : l < q
    · exact i.lo l e hk
    · exact absurd hk (hno l (by omega) hl)
  · rw [hh, i.desc p o]
    constructor
    · rintro (h | ⟨j, h1, h2, h3⟩)
      · exact .inl h
      · exact .inr ⟨j, h1, h2, (mgr j p o h1 h2).1 h3⟩
    · rintro (h | ⟨j, h1, h2, h3⟩)
      · exact .inl h
      · exact .inr ⟨j, h1, h2, (mgr j p o h1 h2).2 h3⟩

theorem ready_prec (i : Inv P ops n T₀ nx pl E₀ h₀ w₀ ds listed q E g a w) {j : Nat} (hj : j ∈ Region.ready .any ops listed) : ∀ k, Prec ops k j → Lst listed k := by
  intro k hk
  obtain ⟨o, ho, e, he, hb, hc⟩ := prec_spec hk
  obtain ⟨_, o', ho', hall⟩ := mem_ready.1 hj
  rw [ho] at ho'
  injection ho' with ho'
  subst ho'
  have hl : Lst listed e.on := hall e he hb
  rcases hc with rfl | hc
  · exact hl
  · exact i.down _ hl _ hc

/-- What the operation whose turn it is looks at. -/
theorem Inv.reads (st : Sta P ops n base T₀ h₀ nx pl) (i : Inv P ops n T₀ nx pl E₀ h₀ w₀ ds listed q E g a w) {j : Nat} (hj : j ∈ Region.ready .any ops listed) {o : Oper} (ho : ops[j]? = some o) {ts : List Nat} (hts : ∀ t ∈ ts, t ∈ looks ops o) : ROn E ts (pl.T j) a.tmps := by
  intro t ht htb v hv
  have hnl := not_lst (mem_ready.1 hj).1
  have hjN : j < ops.size := (Array.getElem?_eq_some_iff.1 ho).1
  have ht62 : t < 2 ^ 62 := by omega
  have later : ∀ k ok, Lst listed k → ops[k]? = some ok → ok.dst = some t → k < j := fun k ok hk hok hd => by
    rcases st.rok.temps j o ho t (hts t ht) k ok hok hd with e | ⟨e, _⟩ | ⟨e, hp⟩
    · subst e; exact absurd hk hnl
    · exact e
    · exact absurd (i.down k hk j hp) hnl
  rcases Tget st.nn st.step ht62 j (by omega) hv with ⟨k, ok, h1, h2, h3, h4, h5⟩ | ⟨h1, h2⟩
  · have hkl : Lst listed k := by
      rcases st.rok.temps j o ho t (hts t ht) k ok h2 h3 with e | ⟨_, hp⟩ | ⟨e, _⟩
      · omega
      · exact ready_prec i hj k hp
      · omega
    rw [← h4]
    exact i.tw k t ok hkl h2 h3 fun k' ok' hk' hok' hd' => h5 k' ok' (later k' ok' hk' hok' hd') hok' hd'
  · rw [st.t0] at h1
    exact i.t0 t v ht62 h1 fun k ok hk hok hd => h2 k ok (later k ok hk hok hd) hok hd

/-- Its value is written. -/
theorem Inv.writes (st : Sta P ops n base T₀ h₀ nx pl) (i : Inv P ops n T₀ nx pl E₀ h₀ w₀ ds listed q E g a w) {j : Nat} (hj : j ∈ Region.ready .any ops listed) {o : Oper} (ho : ops[j]? = some o) (hd : ∀ d, o.dst = some d → d < n) {E' : Env} (hle : E.le E') {u : Value} (hu : VRel E' (pl.v j) u) :
    (a.put o.dst u).tmps.size = n ∧
    (∀ (k : Nat) (d : Nat) ok, Lst (listed.setIfInBounds j true) k → ops[k]? = some ok → ok.dst = some d → (∀ j' o', Lst (listed.setIfInBounds j true) j' → ops[j']? = some o' → o'.dst = some d → j' ≤ k) → ∃ u', (a.put o.dst u).tmps[d]? = some u' ∧ VRel E' (pl.v k) u') ∧
    (∀ (t : Nat) v, t < 2 ^ 62 → T₀.get (posOf t) = some v → (∀ k ok, Lst (listed.setIfInBounds j true) k → ops[k]? = some ok → ok.dst ≠ some t) → ∃ u', (a.put o.dst u).tmps[t]? = some u' ∧ VRel E' v u') := by
  have hnl := not_lst (mem_ready.1 hj).1
  have hjN : j < ops.size := (Array.getElem?_eq_some_iff.1 ho).1
  have hjs : j < listed.size := by rw [i.lsz]; exact hjN
  have other : ∀ d : Nat, o.dst ≠ some d → (a.put o.dst u).tmps[d]? = a.tmps[d]? := fun d hne => by
    cases hdst : o.dst with
    | none => rfl
    | some d' =>
      show (a.tmps.setIfInBounds d' u)[d]? = _
      rw [Array.getElem?_setIfInBounds_ne]
      intro e; subst e; exact hne hdst
  have same : ∀ d : Nat, o.dst = some d → (a.put o.dst u).tmps[d]? = some u := fun d he => by
    rw [he]
    show (a.tmps.setIfInBounds d u)[d]? = _
    have : d < a.tmps.size := by rw [i.tsz]; exact hd d he
    simp [this]
  refine ⟨?_, fun k d ok hk hok hdk hmax => ?_, fun t v ht hv hno => ?_⟩
  · cases hdst : o.dst with
    | none => exact i.tsz
    | some d' => show (a.tmps.setIfInBounds d' u).size = n; simp [i.tsz]
  · rcases (lst_set hjs).1 hk with e | hk2
    · subst e
      rw [ho] at hok
      injection hok with hok
      subst hok
      exact ⟨u, same d hdk, hu⟩
    · have hne : o.dst ≠ some d := fun e => by
        have h1 := hmax j o ((lst_set hjs).2 (.inl rfl)) ho e
        rcases st.rok.temps j o ho d (looks_dst e) k ok hok hdk with e2 | ⟨e2, _⟩ | ⟨e2, hp⟩
        · subst e2; exact hnl hk2
        · omega
        · exact hnl (i.down k hk2 j hp)
      obtain ⟨u', h1, h2⟩ := i.tw k d ok hk2 hok hdk fun j' o' hj' ho' hd' => hmax j' o' ((lst_set hjs).2 (.inr hj')) ho' hd'
      exact ⟨u', by rw [other d hne]; exact h1, VRel.mono hle _ _ h2⟩
  · have hne : o.dst ≠ some t := hno j o ((lst_set hjs).2 (.inl rfl)) ho
    obtain ⟨u', h1, h2⟩ := i.t0 t v ht hv fun k ok hk hok => hno k ok ((lst_set hjs).2 (.inr hk)) hok
    exact ⟨u', by rw [other t hne]; exact h1, VRel.mono hle _ _ h2⟩

theorem Inv.down' (i : Inv P ops n T₀ nx pl E₀ h₀ w₀ ds listed q E g a w) {j : Nat} (hj : j ∈ Region.ready .any ops listed) (hjN : j < ops.size) : ∀ k, Lst (listed.setIfInBounds j true) k → ∀ l, Prec ops l k → Lst (listed.setIfInBounds j true) l := by
  have hjs : j < listed.size := by rw [i.lsz]; exact hjN
  intro k hk l hp
  rcases (lst_set hjs).1 hk with e | hk
  · subst e; exact (lst_set hjs).2 (.inr (ready_prec i hj l hp))
  · exact (lst_set hjs).2 (.inr (i.down k hk l hp))

/-- One operation that turns nothing. -/
theorem Inv.quiet (st : Sta P ops n base T₀ h₀ nx pl) (i : Inv P ops n T₀ nx pl E₀ h₀ w₀ ds listed q E g a w) {j : Nat} (hj : j ∈ Region.ready .any ops listed) {o : Oper} (ho : ops[j]? = some o) (hd : ∀ d, o.dst = some d → d < n)
    (hk : pl.kd j = .skip ∨ pl.kd j = .quiet) {u : Value} (hu : VRel E (pl.v j) u) {w' : World} (kp : Kept w w') : Inv P ops n T₀ nx pl E₀ h₀ w₀ ds (listed.setIfInBounds j true) q E g (a.put o.dst u) w' := by
  have hnl := not_lst (mem_ready.1 hj).1
  have hjN : j < ops.size := (Array.getElem?_eq_some_iff.1 ho).1
  have hjs : j < listed.size := by rw [i.lsz]; exact hjN
  obtain ⟨t1, t2, t3⟩ := i.writes st hj ho hd (.refl E) hu
  have nl : pl.kd j ≠ .loud := by rcases hk with e | e <;> rw [e] <;> intro q <;> cases q
  have nn : ∀ p ob, pl.kd j ≠ .new p ob := fun p ob => by rcases hk with e | e <;> rw [e] <;> intro q <;> cases q
  refine ⟨by rw [Array.size_setIfInBounds]; exact i.lsz, i.qN, fun l hl hkl => (lst_set hjs).2 (.inr (i.lo l hl hkl)), fun l hl hlN hkl hL => ?_, i.down' hj hjN, t1, t2, t3, fun p ob => ?_, i.rel.congr kp.heap, i.fr.congr kp.heap kp.os kp.tape kp.output, i.nxq,
    fun k p ob hL hkk hm => ?_, fun k p ob hkN hkk hL => i.free k p ob hkN hkk fun hl => hL ((lst_set hjs).2 (.inr hl)), by rw [put_defers]; exact i.dfr⟩
  · rcases (lst_set hjs).1 hL with e | hL
    · subst e; exact nl hkl
    · exact i.hi l hl hlN hkl hL
  · rw [i.desc p ob]
    constructor
    · rintro (h | ⟨k, h1, h2, h3⟩)
      · exact .inl h
      · exact .inr ⟨k, (lst_set hjs).2 (.inr h1), h2, h3⟩
    · rintro (h | ⟨k, h1, h2, h3⟩)
      · exact .inl h
      · rcases (lst_set hjs).1 h1 with e | h1
        · subst e; exact absurd h2 (nn _ _)
        · exact .inr ⟨k, h1, h2, h3⟩
  · rcases (lst_set hjs).1 hL with e | hL
    · subst e; exact absurd hkk (nn _ _)
    · exact i.apart k p ob hL hkk hm

theorem Oper.wpIn_gives {ρ : Option Nat} {nn : Nat} {o : Oper} {a : Act} {w w' : World} {K : Act → World → Prop} {Q : Exit → Act → World → Prop} {u : Value} (hnd : ∀ c, o.op ≠ .defer c) (hg : Gives ((execOp a.eval o).run P w) u w') (k : K (a.put o.dst u) w') :
    o.wpIn (FW ρ) nn P a w K Q := by
  refine ⟨fun _ _ => trivial, ?_⟩
  rw [Oper.semAt_eq _ _ _ hnd]
  rcases hg with g | ⟨g, rfl⟩
  · rw [g]; exact k
  · rw [g]; exact k
theorem opA_nodefer {o : Oper} {T : PM AV} {h : AH} {r : ORes} (e : opA P o T h = some r) : ∀ c, o.op ≠ .defer c := by
  intro c hc; simp [opA, hc, opF, oNone] at e

/-- One operation. -/
theorem Inv.step (st : Sta P ops n base T₀ h₀ nx pl) (i : Inv P ops n T₀ nx pl E₀ h₀ w₀ ds listed q E g a w) {j : Nat} (hj : j ∈ Region.ready .any ops listed) {ρ : Option Nat} {nn : Nat} {Q : Exit → Act → World → Prop} {K : Act → World → Prop}
    (hK : ∀ q' E' g' a' w', Inv P ops n T₀ nx pl E₀ h₀ w₀ ds (listed.setIfInBounds j true) q' E' g' a' w' → K a' w') : wpOpIn (FW ρ) nn P ops Q j K a w := by
  have hnl := not_lst (mem_ready.1 hj).1
  obtain ⟨o, ho, _⟩ := (mem_ready.1 hj).2
  have hjN : j < ops.size := (Array.getElem?_eq_some_iff.1 ho).1
  have hjs : j < listed.size := by rw [i.lsz]; exact hjN
  obtain ⟨o', ho', hd, hT, hs⟩ := st.step j hjN
  rw [ho] at ho'
  injection ho' with ho'
  subst ho'
  have rg : ROn E (gtemps ops o) (pl.T j) a.tmps := i.reads st hj ho fun t ht => looks_guard ht
  have ro : ROn E (opTemps o.op) (pl.T j) a.tmps := i.reads st hj ho fun t ht => looks_op ht
  have hrel : HRel E (pl.h q) w := i.rel.sub (fun p ob hp => (i.desc p ob).2 (.inl hp)) rfl
  unfold wpOpIn
  simp only [ho]
  cases hk : pl.kd j with
  | skip =>
    rw [hk] at hs
    obtain ⟨h1, h2, h3⟩ := hs
    rw [wantedA_ok2 rg h1, if_neg (by simp)]
    exact ⟨fun _ _ => trivial, hK q E g _ w (i.quiet st hj ho hd (.inl hk) (by rw [h2]; simp only [VRel, AV.undef, VRelL, undef]; exact ⟨#[], rfl, rfl⟩) (.refl w))⟩
  | quiet =>
    rw [hk] at hs
    obtain ⟨h1, h2, h3⟩ := hs
    rw [wantedA_ok2 rg h1, if_pos rfl]
    have he := h3 q i.qN (fun l hl hkl hp => by
        have hL := ready_prec i hj l hp
        by_cases e : l < q
        · exact e
        · exact absurd hL (i.hi l (by omega) (by omega) hkl))
      (fun l hlN hl hkl hp => by
        by_cases e : q ≤ l
        · exact e
        · exact absurd (i.down l (i.lo l (by omega) hkl) j hp) hnl)
    obtain ⟨u, w', g', hv, kp⟩ := opA_ok2 (w := w) ro hrel he
    exact Oper.wpIn_gives (opA_nodefer he) g' (hK q E g _ w' (i.quiet st hj ho hd (.inr hk) hv kp))
  | new id ob =>
    rw [hk] at hs
    obtain ⟨h1, h2, h3, ⟨kd, h4, h5⟩, h6, h7, h8, _⟩ := hs
    rw [wantedA_ok2 rg h1, if_pos rfl]
    obtain ⟨u, w', O, N, g', kp, hob, hv⟩ := opA_ok2 (w := w) ro hrel (h4 (pl.h q))
    refine Oper.wpIn_gives (opA_nodefer (h4 (pl.h q))) g' ?_
    obtain ⟨i1, i2⟩ := st.ids j id h3
    have hfree : E.blk id = none := i.free j id ob hjN hk hnl
    have hlt : id.nat < (pl.h q).nx.nat := Nat.lt_of_lt_of_le i2 i.nxq
    obtain ⟨hle, hrel'⟩ := i.rel.pushAt hlt hfree hob
    have hfr' := i.fr.pushAt (p := id) (by omega) hfree (o := ob) (O := O) (N := N)
    have hmq : q ≤ pl.mg j := by
      by_cases e : q ≤ pl.mg j
      · exact e
      · obtain ⟨l1, l2⟩ := h7 (by have := i.qN; omega)
        exact absurd (i.down _ (i.lo _ (by omega) l1) j l2) hnl
    have hnone : (pl.h q).m.get id = none := by
      cases hg' : (pl.h q).m.get id with
      | none => rfl
      | some ob' =>
        obtain ⟨B, sh, N', hb, _⟩ := i.rel.obj id ob' ((i.desc id ob').2 (.inl hg'))
        rw [hfree] at hb
        cases hb
    have hv' : VRel (E.set id (w.heap.size, 0, N)) (pl.v j) u := by rw [h5]; exact hv _ _ (by simp [Env.set])
    obtain ⟨t1, t2, t3⟩ := i.writes st hj ho hd hle hv'
    refine hK q _ _ _ w' ⟨by rw [Array.size_setIfInBounds]; exact i.lsz, i.qN, fun l hl hkl => (lst_set hjs).2 (.inr (i.lo l hl hkl)), fun l hl hlN hkl hL => ?_, i.down' hj hjN, t1, t2, t3, fun p ob' => ?_, hrel'.congr kp.heap, hfr'.congr kp.heap kp.os kp.tape kp.output, i.nxq,
      fun k p ob' hL hkk hm => ?_, fun k p ob' hkN hkk hL => ?_, by rw [put_defers]; exact i.dfr⟩
    · rcases (lst_set hjs).1 hL with e | hL
      · subst e; rw [hk] at hkl; cases hkl
      · exact i.hi l hl hlN hkl hL
    · by_cases e : p = id
      · subst e
        rw [if_pos rfl]
        constructor
        · intro e'
          injection e' with e'
          subst e'
          exact .inr ⟨j, (lst_set hjs).2 (.inl rfl), hk, hmq⟩
        · rintro (h | ⟨k, k1, k2, k3⟩)
          · rw [hnone] at h; cases h
          · have hkN : k < ops.size := by
              rcases (lst_set hjs).1 k1 with e | k1
              · omega
              · exact Lst.lt i k1
            have := st.uniq hkN hjN k2 hk
            subst this
            rw [hk] at k2
            injection k2 with _ k2
            rw [k2]
      · rw [if_neg e, i.desc p ob']
        constructor
        · rintro (h | ⟨k, k1, k2, k3⟩)
          · exact .inl h
          · exact .inr ⟨k, (lst_set hjs).2 (.inr k1), k2, k3⟩
        · rintro (h | ⟨k, k1, k2, k3⟩)
          · exact .inl h
          · rcases (lst_set hjs).1 k1 with e2 | k1
            · subst e2; rw [hk] at k2; injection k2 with k2 _; exact absurd k2.symm e
            · exact .inr ⟨k, k1, k2, k3⟩
    · rcases (lst_set hjs).1 hL with e | hL
      · subst e; rw [hk] at hkk; injection hkk with hkk _; subst hkk; exact hnone
      · exact i.apart k p ob' hL hkk hm
    · have hne : p ≠ id := fun e => by
        subst e
        exact hL ((lst_set hjs).2 (.inl (st.uniq hkN hjN hkk hk)))
      have := i.free k p ob' hkN hkk fun hl => hL ((lst_set hjs).2 (.inr hl))
      simp [Env.set, hne, this]
  | loud =>
    rw [hk] at hs
    obtain ⟨h1, h2, hin, hh, so⟩ := hs
    rw [wantedA_ok2 rg h1, if_pos rfl]
    have hqj : q ≤ j := by
      by_cases e : q ≤ j
      · exact e
      · exact absurd (i.lo j (by omega) hk) hnl
    have i := i.shift st hqj (by omega) fun l hl hlj hkl => by
      obtain ⟨ol, hol, _, _, hsl⟩ := st.step l (by omega)
      rw [hkl] at hsl
      exact i.hi l hl (by omega) hkl (ready_prec i hj l (st.rok.louds j o ho h2 l ol hlj hol hsl.2.1))
    have hsub : ∀ p ob, hin.m.get p = some ob → g p = some ob := fun p ob hp => by
      rcases hh.a p ob hp with h | ⟨k, k1, k2, k3⟩
      · exact (i.desc p ob).2 (.inl h)
      · have hkN : k < ops.size := by omega
        obtain ⟨l1, l2⟩ := (st.new hkN k2).2.2.1 (by omega)
        rw [k3] at l2
        exact (i.desc p ob).2 (.inr ⟨k, ready_prec i hj k l2, k2, by omega⟩)
    have hrin : HRel E hin w := i.rel.sub hsub hh.nx
    refine so E ρ nn a w K Q ro hrin fun E' u w' fr' hr' hv => ?_
    have hrelin : HRelF E g hin.nx w := by rw [hh.nx]; exact i.rel
    have hfrin : FrF E₀ h₀ w₀ E g hin.nx w := by rw [hh.nx]; exact i.fr
    have hsome : ∀ p ob, hin.m.get p = some ob → (g p).isSome = true := fun p ob hp => by rw [hsub p ob hp]; rfl
    obtain ⟨b1, b2⟩ := hrelin.beside hsome fr' hr'
    have b3 := hfrin.beside hrelin hsome fr'
    have inNone : ∀ k p ob, Lst listed k → pl.kd k = .new p ob → j + 1 ≤ pl.mg k → hin.m.get p = none := fun k p ob hL hkk hm => by
      cases hg' : hin.m.get p with
      | none => rfl
      | some ob' =>
        rcases hh.a p ob' hg' with h | ⟨k', k1, k2, k3⟩
        · have := i.apart k p ob hL hkk (by omega)
          rw [this] at h
          cases h
        · have := st.uniq (Lst.lt i hL) (by omega) hkk k2
          subst this
          omega
    have outNone : ∀ k p ob, Lst listed k → pl.kd k = .new p ob → j + 1 ≤ pl.mg k → (pl.h (j + 1)).m.get p = none := fun k p ob hL hkk hm =>
      b2 p (inNone k p ob hL hkk hm) (by rw [(i.desc p ob).2 (.inr ⟨k, hL, hkk, by omega⟩)]; rfl)
    obtain ⟨t1, t2, t3⟩ := i.writes st hj ho hd fr'.le hv
    refine hK (j + 1) E' _ _ w' ⟨by rw [Array.size_setIfInBounds]; exact i.lsz, hjN, fun l hl hkl => ?_, fun l hl hlN hkl hL => ?_, i.down' hj hjN, t1, t2, t3, fun p ob => ?_, b1, b3, ?_, fun k p ob hL hkk hm => ?_, fun k p ob hkN hkk hL => ?_, by rw [put_defers]; exact i.dfr⟩
    · by_cases e : l = j
      · exact (lst_set hjs).2 (.inl e)
      · exact (lst_set hjs).2 (.inr (i.lo l (by omega) hkl))
    · rcases (lst_set hjs).1 hL with e | hL
      · omega
      · exact i.hi l (by omega) hlN hkl hL
    · rw [beside_spec]
      constructor
      · rintro (h | ⟨_, k2, k3⟩)
        · exact .inl h
        · rcases (i.desc p ob).1 k3 with h | ⟨k, l1, l2, l3⟩
          · have := hh.b p (by rw [h]; rfl)
            rw [k2] at this
            cases this
          · refine .inr ⟨k, (lst_set hjs).2 (.inr l1), l2, ?_⟩
            by_cases e : pl.mg k = j
            · have hkj : k < j := by have := (st.new (Lst.lt i l1) l2).2.1; omega
              have := hh.c k p ob hkj l2 e
              rw [k2] at this
              cases this
            · omega
      · rintro (h | ⟨k, l1, l2, l3⟩)
        · exact .inl h
        · rcases (lst_set hjs).1 l1 with e | l1
          · subst e; rw [hk] at l2; cases l2
          · exact .inr ⟨outNone k p ob l1 l2 l3, inNone k p ob l1 l2 l3, (i.desc p ob).2 (.inr ⟨k, l1, l2, by omega⟩)⟩
    · have := i.nxq
      have := fr'.nx
      rw [hh.nx] at this
      omega
    · rcases (lst_set hjs).1 hL with e | hL
      · subst e; rw [hk] at hkk; cases hkk
      · exact outNone k p ob hL hkk hm
    · have hb := i.free k p ob hkN hkk fun hl => hL ((lst_set hjs).2 (.inr hl))
      rw [fr'.old p ?_]
      · exact hb
      · obtain ⟨_, i2⟩ := st.ids k p (st.new hkN hkk).1
        rw [hh.nx]
        exact Nat.lt_of_lt_of_le i2 i.nxq

theorem ready_nil (st : Sta P ops n base T₀ h₀ nx pl) (i : Inv P ops n T₀ nx pl E₀ h₀ w₀ ds listed q E g a w) (hr : Region.ready .any ops listed = []) : ∀ j, j < ops.size → Lst listed j := by
  intro j
  induction j using Nat.strongRecOn with
  | _ j ih =>
    intro hj
    cases hl : listed.getD j false with
    | true => exact hl
    | false =>
      have hjs : j < listed.size := by rw [i.lsz]; exact hj
      have : j ∈ Region.ready .any ops listed := by
        rw [mem_ready]
        refine ⟨by simpa [Array.getD_eq_getD_getElem?, hjs] using hl, ops[j], by simp [hj], fun e he hb => ?_⟩
        have hlt := st.rok.edge j ops[j] (by simp [hj]) e he hb
        exact ih e.on hlt (by omega)
      rw [hr] at this
      cases this

def unl (ops : Array Oper) (listed : Array Bool) : List Nat := (List.range ops.size).filter fun j => !listed.getD j true
theorem unl_set (hs : listed.size = ops.size) {j : Nat} (hj : j ∈ Region.ready .any ops listed) : (unl ops (listed.setIfInBounds j true)).length < (unl ops listed).length := by
  have hj0 := (mem_ready.1 hj).1
  obtain ⟨o, ho, _⟩ := (mem_ready.1 hj).2
  have hjN : j < ops.size := (Array.getElem?_eq_some_iff.1 ho).1
  unfold unl
  have e : (fun k => !(listed.setIfInBounds j true).getD k true) = fun k => (k != j) && (!listed.getD k true) := by
    funext k
    by_cases h : k = j
    · subst h; simp [Array.getD_eq_getD_getElem?, hs, hjN]
    · rw [getD_set_ne true (fun q => h q.symm)]; simp [h]
  rw [e, ← List.filter_filter]
  have hm : j ∈ (List.range ops.size).filter fun k => !listed.getD k true := List.mem_filter.2 ⟨List.mem_range.2 hjN, by simp at hj0 ⊢; exact hj0⟩
  exact List.length_filter_lt_length_iff_exists.2 ⟨j, hm, by simp⟩

theorem Inv.finish (st : Sta P ops n base T₀ h₀ nx pl) {hf : AH} (hnx : hf.nx = (pl.h ops.size).nx) (hfin : ∀ p ob, hf.m.get p = some ob → (pl.h ops.size).m.get p = some ob ∨ ∃ j, j < ops.size ∧ pl.kd j = .new p ob ∧ pl.mg j = ops.size)
    (i : Inv P ops n T₀ nx pl E₀ h₀ w₀ ds listed q E g a w) (hall : ∀ j, j < ops.size → Lst listed j) :
    Fr E₀ h₀ w₀ E hf w ∧ TRel E n (pl.T ops.size) a.tmps ∧ HRel E hf w := by
  have i := i.shift st i.qN (Nat.le_refl _) fun l hl hlN hk => i.hi l hl hlN hk (hall l hlN)
  have hsub : ∀ p ob, hf.m.get p = some ob → g p = some ob := fun p ob hp => by
    rcases hfin p ob hp with h | ⟨j, h1, h2, h3⟩
    · exact (i.desc p ob).2 (.inl h)
    · exact (i.desc p ob).2 (.inr ⟨j, hall j h1, h2, by omega⟩)
  have hfr : FrF E₀ h₀ w₀ E g hf.nx w := by rw [hnx]; exact i.fr
  refine ⟨hfr.fr hsub, ⟨i.tsz, fun t v ht hv => ?_⟩, i.rel.sub hsub hnx⟩
  rcases Tget st.nn st.step ht ops.size (Nat.le_refl _) hv with ⟨k, ok, h1, h2, h3, h4, h5⟩ | ⟨h1, h2⟩
  · rw [← h4]
    exact i.tw k t ok (hall k h1) h2 h3 fun k' ok' hk' hok' hd' => h5 k' ok' (Lst.lt i hk') hok' hd'
  · rw [st.t0] at h1
    exact i.t0 t v ht h1 fun k ok hk hok => h2 k ok (Lst.lt i hk) hok

theorem Inv.any (st : Sta P ops n base T₀ h₀ nx pl) {hf : AH} (hnx : hf.nx = (pl.h ops.size).nx) (hfin : ∀ p ob, hf.m.get p = some ob → (pl.h ops.size).m.get p = some ob ∨ ∃ j, j < ops.size ∧ pl.kd j = .new p ob ∧ pl.mg j = ops.size)
    {ρ : Option Nat} {nn : Nat} {Q : Exit → Act → World → Prop} (hQ : ∀ E' a' w', Fr E₀ h₀ w₀ E' hf w' → TRel E' n (pl.T ops.size) a'.tmps → HRel E' hf w' → a'.defers = ds → Q .normal a' w') :
    ∀ (fuel : Nat) (listed : Array Bool) (q : Nat) (E : Env) (g : Pos → Option AObj) (a : Act) (w : World), Inv P ops n T₀ nx pl E₀ h₀ w₀ ds listed q E g a w → (unl ops listed).length ≤ fuel → wpAnyIn (FW ρ) nn P .any ops Q fuel listed a w := by
  intro fuel
  have done : ∀ (listed : Array Bool) (q : Nat) (E : Env) (g : Pos → Option AObj) (a : Act) (w : World), Inv P ops n T₀ nx pl E₀ h₀ w₀ ds listed q E g a w → Region.ready .any ops listed = [] → Q .normal a w := fun listed q E g a w i hr => by
    obtain ⟨h1, h2, h3⟩ := i.finish st hnx hfin (ready_nil st i hr)
    exact hQ E a w h1 h2 h3 i.dfr
  induction fuel with
  | zero =>
    intro listed q E g a w i hu
    have hr : Region.ready .any ops listed = [] := by
      cases hr : Region.ready .any ops listed with
      | nil => rfl
      | cons j rs =>
        have := unl_set i.lsz (j := j) (by rw [hr]; exact List.mem_cons_self ..)
        omega
    exact ⟨hr, done listed q E g a w i hr⟩
  | succ fuel ih =>
    intro listed q E g a w i hu
    refine ⟨fun hr => done listed q E g a w i hr, fun j hj => i.step st hj fun q' E' g' a' w' i' => ih _ q' E' g' a' w' i' ?_⟩
    have := unl_set i.lsz hj
    omega

theorem drawOK {hk : Hook} (hh : HookOK P hk) : DrawOK P hk := by
  intro rec hg n ops T h k hn e
  obtain ⟨hr, base, nx, pl, hf, hle, hids, hpl, e1⟩ := drawK_plan hh hg e
  refine ⟨_, hf, e1, fun E ρ nn a w Q tr hrel kQ => ?_⟩
  have st : Sta P ops n base T h nx pl := ⟨hn, regionOK_spec hr, hpl.step, hpl.t0, hids⟩
  refine Inv.any st hpl.nx hpl.fin kQ ops.size _ 0 E h.m.get a w ?_ (by unfold unl; exact Nat.le_trans (List.length_filter_le ..) (by simp))
  have no : ∀ j, ¬ Lst (Array.replicate ops.size false) j := fun j hj => by
    unfold Lst at hj
    simp [Array.getD_eq_getD_getElem?, Array.getElem?_replicate] at hj
    split at hj <;> simp at hj
  have h00 := hpl.h0
  refine ⟨by simp, Nat.zero_le _, fun l hl => by omega, fun l _ _ _ => no l, fun j hj => absurd hj (no j), tr.1, fun j _ _ hj => absurd hj (no j), fun t v ht hv _ => tr.2 t v ht hv, fun p o => ?_, ?_, ?_, by rw [h00]; exact Nat.le_refl _, fun j _ _ hj => absurd hj (no j), fun j p o hj hkd _ => ?_, rfl⟩
  · rw [h00]
    constructor
    · intro hx; exact .inl hx
    · rintro (hx | ⟨j, hj, _⟩)
      · exact hx
      · exact absurd hj (no j)
  · rw [h00]
    exact ⟨hrel.obj, hrel.inj, fun p hp => hrel.fresh p (Nat.le_trans hle hp), hrel.below⟩
  · rw [h00]
    exact ⟨.refl E, fun _ _ => rfl, hle, Nat.le_refl _, rfl, rfl, rfl, fun _ _ _ => rfl, fun b B sh N hl hb => .inr ⟨b, sh, N, hl, hb⟩⟩
  · have := (hids j p (st.new hj hkd).1).1
    exact hrel.fresh p (by omega)

/-- **The executor is sound.** -/
theorem exec_good (hm : P.follows .mixedOrders = true) {hk : Hook} (hh : HookOK P hk) (fuel : Nat) : Good P (exec P hk fuel) := (exec_ok hm hh (drawOK hh) fuel).good
theorem runF_ok (hm : P.follows .mixedOrders = true) {hk : Hook} (hh : HookOK P hk) {fuel : Nat} {f : FuncId} {args : List AV} {h : AH} {k : AV → AH → Bool} (e : runF P hk fuel f args h k = true) :
    ∃ v h', k v h' = true ∧ Callable P f ∧ SoundF P f args h v h' := callK_ok hh (exec_good hm hh fuel) e
end
end Go.Ax
#print axioms Go.Ax.runF_ok
