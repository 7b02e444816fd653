/- ClientWaits: a client that waits asks nothing else, and what it waits for stays: true for every input; the arguments read as they did. No condition beside the card's own. -/
import Derived.Test.YtgooflapblbjnaaGreatDoorTie
import Derived.Test.YtgooflapblbjnaaGreatDoorCards
import Derived.Test.YtgooflapblbjnaaGreatDoorLawW
import Derived.Test.YtgooflapblbjnaaGreatDoorJF
import Derived.ProofKit
import Derived.OpenShut
import Derived.LaidMore
import Derived.Lay
import Derived.SevenTiedAt
import Derived.Stop.Joined
import Derived.Deep.Slices
import Derived.Deep.Fields
import Derived.Lib.SmallJoins
import Derived.ChangeSame
import Derived.Carry
set_option linter.unusedVariables false
set_option linter.unusedSimpArgs false
set_option linter.unusedSectionVars false
namespace Go.Proofs.YtgooflapblbjnaaGreatDoor
set_option maxHeartbeats 16000000
open Go Go.ChangeShapes Go.WideShapes Go.ChangeAt Go.RowKit Go.Deep Go.Joins

theorem own : ownKnob Tryz.prog.godebug = none := by kernel_rfl
theorem laidOut : laidOutB Tryz.prog = true := by kernel_rfl

section
variable {H : Type} {enc : TypeId × Value → H} {P : Program} {w : World} {base : Nat} {spare : Nat → Bool} {held : Bool}
theorem post_of_below {f : Func} {s : ChangeSpec} {apart fresh handsOn again : Bool} {W W' : World} {args : Array Value} {v : Value} {ds gs : List (DataW H)} {before pa pv : List MemPlace}
    (hW : DataW.Whole enc P f.params.toList s.vars apart W args.toList ds gs before)
    (hres : ∀ (b : Nat) (sp : Nat → Bool) (hd : Bool), DataW.TrodAll enc P W' b sp hd f.resultTypes.toList (v.resultList f.resultTypes.size) (s.fn H (ds ++ gs)).results [])
    (hargs : ∀ sp : Nat → Bool, (∀ p ∈ before, sp p.block = true) → DataW.TrodAll enc P W' 0 sp true f.params.toList args.toList (s.fn H (ds ++ gs)).args pa)
    (hvars : ∀ sp : Nat → Bool, (∀ p ∈ before, sp p.block = true) → DataW.TrodVars enc P W' sp s.vars (s.fn H (ds ++ gs)).vars pv)
    (hps : before = pa ++ pv) (hb : Below W.heap.size W W')
    (hok : ∀ (j : Nat) (t : TypeId) (r : Value), f.resultTypes[j]? = some t → (v.resultList f.resultTypes.size)[j]? = some r → Value.okWide P W' .any 0 t r) :
    s.post enc P f apart fresh handsOn again W args v W' := by
  have hlt : ∀ p ∈ before, p.block < W.heap.size := fun p hp => hW.lt p hp
  have hold : ∀ p ∈ before, (fun b => decide (b < W.heap.size)) p.block = true := fun p hp => by simpa using hlt p hp
  refine ⟨ds, gs, before, [], pa, pv, hW, hres _ _ _, hargs _ hold, hvars _ hold, World.keptBut_mono (fun p hp => ⟨hp, ?_⟩) (hb.frame (· ∈ before)), fun _ => ?_⟩
  · rw [hps, List.mem_append] at hp
    exact Or.inr hp
  · obtain ⟨_, _, _, _, _, hz, hn⟩ := hW
    refine ⟨hok, _, _, ([] ++ pa) ++ pv, ⟨[] ++ pa, pv, trodAll_append (hargs _ (fun _ _ => rfl)) (hres _ _ _), hvars _ (fun _ _ => rfl), rfl, ?_, ?_⟩, ?_⟩
    · intro b off hp
      have hin : MemPlace.cell b off ∈ before := by rw [hps]; simpa using hp
      rw [hb.frozen (hlt _ hin)]
      exact hz b off hin
    · intro ha
      have := hn ha
      rw [hps] at this
      simpa using this
    · intro p hp _
      rw [hps]
      simpa using hp
end

section
variable {H : Type} {enc : TypeId × Value → H} {P : Program} {w : World} {base : Nat} {spare : Nat → Bool} {held : Bool}
theorem open_agg8 {r : Reach} {b0 : Nat} {t : TypeId} {f0 f1 f2 f3 f4 f5 f6 f7 : Field} {v : Value} {d : DataW H} {p : List MemPlace} (hs : P.underlying t = some (.struct #[f0, f1, f2, f3, f4, f5, f6, f7])) (hone : oneCellFields P #[f0, f1, f2, f3, f4, f5, f6, f7] = true) (hC : P.cellsOf t = 8)
    (hv : Value.okWide P w r b0 t v) (h : DataW.Trod enc P w base spare held t v d p) :
    ∃ (v0 v1 v2 v3 v4 v5 v6 v7 : Value) (y0 y1 y2 y3 y4 y5 y6 y7 : DataW H × List MemPlace) (n : Nat), v = .agg #[v0, v1, v2, v3, v4, v5, v6, v7] ∧
      DataW.trod enc P w base spare held n f0.type [v0] = some y0 ∧ DataW.trod enc P w base spare held n f1.type [v1] = some y1 ∧ DataW.trod enc P w base spare held n f2.type [v2] = some y2 ∧ DataW.trod enc P w base spare held n f3.type [v3] = some y3 ∧ DataW.trod enc P w base spare held n f4.type [v4] = some y4 ∧ DataW.trod enc P w base spare held n f5.type [v5] = some y5 ∧ DataW.trod enc P w base spare held n f6.type [v6] = some y6 ∧ DataW.trod enc P w base spare held n f7.type [v7] = some y7 := by
  obtain ⟨cs, rfl, hsz⟩ := okWide_struct hs hv
  obtain ⟨l⟩ := cs
  match l, hsz.trans hC with
  | [c0, c1, c2, c3, c4, c5, c6, c7], _ =>
    obtain ⟨fuel, hf⟩ := h
    obtain ⟨xs, n, _, hx, _, hlen, hg⟩ := DataW.trod_struct hs hf
    obtain ⟨o0, k0⟩ := hone_of hone 0 f0 rfl
    obtain ⟨o1, k1⟩ := hone_of hone 1 f1 rfl
    obtain ⟨o2, k2⟩ := hone_of hone 2 f2 rfl
    obtain ⟨o3, k3⟩ := hone_of hone 3 f3 rfl
    obtain ⟨o4, k4⟩ := hone_of hone 4 f4 rfl
    obtain ⟨o5, k5⟩ := hone_of hone 5 f5 rfl
    obtain ⟨o6, k6⟩ := hone_of hone 6 f6 rfl
    obtain ⟨o7, k7⟩ := hone_of hone 7 f7 rfl
    match xs, hlen with
    | [y0, y1, y2, y3, y4, y5, y6, y7], _ =>
      exact ⟨c0, c1, c2, c3, c4, c5, c6, c7, y0, y1, y2, y3, y4, y5, y6, y7, n, rfl, by simpa [Value.cells, o0, k0] using hg 0 f0 rfl, by simpa [Value.cells, o1, k1] using hg 1 f1 rfl, by simpa [Value.cells, o2, k2] using hg 2 f2 rfl, by simpa [Value.cells, o3, k3] using hg 3 f3 rfl, by simpa [Value.cells, o4, k4] using hg 4 f4 rfl, by simpa [Value.cells, o5, k5] using hg 5 f5 rfl, by simpa [Value.cells, o6, k6] using hg 6 f6 rfl, by simpa [Value.cells, o7, k7] using hg 7 f7 rfl⟩

theorem open_slice_fields {t e : TypeId} {fs : Array Field} {fuel : Nat} {cs : List Value} {x : DataW H × List MemPlace} (ht : P.underlying t = some (.slice e)) (he : P.underlying e = some (.struct fs))
    (hone : oneCellFields P fs = true) (hC : P.cellsOf e = fs.size) (h : DataW.trod enc P w base spare held fuel t cs = some x) :
    (cs = [.slice none 0 0]) ∨
    ∃ (a : Addr) (len cap m : Nat), cs = [.slice (some a) len cap] ∧ len ≤ cap ∧ cap ≤ maxLen ∧ m = (if spare a.block then cap else len) ∧
      ∀ i, i < m → ∀ (j : Nat) (f : Field), fs[j]? = some f → ∃ (v : Value) (y : DataW H × List MemPlace) (n : Nat), w.cell? (a.add (i * fs.size + j)) = some v ∧ DataW.trod enc P w base spare held n f.type [v] = some y := by
  rcases open_slice ht h with h0 | ⟨a, len, cap, m, n, D, Pl, hcs, hb, hl, hm, hmm, hx, hi⟩
  · exact .inl h0.1
  · refine .inr ⟨a, len, cap, m, hcs, hl, hm, hmm, fun i him j f hj => ?_⟩
    obtain ⟨cs', hc, ht'⟩ := hi i him
    rw [hC] at hc
    obtain ⟨ys, n', hn', hy, hlen, hyl, hf⟩ := DataW.trod_struct he ht'
    obtain ⟨_, hcl, hat⟩ := World.cells?_some hc
    obtain ⟨ho, hk⟩ := hone_of hone j f hj
    have hjl : j < fs.size := (Array.getElem?_eq_some_iff.1 hj).1
    have hcell := hat j hjl
    have hv : cs'[j]? = some (cs'[j]'(by omega)) := List.getElem?_eq_getElem (by omega)
    have h1 := hf j f hj
    rw [ho, hk] at h1
    have hone' : (cs'.drop j).take 1 = [cs'[j]'(by omega)] := by
      rw [List.drop_eq_getElem_cons (by omega)]
      rfl
    rw [hone'] at h1
    have hys : ys[j]? = some (ys[j]'(by omega)) := List.getElem?_eq_getElem (by omega)
    exact ⟨_, _, n', by rw [← Go.Deep.add_add, hcell, hv], h1.trans hys⟩

theorem cell_lt {a : Addr} {v : Value} (h : w.cell? a = some v) : a.block < w.heap.size ∧ a.spot = none := by
  unfold World.cell? at h
  split at h
  · rename_i c _ _ hc
    refine ⟨(Array.getElem?_eq_some_iff.1 hc).1, ?_⟩
    cases hs : a.spot with
    | none => rfl
    | some x => simp [hs] at h
  · cases h
end

set_option maxRecDepth 100000 in
theorem few_trod {H : Type} {enc : TypeId × Value → H} {W : World} {base : Nat} {v : Value} {d : DataW H} {ps : List MemPlace} (hv : Value.okWide Tryz.prog W .any base 25 v) (h : DataW.Trod enc Tryz.prog W 0 (fun _ => true) true 25 v d ps) :
    ∃ c0 c1 c2 c3 c4 c5 c6 c7 : Value, v = .agg #[c0, c1, c2, c3, c4, c5, c6, c7] ∧ (∀ c ∈ [c0, c1, c2, c3, c4, c5, c6, c7], (∀ cs, c ≠ .agg cs) ∧ (∀ cs, c ≠ .tuple cs)) ∧
      ∀ W', Below W.heap.size W W' → Calls Tryz.prog 5 #[.agg #[c0, c1, c2, c3, c4, c5, c6, c7]] W' (SomeBool W') := by
  obtain ⟨c0, c1, c2, c3, c4, c5, c6, c7, y0, y1, y2, y3, y4, y5, y6, y7, n, rfl, g0, g1, g2, g3, g4, g5, g6, g7⟩ := open_agg8 Tryz.underlying25 (by kernel_rfl) (by kernel_rfl) hv h
  have i22 : Tryz.prog.underlying 22 = some (.int .i64) := by kernel_rfl
  have i3 : Tryz.prog.underlying 3 = some (.int .i64) := by kernel_rfl
  have i4 : Tryz.prog.underlying 4 = some .bool := by kernel_rfl
  have i9 : Tryz.prog.underlying 9 = some .string := by kernel_rfl
  have i56 : Tryz.prog.underlying 56 = some (.int .i64) := by kernel_rfl
  obtain ⟨z0, e0, _, _⟩ := DataW.trod_int i22 g0
  obtain ⟨z1, e1, _, _⟩ := DataW.trod_int i3 g1
  obtain ⟨z2, e2, _, _⟩ := DataW.trod_int i3 g2
  obtain ⟨z3, e3, _, _⟩ := DataW.trod_int i3 g3
  obtain ⟨z5, e5, _, _⟩ := DataW.trod_string i9 g5
  obtain ⟨z6, e6, _⟩ := DataW.trod_bool i4 g6
  obtain ⟨z7, e7, _⟩ := DataW.trod_bool i4 g7
  simp only [List.cons.injEq, and_true] at e0 e1 e2 e3 e5 e6 e7
  subst e0 e1 e2 e3 e5 e6 e7
  rcases open_slice_fields Tryz.underlying23 Tryz.underlying58 (by kernel_rfl) (by kernel_rfl) g4 with e4 | ⟨a, len, cap, m, e4, hl, hm, hmm, hf⟩
  · simp only [List.cons.injEq, and_true] at e4
    subst e4
    exact ⟨_, _, _, _, _, _, _, _, rfl, by simp, fun W' hb => few_nil _ _ _ _ _ _ _ _ _ _⟩
  · simp only [List.cons.injEq, and_true] at e4
    subst e4
    refine ⟨_, _, _, _, _, _, _, _, rfl, by simp, fun W' hb => ?_⟩
    by_cases h0 : len = 0
    · subst h0; exact few_nil _ _ _ _ _ _ _ _ _ _
    · have hm' : m = cap := by rw [hmm]; rfl
      have each : ∀ i, i < len → ∃ q : Int × ByteArray × ByteArray × Int × Bool × Bool, W.cell? (a.add (i * 6)) = some (.int .i64 q.1) ∧ W.cell? (a.add (i * 6 + 1)) = some (.string q.2.1) ∧ W.cell? (a.add (i * 6 + 2)) = some (.string q.2.2.1) ∧
          W.cell? (a.add (i * 6 + 3)) = some (.int .i64 q.2.2.2.1) ∧ W.cell? (a.add (i * 6 + 4)) = some (.bool q.2.2.2.2.1) ∧ W.cell? (a.add (i * 6 + 5)) = some (.bool q.2.2.2.2.2) := by
        intro i hi
        have F := hf i (by omega)
        obtain ⟨u0, _, _, k0, t0⟩ := F 0 _ rfl
        obtain ⟨u1, _, _, k1, t1⟩ := F 1 _ rfl
        obtain ⟨u2, _, _, k2, t2⟩ := F 2 _ rfl
        obtain ⟨u3, _, _, k3, t3⟩ := F 3 _ rfl
        obtain ⟨u4, _, _, k4, t4⟩ := F 4 _ rfl
        obtain ⟨u5, _, _, k5, t5⟩ := F 5 _ rfl
        obtain ⟨x0, e0, _, _⟩ := DataW.trod_int i56 t0
        obtain ⟨x1, e1, _, _⟩ := DataW.trod_string i9 t1
        obtain ⟨x2, e2, _, _⟩ := DataW.trod_string i9 t2
        obtain ⟨x3, e3, _, _⟩ := DataW.trod_int i3 t3
        obtain ⟨x4, e4, _⟩ := DataW.trod_bool i4 t4
        obtain ⟨x5, e5, _⟩ := DataW.trod_bool i4 t5
        simp only [List.cons.injEq, and_true] at e0 e1 e2 e3 e4 e5
        subst e0 e1 e2 e3 e4 e5
        exact ⟨(x0, x1, x2, x3, x4, x5), k0, k1, k2, k3, k4, k5⟩
      obtain ⟨q, hq⟩ := choose_lt each
      obtain ⟨b, off, spot⟩ := a
      obtain ⟨hlt, hs⟩ := cell_lt (hq 0 (by omega)).1
      obtain rfl : spot = none := hs
      have hblt : b < W.heap.size := hlt
      have hm2 : len ≤ 9223372036854775807 := by unfold maxLen at hm; omega
      refine few_some _ _ _ _ _ _ _ b off len cap W' (Nat.lt_of_lt_of_le hblt hb.size) hm2 (fun i => (q i).1) (fun i => (q i).2.2.2.1) (fun i => (q i).2.1) (fun i => (q i).2.2.1) (fun i => (q i).2.2.2.2.1) (fun i => (q i).2.2.2.2.2) fun k hk => ?_
      have c : ∀ o u, W.cell? ⟨b, o, none⟩ = some u → W'.cell? ⟨b, o, none⟩ = some u := fun o u hu => by rw [hb.cell (p := ⟨b, o, none⟩) hblt]; exact hu
      obtain ⟨q0, q1, q2, q3, q4, q5⟩ := hq k hk
      have ad : ∀ n, (⟨b, off, none⟩ : Addr).add n = ⟨b, off + n, none⟩ := fun n => by simp [Addr.add]
      simp only [ad, ← Nat.add_assoc] at q0 q1 q2 q3 q4 q5
      exact ⟨c _ _ q0, c _ _ q1, c _ _ q2, c _ _ q3, c _ _ q4, c _ _ q5⟩

set_option maxRecDepth 100000 in
theorem lifted (os : Os) (started : os.Started) (H : Type) (enc : TypeId × Value → H) :
    ReturnsInHanded {} Tryz.checked os 3 .any (fun w args => (Rows.clientWaitsSpec.pre enc Tryz.prog Tryz.f3 [] false w args ∧ laidMetH Tryz.prog Rows.clientWaitsRow.laid w) ∧ sizedMet enc Tryz.prog Tryz.f3 (OpenSpec.ofChange Rows.clientWaitsSpec) false w args)
      (Rows.clientWaitsSpec.post enc Tryz.prog Tryz.f3 false true false false) := by
  refine returnsInHanded_of_change_and (C := Tryz.checked) (X := fun w _ => laidMetH Tryz.prog Rows.clientWaitsRow.laid w) (fun _ _ _ hh h => h.of_heap hh) own started (by kernel_rfl) Tryz.func3
    (ChangeSpec.witness_shaped (enc := enc) (C := Tryz.checked) (os := os) (X := fun w _ => laidMetH Tryz.prog Rows.clientWaitsRow.laid w) false (World.laidAll Tryz.prog os Rows.clientWaitsRow.laid) #[.agg #[.int .i64 0, .int .i64 0, .int .i64 0, .int .i64 0, .slice none 0 0, .string ⟨#[]⟩, .bool false, .bool false], .agg #[.int .i64 0, .int .i64 0, .int .i64 0, .int .i64 0, .slice none 0 0, .string ⟨#[]⟩, .bool false, .bool false]] 8 (World.laidAll_os _ _ _)
      (World.shaped_of_ZipB (by kernel_rfl) (by kernel_rfl)) (by kernel_rfl) (by kernel_rfl) (by kernel_rfl)
      (by rw [MakeChecks.laidMetH_plain _ _ _ (by kernel_rfl)]; exact laidMet_laidAll _ (by kernel_rfl) (by kernel_rfl))) ?_
  intro W base args ds gs before hval0 hW hc _ hL _
  have hval : ∀ (j : Nat) t v, Tryz.f3.params[j]? = some t → args[j]? = some v → Value.okWide Tryz.prog W .any base t v := hval0
  have hW' := hW
  obtain ⟨p, q, hA0, hV, rfl, _, _⟩ := hW
  have hA : DataW.TrodAll enc Tryz.prog W 0 (fun _ => true) true Tryz.f3.params.toList args.toList ds p := hA0
  rw [Tryz.params3] at hA hval
  obtain ⟨v0, v1, d0, d1, p0, p1, rfl, rfl, rfl, h0, h1⟩ := trodAll_two hA
  obtain ⟨rfl, rfl⟩ := trodVars_none hV
  simp only [List.append_nil] at hW'
  obtain ⟨a0, a1, a2, a3, a4, a5, a6, a7, rfl, ha, F0⟩ := few_trod (hval 0 25 v0 rfl rfl) h0
  obtain ⟨b0, b1, b2, b3, b4, b5, b6, b7, rfl, hb, F1⟩ := few_trod (hval 1 25 v1 rfl rfl) h1
  have hq : ∀ i, (∀ cs, [a0, a1, a2, a3, a4, a5, a6, a7, b0, b1, b2, b3, b4, b5, b6, b7].getD i (.bool false) ≠ .agg cs) ∧ (∀ cs, [a0, a1, a2, a3, a4, a5, a6, a7, b0, b1, b2, b3, b4, b5, b6, b7].getD i (.bool false) ≠ .tuple cs) := by
    intro i
    rw [List.getD]
    cases hg : [a0, a1, a2, a3, a4, a5, a6, a7, b0, b1, b2, b3, b4, b5, b6, b7][i]? with
    | none => simp
    | some x =>
      have hx := List.mem_of_getElem? hg
      rcases List.mem_append.1 (show x ∈ [a0, a1, a2, a3, a4, a5, a6, a7] ++ [b0, b1, b2, b3, b4, b5, b6, b7] from hx) with h | h
      · exact ha x h
      · exact hb x h
  refine Calls.mono (Go.Ax.law_any W (fun i => [a0, a1, a2, a3, a4, a5, a6, a7, b0, b1, b2, b3, b4, b5, b6, b7].getD i (.bool false)) hq F0 F1) ?_
  rintro e W' ⟨rfl, hbel⟩
  have hlt := hW'.lt
  refine ⟨_, rfl, post_of_below (pa := p0 ++ p1) (pv := []) hW' (fun _ _ _ => trodAll_mk1 (shut_bool Tryz.underlying4 _)) (fun sp hsp => ?_) (fun _ _ => rfl) (by simp) hbel (ok_one (by kernel_rfl) rfl (okWide_bool_mk Tryz.underlying4 _))⟩
  have r25 : Tryz.prog.readableRec 25 = true := by kernel_rfl
  have s25 : 25 < Tryz.prog.types.size := of_decide_eq_true (by kernel_rfl)
  exact trodAll_mk2 (WideElems.Trod_stays laidOut r25 s25 h0 (fun x hx => hbel.same (hlt x (List.mem_append_left _ hx))) (fun x hx => hsp x (List.mem_append_left _ hx)))
    (WideElems.Trod_stays laidOut r25 s25 h1 (fun x hx => hbel.same (hlt x (List.mem_append_right _ hx))) (fun x hx => hsp x (List.mem_append_right _ hx)))

theorem waits_holds : Rows.ClientWaitsSaid :=
  OpenClaim.holds_of_wide 3 Tryz.f3 rfl rfl rfl rfl rfl rfl rfl ⟨rfl, rfl, rfl, rfl, rfl⟩ rfl rfl rfl rfl rfl named3 Tryz.func3 joined inst3 wrap3
    (fun os started H enc _ => lifted os started H enc)
theorem waits_card_holds : Rows.ClientWaitsCardSaid :=
  Claim7.holds_tied_plain_at .later [] [.data, .data, .data, .data, .pinned] true (true, "c6b065f8db283882932f93481fbcb88079ed92406ba4892aaab8a0a8f79d5b08") true waits_holds (fun _ h => by cases h) (by as_aux_lemma => kernel_rfl) (fun _ h => by cases h) clientWaits_row_tie rfl ⟨rfl, rfl⟩ (by as_aux_lemma => kernel_rfl) rfl
    (fun f fn hf hfn => by
      obtain rfl : f = 3 := Option.some.inj ((show Tryz.prog.funcNamed "orchard/orchardlaw18.ClientWaits" = some 3 by kernel_rfl).symm.trans hf) |>.symm
      obtain rfl : fn = Tryz.f3 := (Option.some.inj (Tryz.func3.symm.trans hfn)).symm
      exact ⟨by as_aux_lemma => kernel_rfl, fun j t ht => by
        rw [Tryz.params3] at ht
        have hm : t ∈ [25, 25] := by simpa using Array.mem_of_getElem? ht
        have hall : ([25, 25].all fun u => !Tryz.prog.wantsStandIn u) = true := by kernel_rfl
        exact (show Tryz.prog.wantsStandIn t = false by simpa using List.all_eq_true.1 hall t hm)⟩)
    (by as_aux_lemma => kernel_rfl)
#print axioms waits_card_holds
end Go.Proofs.YtgooflapblbjnaaGreatDoor
