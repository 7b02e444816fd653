/- An abstract executor, twentieth part: code is as the executor says; the executor is sound. -/
import Derived.Test.YtapkhldfbdcblaaGreatDoorAxSnd3
set_option linter.unusedSectionVars false
set_option linter.unnecessarySimpa false
set_option linter.unusedSimpArgs false
set_option linter.unusedVariables false
namespace Go.Ax
noncomputable section
variable {P : Program}

/-- A region that draws its order does as is said. -/
def SoundD (P : Program) (n : Nat) (ops : Array Oper) (T : PM AV) (h : AH) (T' : PM AV) (h' : AH) : Prop :=
  ∀ (E : Env) (ρ : Option Nat) (nn : Nat) (a : Act) (w : World) (Q : Exit → Act → World → Prop), TRel E n T a.tmps → HRel E h w →
    (∀ E' a' w', Fr E h w E' h' w' → TRel E' n T' a'.tmps → HRel E' h' w' → a'.defers = a.defers → Q .normal a' w') →
    wpAnyIn (FW ρ) nn P .any ops Q ops.size (Array.replicate ops.size false) a w
def DrawOK (P : Program) (hk : Hook) : Prop := ∀ rec, Good P rec → ∀ (n : Nat) (ops : Array Oper) (T : PM AV) (h : AH) (k : PM AV → AH → Bool), n ≤ 1000000 → drawK P hk rec n ops T h k = true →
  ∃ T' h', k T' h' = true ∧ SoundD P n ops T h T' h'

theorem wpIn_scope_straight {F : Fence} {n : Nat} {c : Code} {Q : Exit → Act → World → Prop} {a : Act} {w : World} (h : c.wpIn F n P (Exit.noGoto Q) a w) : (Code.scope c).wpIn F n P Q a w := by
  intro b k cs hro hb hr
  have h0 : (lone (b.atR a (.code (.scope c) :: k)) cs w).fenced P F := fenced_calm hb hr rfl
  have s0 : step P (lone (b.atR a (.code (.scope c) :: k)) cs w) = .next (lone (b.atR a (.code c :: .inScope c :: k)) cs w) := step_lone_go (by simp [stepG, stepG.exec, Frame.atR])
  have s1 : ∀ a w, step P (lone (b.atR a (.inScope c :: k)) cs w) = .next (lone (b.atR a k) cs w) := fun a w => step_lone_go (by simp [stepG, stepG.exec, Frame.atR])
  obtain ⟨e, a₁, w₁, hq, harr⟩ := h b (.inScope c :: k) cs hro hb hr
  cases e with
  | normal => exact ⟨.normal, a₁, w₁, hq, .head h0 s0 (StepsIn.trans harr (.one (fenced_calm hb hr rfl) (s1 _ _)))⟩
  | exit id =>
    have hx : exitTo id (.inScope c :: k) = exitTo id k := by simp [exitTo]
    exact ⟨_, a₁, w₁, hq, fun k' hk => .head h0 s0 (harr.1 k' (by rw [hx]; exact hk)),
      fun hr' hk => let ⟨k₁, h1, h2⟩ := harr.2 hr' (by rw [hx]; exact hk); ⟨k₁, h1, .head h0 s0 h2⟩⟩
  | goto l => exact hq.elim
  | ret => exact ⟨_, a₁, w₁, hq, .of_steps (.one h0 s0) harr⟩
  | panic ch => exact ⟨_, a₁, w₁, hq, .of_steps (.one h0 s0) harr⟩
  | outgrown => exact ⟨_, a₁, w₁, hq, .of_steps (.one h0 s0) harr⟩

theorem Fr.drawn {E E' : Env} {h h' : AH} {w w' : World} {d : Nat} (f : Fr E h { w with drawn := d } E' h' w') : Fr E h w E' h' w' :=
  ⟨f.le, f.old, f.nx, f.size, f.os, f.tape, f.output, f.rest, f.own⟩

theorem thenK_ok {j : Nat} {rec : Rec} (hg : GoodJ j P rec) {ctx : Ctx} (hn : ctx.n ≤ 1000000) {b : Code} {k : KC} {x : CX} {T : PM AV} {h : AH} {m : List Pos} (e : thenK rec ctx b k x T h m = true) :
    ∃ x' T' h' m', k x' T' h' m' = true ∧ ∀ (E : Env) (ρ : Option Nat) (nn : Nat) (a : Act) (w : World) (Q : Exit → Act → World → Prop), RdRel E ctx.round ρ → TRel E ctx.n T a.tmps → HRel E h w → DRel E m a.defers →
      (∀ E' a' w', Fr E h w E' h' w' → TRel E' ctx.n T' a'.tmps → HRel E' h' w' → DRel E' m' a'.defers → Q x'.toExit a' w') → Exit.then (fun a w => WpJ j (FW ρ) nn P Q a w b) Q x.toExit a w := by
  cases x with
  | normal =>
    obtain ⟨x', T', h', m', e', s⟩ := hg ctx b T h m k hn e
    exact ⟨x', T', h', m', e', s⟩
  | exit id => exact ⟨.exit id, T, h, m, e, fun E ρ nn a w Q r t hr d kQ => kQ E a w .refl t hr d⟩
  | ret => exact ⟨.ret, T, h, m, e, fun E ρ nn a w Q r t hr d kQ => kQ E a w .refl t hr d⟩

theorem Exit.then_mono {K K' : Act → World → Prop} {Q : Exit → Act → World → Prop} (h : ∀ a w, K a w → K' a w) {e : Exit} {a : Act} {w : World} (x : Exit.then K Q e a w) : Exit.then K' Q e a w := by
  cases e <;> first | exact h _ _ x | exact x

theorem stepC_ok (hm : P.follows .mixedOrders = true) {hk : Hook} (hh : HookOK P hk) (hd : DrawOK P hk) {j : Nat} {rec : Rec} (hg : GoodJ j P rec) : GoodJ (j + 1) P (stepC P hk rec) := by
  intro ctx c T h m k hn e
  have simple : ∀ {c : Code} {x : CX}, (∀ ρ nn Q a w, Q x.toExit a w → WpJ (j + 1) (FW ρ) nn P Q a w c) → k x T h m = true → ∃ x T' h' m', k x T' h' m' = true ∧ SoundJ (j + 1) P ctx c T h m x T' h' m' :=
    fun {c x} hw e => ⟨x, T, h, m, e, fun E ρ nn a w Q r t hr d kQ => hw ρ nn Q a w (kQ E a w .refl t hr d)⟩
  unfold stepC at e
  cases c with
  | skip => exact simple (x := .normal) (fun ρ nn Q a w q => wpIn_skip q) e
  | label l => exact simple (x := .normal) (fun ρ nn Q a w q => wpIn_label q) e
  | exit id => exact simple (x := .exit id) (fun ρ nn Q a w q => wpIn_exit q) e
  | ret => exact simple (x := .ret) (fun ρ nn Q a w q => wpIn_ret q) e
  | goto l => cases e
  | refuse r => cases e
  | region id ops draw =>
    simp only [codeF, cRegion] at e
    cases draw with
    | true =>
      simp only [cond_true] at e
      obtain ⟨T', h', e', s⟩ := hd rec hg.good ctx.n ops T h _ hn e
      refine ⟨.normal, T', h', m, e', fun E ρ nn a w Q r t hr d kQ => ?_⟩
      refine wpIn_region_any hm (s E ρ nn a _ Q t (hr.congr rfl) fun E' a' w' f t' hr' hd' => ?_)
      exact kQ E' a' w' f.drawn t' hr' (by rw [hd']; exact d.mono f.le)
    | false =>
      simp only [cond_false] at e
      obtain ⟨T', h', e', s⟩ := opsK_ok hh hg.good hn ops.toList 0 T h _ (fun j o hj => by simpa using hj) e
      refine ⟨.normal, T', h', m, e', fun E ρ nn a w Q r t hr d kQ => ?_⟩
      have := s E ρ nn a w Q t hr fun E' a' w' f t' hr' hd' => kQ E' a' w' f t' hr' (by rw [hd']; exact d.mono f.le)
      exact wpIn_region (by rw [List.range_eq_range']; simpa using this)
  | seq x y =>
    simp only [codeF, cSeq] at e
    obtain ⟨x1, T1, h1, m1, e1, s1⟩ := hg ctx x T h m _ hn e
    obtain ⟨x2, T2, h2, m2, e2, s2⟩ := thenK_ok hg hn e1
    refine ⟨x2, T2, h2, m2, e2, fun E ρ nn a w Q r t hr d kQ => ?_⟩
    refine wpIn_seq (s1.c E ρ nn a w _ r t hr d fun E1 a1 w1 f1 t1 hr1 d1 => ?_)
    exact Exit.then_mono (fun _ _ q => q.wp) (s2 E1 ρ nn a1 w1 Q (r.mono f1.le) t1 hr1 d1 fun E2 a2 w2 f2 t2 hr2 d2 => kQ E2 a2 w2 (f1.trans f2) t2 hr2 d2)
  | loop x =>
    simp only [codeF, cLoop] at e
    obtain ⟨x1, T1, h1, m1, e1, s1⟩ := hg ctx x T h m _ hn e
    obtain ⟨x2, T2, h2, m2, e2, s2⟩ := thenK_ok hg hn e1
    refine ⟨x2, T2, h2, m2, e2, fun E ρ nn a w Q r t hr d kQ => ?_⟩
    refine s1.c E ρ nn a w _ r t hr d fun E1 a1 w1 f1 t1 hr1 d1 => ?_
    exact s2 E1 ρ nn a1 w1 Q (r.mono f1.le) t1 hr1 d1 fun E2 a2 w2 f2 t2 hr2 d2 => kQ E2 a2 w2 (f1.trans f2) t2 hr2 d2
  | cond o x y =>
    simp only [codeF, cCond, condK] at e
    split at e
    · rename_i b hb
      cases b with
      | true =>
        obtain ⟨x1, T1, h1, m1, e1, s1⟩ := hg ctx x T h m _ hn e
        refine ⟨x1, T1, h1, m1, e1, fun E ρ nn a w Q r t hr d kQ => ?_⟩
        have hv := evA_rel hb t
        simp only [VRel] at hv
        exact wpIn_cond_true hv (s1.c E ρ nn a w Q r t hr d kQ)
      | false =>
        obtain ⟨x1, T1, h1, m1, e1, s1⟩ := hg ctx y T h m _ hn e
        refine ⟨x1, T1, h1, m1, e1, fun E ρ nn a w Q r t hr d kQ => ?_⟩
        have hv := evA_rel hb t
        simp only [VRel] at hv
        exact wpIn_cond_false hv (s1.c E ρ nn a w Q r t hr d kQ)
    · cases e
  | block id x =>
    simp only [codeF, cBlock] at e
    obtain ⟨x1, T1, h1, m1, e1, s1⟩ := hg ctx x T h m _ hn e
    have fin : ∀ x2 : CX, k x2 T1 h1 m1 = true → (∀ (Q : Exit → Act → World → Prop) a w, Q x2.toExit a w → Exit.inBlock id Q x1.toExit a w) →
        ∃ z T' h' m', k z T' h' m' = true ∧ SoundJ (j + 1) P ctx (.block id x) T h m z T' h' m' := by
      intro x2 e2 hq
      exact ⟨x2, T1, h1, m1, e2, fun E ρ nn a w Q r t hr d kQ => wpIn_block (s1.c E ρ nn a w _ r t hr d fun E1 a1 w1 f1 t1 hr1 d1 => hq Q a1 w1 (kQ E1 a1 w1 f1 t1 hr1 d1))⟩
    cases x1 with
    | normal => exact fin .normal e1 fun Q a w q => q
    | ret => exact fin .ret e1 fun Q a w q => q
    | exit id' =>
      simp only [blockK] at e1
      cases hb : Nat.beq id' id with
      | true =>
        rw [hb] at e1
        exact fin .normal e1 fun Q a w q => by simp only [CX.toExit, Exit.inBlock]; rw [if_pos (Nat.eq_of_beq_eq_true hb)]; exact q
      | false =>
        rw [hb] at e1
        exact fin (.exit id') e1 fun Q a w q => by simp only [CX.toExit, Exit.inBlock]; rw [if_neg (Nat.ne_of_beq_eq_false hb)]; exact q
  | scope x =>
    simp only [codeF, cScope] at e
    obtain ⟨x1, T1, h1, m1, e1, s1⟩ := hg ctx x T h m _ hn e
    refine ⟨x1, T1, h1, m1, e1, fun E ρ nn a w Q r t hr d kQ => ?_⟩
    refine wpIn_scope_straight (s1.c E ρ nn a w _ r t hr d fun E1 a1 w1 f1 t1 hr1 d1 => ?_)
    have := kQ E1 a1 w1 f1 t1 hr1 d1
    cases x1 <;> exact this
  | rangeFunc g ps assign body =>
    simp only [codeF, cRange] at e
    unfold rangeK at e
    split at e
    · rename_i f va vc hround hf
      rw [pushK_eq, pushK_eq] at e
      obtain ⟨v, h3, e1, ⟨fn, fbody, hfn, hname, hfb⟩, sf⟩ := callK_ok hh hg.good e
      unfold endLoopK at e1
      split at e1
      · rename_i l hl
        have hl := loopAt_ok hl
        have fin : ∀ (x : CX), l.state ≠ .busy → (∀ (F : Fence) nn (Q : Exit → Act → World → Prop) (a : Act) (w : World), Q x.toExit a w → match l.pending with | none => Q .normal a w | some c => c.wpIn F nn P Q a w) →
            k x T (h3.set (h.push .deferred).nx (.loop { l with state := .exhausted, pending := l.pending })) (h.nx :: m) = true → ∃ x T' h' m', k x T' h' m' = true ∧ SoundJ (j + 1) P ctx (.rangeFunc g ps assign body) T h m x T' h' m' := by
          intro x hst hx ek
          refine ⟨x, T, _, _, ek, fun E ρ nn a w Q r t hr d kQ => ?_⟩
          rw [hround] at r
          have hρ : ρ = none := r
          subst hρ
          obtain ⟨hr1, f1⟩ := hr.push (o := .deferred) (O := .deferred (some [])) (N := 0) ⟨rfl, rfl⟩
          have hD : (E.set h.nx (w.heap.size, 0, 0)).blk h.nx = some (w.heap.size, 0, 0) := by simp [Env.set]
          have hv := evA_rel hf t
          simp only [VRel] at hv
          obtain ⟨ua, uc, hev, hua, huc⟩ := hv
          refine wpIn_rangeFunc fun fn' _ => ?_
          obtain ⟨hr2, f2⟩ := hr1.push (o := .loop { state := .ready, pending := none, T, n := ctx.n, params := ps, assign, body, defers := h.nx })
            (O := .loop { state := .ready, pending := none, fn := fn', tmps := a.tmps, params := ps, assign, body, defers := w.heap.size }) (N := 0)
            ⟨rfl, fn', a.tmps, w.heap.size, 0, hD, t.mono f1.le, rfl⟩
          have hL : ((E.set h.nx (w.heap.size, 0, 0)).set (h.push .deferred).nx ((w.heap.push (.deferred (some []))).size, 0, 0)).blk (h.push .deferred).nx = some (w.heap.size + 1, 0, 0) := by simp [Env.set]
          have hname' : ¬ fn.name = "runtime.NumGoroutine" := by simpa using hname
          refine ⟨w.heap.size + 1, [{ target := .collected w.heap.size, args := #[] }], _, { target := .fn (.func f) uc, args := ua ++ #[.func (.yield (w.heap.size + 1)) #[] #[]] }, ((w.alloc (.deferred (some []))).alloc (.loop { state := .ready, pending := none, fn := fn', tmps := a.tmps, params := ps, assign, body, defers := w.heap.size })), f, ua ++ #[.func (.yield (w.heap.size + 1)) #[] #[]] ++ uc, ((w.alloc (.deferred (some []))).alloc (.loop { state := .ready, pending := none, fn := fn', tmps := a.tmps, params := ps, assign, body, defers := w.heap.size })),
            run_enterLoop_outer fn' a.tmps ps assign body, ?_, fun _ _ => trivial, ?_, by simp [FW], ?_⟩
          · have hcst : ∀ v, a.eval (.const v) = v := fun _ => rfl
            simp [resolve, rangeCall, hev, Deferred.ofValue, hcst]
          · simp [invoke, callFunc, hfn, hname', hfb, Sem.run_bind, Result.andThen_ok]
          · have hus : ua ++ #[.func (.yield (w.heap.size + 1)) #[] #[]] ++ uc = (ua.toList ++ (Value.func (.yield (w.heap.size + 1)) #[] #[] :: uc.toList)).toArray := by
              apply Array.ext'; simp
            rw [hus]
            have hle := f1.le.trans f2.le
            refine sf _ _ _ _ _ ((VRelL.mono hle _ _ hua).append ?_) hr2 fun E3 u w3 f3 hr3 hv3 => ?_
            · simp only [VRelL, VRel]
              exact ⟨_, _, rfl, ⟨_, _, hL, rfl⟩, VRelL.mono hle _ _ huc⟩
            · have hL3 := f3.le.blk _ _ hL
              obtain ⟨r, g1, g2, g3, g4, g5, g6, g7, g8⟩ := hr3.loop hl hL3
              obtain ⟨hr4, f4⟩ := g8 .exhausted l.pending
              refine ⟨_, _, run_endLoop g1 (by rw [g2]; exact hst), ?_⟩
              have ftot := ((f1.trans f2).trans f3).trans f4
              have hq := kQ E3 { a with defers := [{ target := .collected w.heap.size, args := #[] }] ++ a.defers } _ ftot (t.mono ftot.le) hr4
                ⟨w.heap.size, 0, a.defers, rfl, (f2.trans f3).le.blk _ _ hD, d.mono ftot.le⟩
              have := hx (FW none) nn Q _ _ hq
              rw [g3]
              exact this
        have done : l.state ≠ .busy → ((match l.pending with
            | none => k .normal T (h3.set (h.push .deferred).nx (.loop { l with state := .exhausted, pending := l.pending })) (h.nx :: m)
            | some .ret => k .ret T (h3.set (h.push .deferred).nx (.loop { l with state := .exhausted, pending := l.pending })) (h.nx :: m)
            | some (.exit id) => k (.exit id) T (h3.set (h.push .deferred).nx (.loop { l with state := .exhausted, pending := l.pending })) (h.nx :: m)
            | _ => false) = true) → ∃ x T' h' m', k x T' h' m' = true ∧ SoundJ (j + 1) P ctx (.rangeFunc g ps assign body) T h m x T' h' m' := by
          intro hst e2
          split at e2
          · rename_i hp; exact fin .normal hst (fun F nn Q a w q => by rw [hp]; exact q) e2
          · rename_i hp; exact fin .ret hst (fun F nn Q a w q => by rw [hp]; exact wpIn_ret q) e2
          · rename_i id hp; exact fin (.exit id) hst (fun F nn Q a w q => by rw [hp]; exact wpIn_exit q) e2
          · cases e2
        simp only [setK_eq] at e1
        cases hst : l.state with
        | busy => rw [hst] at e1; cases e1
        | ready => rw [hst] at e1; exact done (by rw [hst]; intro q; cases q) e1
        | done => rw [hst] at e1; exact done (by rw [hst]; intro q; cases q) e1
        | exhausted => rw [hst] at e1; exact done (by rw [hst]; intro q; cases q) e1
      · cases e1
    · cases e

theorem exec_ok (hm : P.follows .mixedOrders = true) {hk : Hook} (hh : HookOK P hk) (hd : DrawOK P hk) : ∀ fuel, GoodJ fuel P (exec P hk fuel)
  | 0 => fun ctx c T h m k hn e => by cases e
  | fuel + 1 => stepC_ok hm hh hd (exec_ok hm hh hd fuel)
end
end Go.Ax
