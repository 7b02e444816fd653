/- An abstract executor, staged, fourth part: code, and what it says. -/
import Derived.Test.YtapkhldfbdcblaaGreatDoorAxGo3
set_option linter.unusedSectionVars false
set_option linter.unnecessarySimpa false
set_option linter.unusedSimpArgs false
set_option linter.unusedVariables false
namespace Go.Ax
noncomputable section
variable {P : Program}

abbrev CB := Rec → Option Pos → PM AV → AH → List Pos → KC → Bool
def cxK (x : CX) (a : Bool) (b : Nat → Bool) (c : Bool) : Bool := CX.rec (motive := fun _ => Bool) a b c x
def loopJ (c : CB) (rec : Rec) (r : Option Pos) (k : KC) (j : Nat) : PM AV → AH → List Pos → Bool :=
  Nat.rec (motive := fun _ => PM AV → AH → List Pos → Bool) (fun _ _ _ => false) (fun _ ih T h m => c rec r T h m fun x T h m => cxK x (ih T h m) (fun id => k (.exit id) T h m) (k .ret T h m)) j
@[irreducible] def loopMax : Nat := 1000000
def codeB (P : Program) (hk : Hook) (n : Nat) (c : Code) : Box CB :=
  Code.rec (motive := fun _ => Box CB)
    ⟨fun _ _ T h m k => k .normal T h m⟩
    (fun _ ops draw => ⟨fun rec _ T h m k => (regB P hk n ops draw).f rec T h fun T h => k .normal T h m⟩)
    (fun _ _ a b => ⟨fun rec r T h m k => a.f rec r T h m fun x T h m => cxK x (b.f rec r T h m k) (fun id => k (.exit id) T h m) (k .ret T h m)⟩)
    (fun c _ _ a b => ⟨fun rec r T h m k => obB ((evB c).f T) fun v => boolK v fun t => Bool.rec (motive := fun _ => Bool) (b.f rec r T h m k) (a.f rec r T h m k) t⟩)
    (fun id _ c => ⟨fun rec r T h m k => c.f rec r T h m (blockK id k)⟩)
    (fun _ c => ⟨fun rec r T h m k => loopJ c.f rec r k loopMax T h m⟩)
    (fun f ps a b _ _ => ⟨fun rec r T h m k => rangeK P hk rec ⟨n, r⟩ r ((evB f).f T) ps a b T h m k⟩)
    (fun id => ⟨fun _ _ T h m k => k (.exit id) T h m⟩)
    (fun _ c => ⟨fun rec r T h m k => c.f rec r T h m k⟩)
    (fun _ => ⟨fun _ _ T h m k => k .normal T h m⟩)
    (fun _ => ⟨fun _ _ _ _ _ _ => false⟩)
    ⟨fun _ _ T h m k => k .ret T h m⟩
    (fun _ => ⟨fun _ _ _ _ _ _ => false⟩) c
def runS (P : Program) (hk : Hook) (d : Nat) : Rec :=
  Nat.rec (motive := fun _ => Rec) (fun _ _ _ _ _ _ => false) (fun _ ih ctx c T h m k => fLit ctx.n fun n => (codeB P hk n c).f ih ctx.round T h m k) d
def runB (P : Program) (hk : Hook) (d : Nat) (f : FuncId) (args : List AV) (h : AH) (k : AV → AH → Bool) : Bool := callK P hk (runS P hk d) f args h k

theorem cxK_eq {x : CX} {a c : Bool} {b : Nat → Bool} : cxK x a b c = match x with | .normal => a | .exit id => b id | .ret => c := by cases x <;> rfl

theorem rangeK_ok {hk : Hook} {rec : Rec} (hh : HookOK P hk) (hg : Good P rec) (ctx : Ctx) {g : Operand} {ps : Array Tmp} {assign body : Code} {T : PM AV} {h : AH} {m : List Pos} {k : KC} (e : rangeK P hk rec ctx ctx.round (evA T g) ps assign body T h m k = true) :
    ∃ x T' h' m', k x T' h' m' = true ∧ SoundC P ctx (.rangeFunc g ps assign body) T h m x T' h' m' := by
  unfold rangeK at e
  split at e
  · rename_i f va vc hround hf
    rw [pushK_eq, pushK_eq] at e
    obtain ⟨v, h3, e1, ⟨fn, fbody, hfn, hname, hfb⟩, sf⟩ := callK_ok hh hg e
    unfold endLoopK at e1
    split at e1
    · rename_i l hl
      have hl := loopAt_ok hl
      have fin : ∀ (x : CX), l.state ≠ .busy → (∀ (F : Fence) nn (Q : Exit → Act → World → Prop) (a : Act) (w : World), Q x.toExit a w → match l.pending with | none => Q .normal a w | some c => c.wpIn F nn P Q a w) →
          k x T (h3.set (h.push .deferred).nx (.loop { l with state := .exhausted, pending := l.pending })) (h.nx :: m) = true → ∃ x T' h' m', k x T' h' m' = true ∧ SoundC P ctx (.rangeFunc g ps assign body) T h m x T' h' m' := by
        intro x hst hx ek
        refine ⟨x, T, _, _, ek, fun E ρ nn a w Q r t hr d kQ => ?_⟩
        rw [hround] at r
        have hρ : ρ = none := r
        subst hρ
        obtain ⟨hr1, f1⟩ := hr.push (o := .deferred) (O := .deferred (some [])) (N := 0) ⟨rfl, rfl⟩
        have hD : (E.set h.nx (w.heap.size, 0, 0)).blk h.nx = some (w.heap.size, 0, 0) := by simp [Env.set]
        have hv := evA_rel hf t
        simp only [VRel] at hv
        obtain ⟨ua, uc, hev, hua, huc⟩ := hv
        refine wpIn_rangeFunc fun fn' _ => ?_
        obtain ⟨hr2, f2⟩ := hr1.push (o := .loop { state := .ready, pending := none, T, n := ctx.n, params := ps, assign, body, defers := h.nx })
          (O := .loop { state := .ready, pending := none, fn := fn', tmps := a.tmps, params := ps, assign, body, defers := w.heap.size }) (N := 0)
          ⟨rfl, fn', a.tmps, w.heap.size, 0, hD, t.mono f1.le, rfl⟩
        have hL : ((E.set h.nx (w.heap.size, 0, 0)).set (h.push .deferred).nx ((w.heap.push (.deferred (some []))).size, 0, 0)).blk (h.push .deferred).nx = some (w.heap.size + 1, 0, 0) := by simp [Env.set]
        have hname' : ¬ fn.name = "runtime.NumGoroutine" := by simpa using hname
        refine ⟨w.heap.size + 1, [{ target := .collected w.heap.size, args := #[] }], _, { target := .fn (.func f) uc, args := ua ++ #[.func (.yield (w.heap.size + 1)) #[] #[]] }, ((w.alloc (.deferred (some []))).alloc (.loop { state := .ready, pending := none, fn := fn', tmps := a.tmps, params := ps, assign, body, defers := w.heap.size })), f, ua ++ #[.func (.yield (w.heap.size + 1)) #[] #[]] ++ uc, ((w.alloc (.deferred (some []))).alloc (.loop { state := .ready, pending := none, fn := fn', tmps := a.tmps, params := ps, assign, body, defers := w.heap.size })),
          run_enterLoop_outer fn' a.tmps ps assign body, ?_, fun _ _ => trivial, ?_, by simp [FW], ?_⟩
        · have hcst : ∀ v, a.eval (.const v) = v := fun _ => rfl
          simp [resolve, rangeCall, hev, Deferred.ofValue, hcst]
        · simp [invoke, callFunc, hfn, hname', hfb, Sem.run_bind, Result.andThen_ok]
        · have hus : ua ++ #[.func (.yield (w.heap.size + 1)) #[] #[]] ++ uc = (ua.toList ++ (Value.func (.yield (w.heap.size + 1)) #[] #[] :: uc.toList)).toArray := by
            apply Array.ext'; simp
          rw [hus]
          have hle := f1.le.trans f2.le
          refine sf _ _ _ _ _ ((VRelL.mono hle _ _ hua).append ?_) hr2 fun E3 u w3 f3 hr3 hv3 => ?_
          · simp only [VRelL, VRel]
            exact ⟨_, _, rfl, ⟨_, _, hL, rfl⟩, VRelL.mono hle _ _ huc⟩
          · have hL3 := f3.le.blk _ _ hL
            obtain ⟨r, g1, g2, g3, g4, g5, g6, g7, g8⟩ := hr3.loop hl hL3
            obtain ⟨hr4, f4⟩ := g8 .exhausted l.pending
            refine ⟨_, _, run_endLoop g1 (by rw [g2]; exact hst), ?_⟩
            have ftot := ((f1.trans f2).trans f3).trans f4
            have hq := kQ E3 { a with defers := [{ target := .collected w.heap.size, args := #[] }] ++ a.defers } _ ftot (t.mono ftot.le) hr4
              ⟨w.heap.size, 0, a.defers, rfl, (f2.trans f3).le.blk _ _ hD, d.mono ftot.le⟩
            have := hx (FW none) nn Q _ _ hq
            rw [g3]
            exact this
      have done : l.state ≠ .busy → ((match l.pending with
          | none => k .normal T (h3.set (h.push .deferred).nx (.loop { l with state := .exhausted, pending := l.pending })) (h.nx :: m)
          | some .ret => k .ret T (h3.set (h.push .deferred).nx (.loop { l with state := .exhausted, pending := l.pending })) (h.nx :: m)
          | some (.exit id) => k (.exit id) T (h3.set (h.push .deferred).nx (.loop { l with state := .exhausted, pending := l.pending })) (h.nx :: m)
          | _ => false) = true) → ∃ x T' h' m', k x T' h' m' = true ∧ SoundC P ctx (.rangeFunc g ps assign body) T h m x T' h' m' := by
        intro hst e2
        split at e2
        · rename_i hp; exact fin .normal hst (fun F nn Q a w q => by rw [hp]; exact q) e2
        · rename_i hp; exact fin .ret hst (fun F nn Q a w q => by rw [hp]; exact wpIn_ret q) e2
        · rename_i id hp; exact fin (.exit id) hst (fun F nn Q a w q => by rw [hp]; exact wpIn_exit q) e2
        · cases e2
      simp only [setK_eq] at e1
      cases hst : l.state with
      | busy => rw [hst] at e1; cases e1
      | ready => rw [hst] at e1; exact done (by rw [hst]; intro q; cases q) e1
      | done => rw [hst] at e1; exact done (by rw [hst]; intro q; cases q) e1
      | exhausted => rw [hst] at e1; exact done (by rw [hst]; intro q; cases q) e1
    · cases e1
  · cases e

theorem codeB_ok (hm : P.follows .mixedOrders = true) {hk : Hook} (hh : HookOK P hk) {rec : Rec} (hg : Good P rec) {n : Nat} (hn : n ≤ 1000000) (r : Option Pos) :
    ∀ (c : Code) (T : PM AV) (h : AH) (m : List Pos) (k : KC), (codeB P hk n c).f rec r T h m k = true → ∃ x T' h' m', k x T' h' m' = true ∧ SoundC P ⟨n, r⟩ c T h m x T' h' m' := by
  have hd : DrawOK P hk := drawOK hh
  have simple : ∀ {c : Code} {x : CX} {T : PM AV} {h : AH} {m : List Pos} {k : KC}, (∀ ρ nn Q a w, Q x.toExit a w → c.wpIn (FW ρ) nn P Q a w) → k x T h m = true → ∃ x T' h' m', k x T' h' m' = true ∧ SoundC P ⟨n, r⟩ c T h m x T' h' m' :=
    fun {c x T h m k} hw e => ⟨x, T, h, m, e, fun E ρ nn a w Q r t hr d kQ => hw ρ nn Q a w (kQ E a w .refl t hr d)⟩
  intro c
  induction c with
  | skip => intro T h m k e; exact simple (x := .normal) (fun ρ nn Q a w q => wpIn_skip q) e
  | label l => intro T h m k e; exact simple (x := .normal) (fun ρ nn Q a w q => wpIn_label q) e
  | exit id => intro T h m k e; exact simple (x := .exit id) (fun ρ nn Q a w q => wpIn_exit q) e
  | ret => intro T h m k e; exact simple (x := .ret) (fun ρ nn Q a w q => wpIn_ret q) e
  | goto l => intro T h m k e; cases e
  | refuse l => intro T h m k e; cases e
  | region id ops draw =>
    intro T h m k e
    change (regB P hk n ops draw).f rec T h (fun T h => k .normal T h m) = true at e
    rw [regB_eq] at e
    cases draw with
    | true =>
      simp only [cond_true] at e
      obtain ⟨T', h', e', s⟩ := hd rec hg n ops T h _ hn e
      refine ⟨.normal, T', h', m, e', fun E ρ nn a w Q r t hr d kQ => ?_⟩
      refine wpIn_region_any hm (s E ρ nn a _ Q t (hr.congr rfl) fun E' a' w' f t' hr' hd' => ?_)
      exact kQ E' a' w' f.drawn t' hr' (by rw [hd']; exact d.mono f.le)
    | false =>
      simp only [cond_false] at e
      obtain ⟨T', h', e', s⟩ := opsK_ok hh hg hn ops.toList 0 T h _ (fun j o hj => by simpa using hj) e
      refine ⟨.normal, T', h', m, e', fun E ρ nn a w Q r t hr d kQ => ?_⟩
      have := s E ρ nn a w Q t hr fun E' a' w' f t' hr' hd' => kQ E' a' w' f t' hr' (by rw [hd']; exact d.mono f.le)
      exact wpIn_region (by rw [List.range_eq_range']; simpa using this)
  | seq x y ihx ihy =>
    intro T h m k e
    obtain ⟨x1, T1, h1, m1, e1, s1⟩ := ihx T h m _ e
    rw [cxK_eq] at e1
    cases x1 with
    | normal =>
      obtain ⟨x2, T2, h2, m2, e2, s2⟩ := ihy T1 h1 m1 k e1
      refine ⟨x2, T2, h2, m2, e2, fun E ρ nn a w Q r t hr d kQ => ?_⟩
      exact wpIn_seq (s1 E ρ nn a w _ r t hr d fun E1 a1 w1 f1 t1 hr1 d1 => s2 E1 ρ nn a1 w1 Q (r.mono f1.le) t1 hr1 d1 fun E2 a2 w2 f2 t2 hr2 d2 => kQ E2 a2 w2 (f1.trans f2) t2 hr2 d2)
    | exit id => exact ⟨.exit id, T1, h1, m1, e1, fun E ρ nn a w Q r t hr d kQ => wpIn_seq (s1 E ρ nn a w _ r t hr d kQ)⟩
    | ret => exact ⟨.ret, T1, h1, m1, e1, fun E ρ nn a w Q r t hr d kQ => wpIn_seq (s1 E ρ nn a w _ r t hr d kQ)⟩
  | loop x ih =>
    intro T h m k e
    have key : ∀ (j : Nat) (T : PM AV) (h : AH) (m : List Pos), loopJ (codeB P hk n x).f rec r k j T h m = true → ∃ x' T' h' m', k x' T' h' m' = true ∧
        ∀ (E : Env) (ρ : Option Nat) (nn : Nat) (a : Act) (w : World) (Q : Exit → Act → World → Prop), RdRel E r ρ → TRel E n T a.tmps → HRel E h w → DRel E m a.defers →
          (∀ E' a' w', Fr E h w E' h' w' → TRel E' n T' a'.tmps → HRel E' h' w' → DRel E' m' a'.defers → Q x'.toExit a' w') → Code.roundsIn (FW ρ) nn P x Q j a w := by
      intro j
      induction j with
      | zero => intro T h m e; cases e
      | succ j ihj =>
        intro T h m e
        obtain ⟨x1, T1, h1, m1, e1, s1⟩ := ih T h m _ e
        rw [cxK_eq] at e1
        cases x1 with
        | normal =>
          obtain ⟨x2, T2, h2, m2, e2, s2⟩ := ihj T1 h1 m1 e1
          refine ⟨x2, T2, h2, m2, e2, fun E ρ nn a w Q r t hr d kQ => ?_⟩
          exact s1 E ρ nn a w _ r t hr d fun E1 a1 w1 f1 t1 hr1 d1 => s2 E1 ρ nn a1 w1 Q (r.mono f1.le) t1 hr1 d1 fun E2 a2 w2 f2 t2 hr2 d2 => kQ E2 a2 w2 (f1.trans f2) t2 hr2 d2
        | exit id => exact ⟨.exit id, T1, h1, m1, e1, fun E ρ nn a w Q r t hr d kQ => s1 E ρ nn a w _ r t hr d kQ⟩
        | ret => exact ⟨.ret, T1, h1, m1, e1, fun E ρ nn a w Q r t hr d kQ => s1 E ρ nn a w _ r t hr d kQ⟩
    obtain ⟨x2, T2, h2, m2, e2, s2⟩ := key loopMax T h m e
    exact ⟨x2, T2, h2, m2, e2, fun E ρ nn a w Q r t hr d kQ => wpIn_loop_rounds loopMax (s2 E ρ nn a w Q r t hr d kQ)⟩
  | cond o x y ihx ihy =>
    intro T h m k e
    change obB ((evB o).f T) (fun v => boolK v fun t => Bool.rec (motive := fun _ => Bool) ((codeB P hk n y).f rec r T h m k) ((codeB P hk n x).f rec r T h m k) t) = true at e
    rw [evB_eq] at e
    cases hv : evA T o with
    | none => rw [hv] at e; cases e
    | some v =>
      rw [hv, obB_some, boolK_eq] at e
      cases v <;> try (cases e; done)
      rename_i b
      cases b with
      | true =>
        obtain ⟨x1, T1, h1, m1, e1, s1⟩ := ihx T h m k e
        refine ⟨x1, T1, h1, m1, e1, fun E ρ nn a w Q r t hr d kQ => ?_⟩
        have hv := evA_rel hv t
        simp only [VRel] at hv
        exact wpIn_cond_true hv (s1 E ρ nn a w Q r t hr d kQ)
      | false =>
        obtain ⟨x1, T1, h1, m1, e1, s1⟩ := ihy T h m k e
        refine ⟨x1, T1, h1, m1, e1, fun E ρ nn a w Q r t hr d kQ => ?_⟩
        have hv := evA_rel hv t
        simp only [VRel] at hv
        exact wpIn_cond_false hv (s1 E ρ nn a w Q r t hr d kQ)
  | block id x ih =>
    intro T h m k e
    obtain ⟨x1, T1, h1, m1, e1, s1⟩ := ih T h m _ e
    have fin : ∀ x2 : CX, k x2 T1 h1 m1 = true → (∀ (Q : Exit → Act → World → Prop) a w, Q x2.toExit a w → Exit.inBlock id Q x1.toExit a w) →
        ∃ z T' h' m', k z T' h' m' = true ∧ SoundC P ⟨n, r⟩ (.block id x) T h m z T' h' m' := by
      intro x2 e2 hq
      exact ⟨x2, T1, h1, m1, e2, fun E ρ nn a w Q r t hr d kQ => wpIn_block (s1 E ρ nn a w _ r t hr d fun E1 a1 w1 f1 t1 hr1 d1 => hq Q a1 w1 (kQ E1 a1 w1 f1 t1 hr1 d1))⟩
    cases x1 with
    | normal => exact fin .normal e1 fun Q a w q => q
    | ret => exact fin .ret e1 fun Q a w q => q
    | exit id' =>
      simp only [blockK] at e1
      cases hb : Nat.beq id' id with
      | true =>
        rw [hb] at e1
        exact fin .normal e1 fun Q a w q => by simp only [CX.toExit, Exit.inBlock]; rw [if_pos (Nat.eq_of_beq_eq_true hb)]; exact q
      | false =>
        rw [hb] at e1
        exact fin (.exit id') e1 fun Q a w q => by simp only [CX.toExit, Exit.inBlock]; rw [if_neg (Nat.ne_of_beq_eq_false hb)]; exact q
  | scope x ih =>
    intro T h m k e
    obtain ⟨x1, T1, h1, m1, e1, s1⟩ := ih T h m _ e
    refine ⟨x1, T1, h1, m1, e1, fun E ρ nn a w Q r t hr d kQ => ?_⟩
    refine wpIn_scope_straight (s1 E ρ nn a w _ r t hr d fun E1 a1 w1 f1 t1 hr1 d1 => ?_)
    have := kQ E1 a1 w1 f1 t1 hr1 d1
    cases x1 <;> exact this
  | rangeFunc g ps assign body _ _ =>
    intro T h m k e
    change rangeK P hk rec ⟨n, r⟩ r ((evB g).f T) ps assign body T h m k = true at e
    rw [evB_eq] at e
    exact rangeK_ok hh hg ⟨n, r⟩ e

theorem runS_good (hm : P.follows .mixedOrders = true) {hk : Hook} (hh : HookOK P hk) : ∀ d, Good P (runS P hk d)
  | 0 => fun ctx c T h m k hn e => by cases e
  | d + 1 => fun ctx c T h m k hn e => codeB_ok hm hh (runS_good hm hh d) hn ctx.round c T h m k e
theorem runB_ok (hm : P.follows .mixedOrders = true) {hk : Hook} (hh : HookOK P hk) {d : Nat} {f : FuncId} {args : List AV} {h : AH} {k : AV → AH → Bool} (e : runB P hk d f args h k = true) :
    ∃ v h', k v h' = true ∧ Callable P f ∧ SoundF P f args h v h' := callK_ok hh (runS_good hm hh d) e
end
end Go.Ax
