/- An abstract executor, eighteenth part: calls, rounds and lists of operations are as the executor says. -/
import Derived.Laws.Externs
import Derived.MapKept
import GoSem.Extern.Table
import Derived.Test.YtapkhldfbdcblaaGreatDoorAxSnd2
import Derived.Scope
set_option linter.unusedSectionVars false
set_option linter.unnecessarySimpa false
set_option linter.unusedSimpArgs false
set_option linter.unusedVariables false
namespace Go.Ax
noncomputable section
variable {P : Program}

/-! code by its kind: a loop by its rounds -/
def WpJ (j : Nat) (F : Fence) (n : Nat) (P : Program) (Q : Exit → Act → World → Prop) (a : Act) (w : World) : Code → Prop
  | .loop c => Code.roundsIn F n P c Q j a w
  | c => c.wpIn F n P Q a w
theorem WpJ.wp {j : Nat} {F : Fence} {n : Nat} {Q : Exit → Act → World → Prop} {a : Act} {w : World} {c : Code} (h : WpJ j F n P Q a w c) : c.wpIn F n P Q a w := by
  cases c <;> first | exact h | exact wpIn_loop_rounds j h
def SoundJ (j : Nat) (P : Program) (ctx : Ctx) (c : Code) (T : PM AV) (h : AH) (m : List Pos) (x : CX) (T' : PM AV) (h' : AH) (m' : List Pos) : Prop :=
  ∀ (E : Env) (ρ : Option Nat) (nn : Nat) (a : Act) (w : World) (Q : Exit → Act → World → Prop), RdRel E ctx.round ρ → TRel E ctx.n T a.tmps → HRel E h w → DRel E m a.defers →
    (∀ E' a' w', Fr E h w E' h' w' → TRel E' ctx.n T' a'.tmps → HRel E' h' w' → DRel E' m' a'.defers → Q x.toExit a' w') → WpJ j (FW ρ) nn P Q a w c
theorem SoundJ.c {j : Nat} {ctx : Ctx} {c : Code} {T : PM AV} {h : AH} {m : List Pos} {x : CX} {T' : PM AV} {h' : AH} {m' : List Pos} (s : SoundJ j P ctx c T h m x T' h' m') : SoundC P ctx c T h m x T' h' m' :=
  fun E ρ nn a w Q r t hr d k => (s E ρ nn a w Q r t hr d k).wp
def GoodJ (j : Nat) (P : Program) (rec : Rec) : Prop :=
  ∀ (ctx : Ctx) (c : Code) (T : PM AV) (h : AH) (m : List Pos) (k : KC), ctx.n ≤ 1000000 → rec ctx c T h m k = true → ∃ x T' h' m', k x T' h' m' = true ∧ SoundJ j P ctx c T h m x T' h' m'
theorem GoodJ.good {j : Nat} {rec : Rec} (g : GoodJ j P rec) : Good P rec := fun ctx c T h m k hn e =>
  let ⟨x, T', h', m', e', s⟩ := g ctx c T h m k hn e
  ⟨x, T', h', m', e', s.c⟩

theorem CallsIn.turn {ρ : Option Nat} {nn : Nat} {f : FuncId} {us : Array Value} {w : World} {R : Ending → World → Prop} (h : CallsIn (FW none) nn P f us w R) : CallsIn (FW ρ) nn P f us w R := h
theorem RoundIn.turn {ρ : Option Nat} {nn : Nat} {l : Nat} {f : FuncId} {us : Array Value} {x y : Code} {w : World} {R : Ending → World → Prop} (h : RoundIn (FW none) nn P l f us x y w R) : RoundIn (FW ρ) nn P l f us x y w R := h

theorem TRel.start {E : Env} {n : Nat} {T : PM AV} {args : List AV} {us : List Value} (hn : args.length ≤ n) (hu : VRelL E args us)
    (hT : ∀ t, t < 2 ^ 62 → T.get (posOf t) = if 0 ≤ t ∧ t < 0 + args.length then args[t - 0]? else (PM.nil : PM AV).get (posOf t)) :
    TRel E n T (us.toArray ++ Array.replicate (n - us.toArray.size) undef) := by
  have hl := hu.length
  refine ⟨by simp; omega, fun t v ht hg => ?_⟩
  rw [hT t ht] at hg
  by_cases h1 : t < args.length
  · rw [if_pos ⟨Nat.zero_le _, by omega⟩] at hg
    obtain ⟨u, h2, h3⟩ := hu.get (i := t) (by simpa using hg)
    refine ⟨u, ?_, h3⟩
    rw [Array.getElem?_append_left (by simp; omega)]
    simpa using h2
  · rw [if_neg (by omega), PM.get_nil] at hg
    cases hg

/-! a function, called -/
theorem callK_ok {hk : Hook} {rec : Rec} (hh : HookOK P hk) (hg : Good P rec) {f : FuncId} {args : List AV} {h : AH} {k : AV → AH → Bool} (e : callK P hk rec f args h k = true) :
    ∃ v h', k v h' = true ∧ Callable P f ∧ SoundF P f args h v h' := by
  unfold callK at e
  rcases hh _ _ _ _ _ e with e | e
  · exact e
  · split at e
    · rename_i fn hf
      cases hname : (fn.name == "runtime.NumGoroutine") with
      | true => rw [hname] at e; cases e
      | false =>
        rw [hname] at e
        simp only [cond_false] at e
        split at e
        · rename_i c hb
          cases hle : (Nat.ble args.length fn.ntmps && Nat.ble fn.ntmps 1000000) with
          | false => rw [hle] at e; cases e
          | true =>
            rw [hle] at e
            simp only [cond_true] at e
            simp only [Bool.and_eq_true] at hle
            have hle1 := Nat.le_of_ble_eq_true hle.1
            have hle2 := Nat.le_of_ble_eq_true hle.2
            obtain ⟨T, e1, hT⟩ := argsK_ok args 0 .nil _ (by omega) e
            obtain ⟨x, T', h', m', e2, sc⟩ := hg ⟨fn.ntmps, none⟩ c T h [] _ hle2 e1
            have fin : ∀ {x : CX}, (x = .normal ∨ x = .ret) → SoundC P ⟨fn.ntmps, none⟩ c T h [] x T' h' m' → closeK m' h' (fun h => match resultA P h T' fn.results.toList with | some v => fVal v fun v => k v h | none => false) = true →
                ∃ v h', k v h' = true ∧ Callable P f ∧ SoundF P f args h v h' := by
              intro x hx sc e2
              obtain ⟨h'', e3, hcl⟩ := closeK_ok m' h' _ e2
              split at e3
              · rename_i v hv
                rw [fVal_eq] at e3
                refine ⟨v, h'', e3, ⟨fn, c, hf, hname, hb⟩, fun E nn w us R hu hr kR => ?_⟩
                refine callsIn_of_wp_marks (F := FW none) hf hb trivial (sc E none nn _ w _ rfl (TRel.start hle1 hu hT) hr rfl fun E' a' w' fr tr' hr' hd' => ?_) rfl
                have key : LeavesInM (FW none) nn P fn a'.tmps R a'.defers .returning w' := hcl E' w' a'.defers fn a'.tmps R nn hr' hd' fun w'' hr'' fr'' => by
                  obtain ⟨u, g1, g2⟩ := resultA_ok (w := w'') tr' hr'' hv
                  exact ⟨u, g1, kR E' u w'' (fr.trans fr'') hr'' g2⟩
                rcases hx with rfl | rfl
                · exact key
                · exact key
              · cases e3
            cases x with
            | exit id => cases e2
            | normal => exact fin (.inl rfl) sc e2
            | ret => exact fin (.inr rfl) sc e2
        · cases e
    · cases e

/-! the record of a range over a function -/
theorem loopAt_ok {h : AH} {b : Pos} {l : ALoop} (e : loopAt h b = some l) : h.m.get b = some (.loop l) := by
  unfold loopAt at e
  split at e
  · rename_i l' hl; simp at e; subst e; exact hl
  · cases e
theorem HRel.loop {E : Env} {h : AH} {w : World} (hr : HRel E h w) {b : Pos} {l : ALoop} (hb : h.m.get b = some (.loop l)) {B K : Nat} (hB : E.blk b = some (B, 0, K)) :
    ∃ r : Loop, w.heap[B]? = some (.loop r) ∧ r.state = l.state ∧ r.pending = l.pending ∧ r.params = l.params ∧ r.assign = l.assign ∧ r.body = l.body ∧ TRel E l.n l.T r.tmps ∧
      ∀ st pd, HRel E (h.set b (.loop { l with state := st, pending := pd })) (w.putObj B (.loop { r with state := st, pending := pd })) ∧
        Fr E h w E (h.set b (.loop { l with state := st, pending := pd })) (w.putObj B (.loop { r with state := st, pending := pd })) := by
  obtain ⟨B', sh, N, h1, h0, fn, tmps, D, K', h2, h3, h4⟩ := hr.obj b _ hb
  rw [hB] at h1
  obtain ⟨rfl, rfl, rfl⟩ : B = B' ∧ 0 = sh ∧ K = N := by simpa using h1
  refine ⟨_, h4, rfl, rfl, rfl, rfl, rfl, h3, fun st pd => ?_⟩
  refine hr.set (by unfold AH.live; rw [hb]; rfl) hB (by simp) (fun k hk => World.putObj_heap_other hk) rfl rfl rfl ?_
  rw [World.putObj_heap_same (hr.below _ _ _ _ hB)]
  exact ⟨rfl, fn, tmps, D, K', h2, h3, rfl⟩
theorem loop_blk {E : Env} {h : AH} {w : World} (hr : HRel E h w) {b : Pos} {l : ALoop} (hb : h.m.get b = some (.loop l)) : ∃ B K, E.blk b = some (B, 0, K) := by
  obtain ⟨B', sh, N, h1, h0, _⟩ := hr.obj b _ hb
  exact ⟨B', N, by rw [h1, h0]⟩

/-- A round does as is said. -/
def SoundR (P : Program) (b : Pos) (args : List AV) (h : AH) (v : AV) (h' : AH) : Prop :=
  ∀ (E : Env) (nn : Nat) (w : World) (us : List Value) (R : Ending → World → Prop) (B K : Nat), VRelL E args us → HRel E h w → E.blk b = some (B, 0, K) →
    (∀ E' u w', Fr E h w E' h' w' → HRel E' h' w' → VRel E' v u → R (.returned u) w') →
    ∃ r : Loop, w.heap[B]? = some (.loop r) ∧ us.length = r.params.size ∧
      RoundIn (FW none) nn P B r.fn ((r.params.zip us.toArray).foldl (fun tmps (t, a) => tmps.setIfInBounds t a) r.tmps) r.assign r.body w R

theorem roundK_ok {rec : Rec} (hg : Good P rec) {b : Pos} {args : List AV} {h : AH} {k : AV → AH → Bool} (e : roundK rec b args h k = true) : ∃ v h', k v h' = true ∧ SoundR P b args h v h' := by
  unfold roundK at e
  split at e
  · rename_i l hl
    have hl := loopAt_ok hl
    cases hln : Nat.ble l.n 1000000 with
    | false => rw [hln] at e; cases e
    | true =>
      rw [hln] at e
      simp only [cond_true] at e
      have hn := Nat.le_of_ble_eq_true hln
      obtain ⟨T, e1, hlen, hT⟩ := putArgsK_ok hn l.params.toList args l.T _ e
      obtain ⟨x, T1, h1, m1, e2, s1⟩ := hg ⟨l.n, some b⟩ l.assign T h [] _ hn e1
      split at e2
      · rename_i l1 hl1
        have hl1 := loopAt_ok hl1
        split at e2
        · rename_i hst
          rw [setK_eq] at e2
          obtain ⟨x2, T2, h2, m2, e3, s2⟩ := hg ⟨l.n, some b⟩ l.body T1 _ [] _ hn e2
          split at e3
          · rename_i l2 hl2
            have hl2 := loopAt_ok hl2
            have fin : ∀ (jump : Option Code) (st : LoopState), st = (if jump.isNone then .ready else .done) →
                (∀ (B : Nat) (R : Ending → World → Prop) (a : Act) (w : World), (∃ v w', (Instr.endRound B jump).run P w = .ok v w' ∧ R (.returned v) w') → roundPost P B R x2.toExit a w) →
                k (.bool jump.isNone) (h2.set b (.loop { l2 with state := st, pending := jump })) = true → ∃ v h', k v h' = true ∧ SoundR P b args h v h' := by
              intro jump st hst' hpost hk
              subst hst'
              refine ⟨_, _, hk, fun E nn w us R B K hu hr hB kR => ?_⟩
              obtain ⟨r, g1, g2, g3, g4, g5, g6, g7, g8⟩ := hr.loop hl hB
              have hlu := hu.length
              have hsz : us.length = r.params.size := by rw [hlu, hlen, g4]; simp
              refine ⟨r, g1, hsz, roundIn_of_wpIn (F := FW none) trivial ?_⟩
              have htr : TRel E l.n T ((r.params.zip us.toArray).foldl (fun tmps (t, a) => tmps.setIfInBounds t a) r.tmps) := by
                have := hT E r.tmps us g7 hu
                rw [← Array.foldl_toList, Array.toList_zip, g4]
                exact this
              rw [g5, g6]
              refine s1 E (some B) nn { tmps := _, defers := [] } w _ ⟨B, K, rfl, hB⟩ htr hr rfl fun E1 a1 w1 f1 tr1 hr1 hd1 => ?_
              have hB1 := f1.le.blk _ _ hB
              obtain ⟨r1, p1, p2, p3, p4, p5, p6, p7, p8⟩ := hr1.loop hl1 hB1
              obtain ⟨hr1', f1'⟩ := p8 .busy l1.pending
              refine ⟨_, run_beginRound p1 (by rw [p2]; exact hst), ?_⟩
              rw [show ({ r1 with state := .busy } : Loop) = { r1 with state := .busy, pending := l1.pending } from by rw [← p3]]
              refine s2 E1 (some B) nn a1 _ _ ⟨B, K, rfl, hB1⟩ tr1 hr1' hd1 fun E2 a2 w2 f2 tr2 hr2 hd2 => ?_
              have hB2 := f2.le.blk _ _ hB1
              obtain ⟨r2, q1, q2, q3, q4, q5, q6, q7, q8⟩ := hr2.loop hl2 hB2
              obtain ⟨hr2', f2'⟩ := q8 (if jump.isNone then .ready else .done) jump
              exact hpost B R a2 w2 ⟨_, _, run_endRound jump q1, kR E2 _ _ (((f1.trans f1').trans f2).trans f2') hr2' (by simp only [VRel])⟩
            cases x2 with
            | normal => simp only [setK_eq] at e3; exact fin none _ rfl (fun B R a w h => h) e3
            | ret => simp only [setK_eq] at e3; exact fin (some .ret) _ rfl (fun B R a w h => h) e3
            | exit id => simp only [setK_eq] at e3; exact fin (some (.exit id)) _ rfl (fun B R a w h => h) e3
          · cases e3
        · cases e2
      · cases e2
  · cases e

/-! a method, by an interface value -/
theorem run_wrapChk (w : World) (ts : Array TypeId) (t : TypeId) (a : Addr) (x y : String) : (Builtin.ssaWrapNilChk_ ts t #[.pointer (some a), strVal x, strVal y]).run P w = .ok (.pointer (some a)) w := rfl
theorem invokeA_run {E : Env} {n : Nat} {h : AH} {w : World} {T : PM AV} {a : Act} {c : Call} {f : FuncId} {as : List AV} (hr : HRel E h w) (tr : TRel E n T a.tmps) (e : invokeA P h T c = some (f, as)) :
    ∃ r name t v ru us, c.callee = .invoke r name ∧ a.eval r = .iface t v ∧ (∀ k, (method (k + 1) t v name).run P w = .ok (f, ru) w) ∧ us = ru :: c.args.toList.map a.eval ∧ VRelL E as us := by
  unfold invokeA at e
  split at e
  · rename_i r name hc
    split at e
    · rename_i t b o xs h1 h2
      have hv := evA_rel h1 tr
      simp only [VRel] at hv
      obtain ⟨y, hy, B, sh, N, hB, rfl⟩ := hv
      have hxs := evAs_rel tr h2
      have hm : ∀ {g : FuncId} {d : Option TypeId}, methA P t name = some (g, d) → ∃ (i : TypeInfo) (m : Method) (pr : Bool) (el : TypeId), P.info? t = some i ∧ i.methods.find? (·.name == name) = some m ∧ m.path.toList = [] ∧ m.func = some (g, pr) ∧ P.underlying t = some (.pointer el) ∧ d = (if pr then none else some el) := by
        intro g d hg
        unfold methA at hg
        split at hg
        · rename_i i hi
          split at hg
          · rename_i m hm
            split at hg
            · rename_i g' hp hf
              split at hg
              · rename_i el hu
                simp only [Option.some.injEq, Prod.mk.injEq] at hg
                obtain ⟨rfl, rfl⟩ := hg
                exact ⟨i, m, true, el, hi, hm, hp, hf, hu, rfl⟩
              · cases hg
            · rename_i g' hp hf
              split at hg
              · rename_i el hu
                simp only [Option.some.injEq, Prod.mk.injEq] at hg
                obtain ⟨rfl, rfl⟩ := hg
                exact ⟨i, m, false, el, hi, hm, hp, hf, hu, rfl⟩
              · cases hg
            · cases hg
          · cases hg
        · cases hg
      have hptr : VRel E (.ptr b o) (.pointer (some ⟨B, sh + o, none⟩)) := by simp only [VRel]; exact ⟨B, sh, N, hB, rfl⟩
      split at e
      · rename_i g hg
        simp only [Option.some.injEq, Prod.mk.injEq] at e
        obtain ⟨rfl, rfl⟩ := e
        obtain ⟨i, m, pr, el, hi, hmm, hp, hf, hu, hd⟩ := hm hg
        cases pr with
        | false => cases hd
        | true =>
          refine ⟨r, name, t, _, .pointer (some ⟨B, sh + o, none⟩), _, hc, hy, fun k => ?_, rfl, ?_⟩
          · unfold method
            simp [Sem.run_bind, run_typeInfo w hi, hmm, hp, follow, hf, receiverAt, run_underlying hu, Place.get]
          · simp only [VRelL]; exact ⟨_, _, rfl, hptr, hxs⟩
      · rename_i g el hg
        split at e
        · rename_i u hl
          simp only [Option.some.injEq, Prod.mk.injEq] at e
          obtain ⟨rfl, rfl⟩ := e
          obtain ⟨i, m, pr, el', hi, hmm, hp, hf, hu, hd⟩ := hm hg
          cases pr with
          | true => cases hd
          | false =>
            simp only [Bool.false_eq_true, if_false, Option.some.injEq] at hd
            subst hd
            obtain ⟨ru, g1, g2⟩ := loadA_run hr hptr hl
            refine ⟨r, name, t, _, ru, _, hc, hy, fun k => ?_, rfl, ?_⟩
            · have g1' : (loadVar el ⟨B, sh + o, none⟩).run P w = .ok ru w := by simpa [asAddr, Sem.run_bind] using g1
              have hpe : m.path = #[] := Array.toList_eq_nil_iff.1 hp
              unfold method
              simp [Sem.run_bind, run_typeInfo w hi, hmm, hp, follow, hf, receiverAt, run_underlying hu, Place.get, hpe, run_wrapChk, asAddr, g1']
            · simp only [VRelL]; exact ⟨_, _, rfl, g2, hxs⟩
        · cases e
      · cases e
    · cases e
  · cases e

/-! a map, copied -/
set_option maxRecDepth 100000 in
theorem lookNext : Extern.allNextRows.lookup "maps.clone" = none ∧ Extern.allNextRows.lookup "" = none := ⟨by kernel_rfl, by kernel_rfl⟩
set_option maxRecDepth 100000 in
theorem lookRows : Extern.allGenericRows.lookup "maps.clone" = none ∧ Extern.allTypedRows.lookup "maps.clone" = none ∧ Extern.allRows.lookup "maps.clone" = some Extern.MapsClone.clone := ⟨by kernel_rfl, by kernel_rfl, by kernel_rfl⟩
theorem externA_ok {f : FuncId} (e : externA P f = true) : ∃ fn, P.funcs[f]? = some fn ∧ (fn.name == "runtime.NumGoroutine") = false ∧ fn.body.isNone = true ∧ Extern.findNext fn = none ∧ Extern.find fn = some Extern.MapsClone.clone := by
  unfold externA at e
  split at e
  · rename_i fn hf
    split at e
    · rename_i hb
      simp only [Bool.and_eq_true, beq_iff_eq] at e
      refine ⟨fn, hf, by rw [e.1]; decide, by rw [hb]; rfl, ?_, ?_⟩
      · unfold Extern.findNext
        simp only [e.1, e.2, lookNext.1, lookNext.2]
        rfl
      · unfold Extern.find
        simp only [e.1, lookRows.1, lookRows.2.1, lookRows.2.2]
        rfl
    · cases e
  · cases e
theorem run_mapsClone {w : World} {r : Nat} {es : Array MapEntry} {clock : Nat} (t : TypeId) (hb : w.heap[r]? = some (.map es clock)) :
    (Extern.MapsClone.clone #[.iface t (.map (some r))]).run P w = .ok (.iface t (.map (some w.heap.size))) (w.alloc (.map es clock)) := by
  have e : Extern.MapsClone.clone #[.iface t (.map (some r))] = (getObj r >>= fun o => match o with
      | .map entries clock => (newObj (.map entries clock) >>= fun n => pure (.iface t (.map (some n))))
      | _ => stuck "maps.clone: a map expected") := rfl
  rw [e]
  simp [MapKept.run_getObj_map hb, Result.andThen, go_sem]

/-! a call within code -/
theorem callOpK_ok {hk : Hook} {rec : Rec} (hh : HookOK P hk) (hg : Good P rec) {o : Oper} {c : Call} (ho : o.op = .call c) {T : PM AV} {h : AH} {k : AV → AH → Bool} (e : callOpK P hk rec c T h k = true) :
    ∃ v h', k v h' = true ∧ ∀ n, SoundO P o n T h v h' := by
  unfold callOpK at e
  have callee : ∀ {fv as}, calleeA T c = some (fv, as) → ∀ (E : Env) (n : Nat) (a : Act), TRel E n T a.tmps → ∃ x, c.callee = .value x ∧ VRel E fv (a.eval x) ∧ VRelL E as (c.args.toList.map a.eval) := by
    intro fv as hc E n a tr
    unfold calleeA at hc
    split at hc
    · rename_i x hx
      split at hc
      · rename_i y ys h1 h2
        simp at hc
        obtain ⟨rfl, rfl⟩ := hc
        exact ⟨x, hx, evA_rel h1 tr, evAs_rel tr h2⟩
      · cases hc
    · cases hc
  split at e
  · rename_i f va vc as hc
    cases hx : externA P f with
    | true =>
      rw [hx, cond_true] at e
      unfold cloneK at e
      split at e
      · rename_i t b hargs
        split at e
        · rename_i es ck hb
          rw [pushK_eq] at e
          refine ⟨_, _, e, fun n E ρ nn a w next Q tr hr kN => ⟨fun _ _ => trivial, ?_⟩⟩
          obtain ⟨x, hx', hv, has⟩ := callee hc E n a tr
          simp only [VRel] at hv
          obtain ⟨ua, uc, hev, hua, huc⟩ := hv
          rw [Oper.semAt_eq _ _ _ (by intro d hd; rw [ho] at hd; cases hd)]
          obtain ⟨fn, hf, hname, hbn, hnext, hfind⟩ := externA_ok hx
          have hall := hua.append (has.append huc)
          rw [hargs] at hall
          simp only [VRelL, VRel] at hall
          obtain ⟨v1, vs1, hl, ⟨y, rfl, M, K, hM, rfl⟩, rfl⟩ := hall
          obtain ⟨B', sh', N', h1, hsh, es', h2, h3⟩ := hr.obj b _ hb
          rw [hM] at h1
          obtain ⟨rfl, rfl, rfl⟩ : M = B' ∧ 0 = sh' ∧ K = N' := by simpa using h1
          have harr : (ua ++ c.args.map a.eval) ++ uc = #[Value.iface t (.map (some M))] := by
            apply Array.ext'
            simpa using hl
          have hrun : (execOp a.eval o).run P w = .ok (.value (.iface t (.map (some w.heap.size)))) (w.alloc (.map es' ck)) := by
            have h4 := run_callFunc_extern hf hname hbn hnext hfind ((ua ++ c.args.map a.eval) ++ uc) w
            rw [harr, run_mapsClone t h2] at h4
            simp only [Result.andThen] at h4
            simp only [execOp, ho, resolve, hx', hev, Deferred.ofValue, Sem.run_bind, Sem.run_pure, Result.andThen_ok, invoke]
            rw [harr]
            exact h4
          obtain ⟨hr', fr⟩ := hr.push (o := .map es ck) (O := .map es' ck) (N := 0) ⟨rfl, es', rfl, h3⟩
          rw [hrun]
          exact kN _ _ _ fr hr' (by simp only [VRel]; exact ⟨_, rfl, w.heap.size, 0, by simp [Env.set], rfl⟩)
        · cases e
      · cases e
    | false =>
    rw [hx, cond_false] at e
    clear hx
    obtain ⟨v, h', e1, ⟨fn, body, hf, hname, hb⟩, sf⟩ := callK_ok hh hg e
    refine ⟨v, h', e1, fun n E ρ nn a w next Q tr hr kN => ⟨fun _ _ => trivial, ?_⟩⟩
    obtain ⟨x, hx, hv, has⟩ := callee hc E n a tr
    simp only [VRel] at hv
    obtain ⟨ua, uc, hev, hua, huc⟩ := hv
    rw [Oper.semAt_eq _ _ _ (by intro d hd; rw [ho] at hd; cases hd)]
    have hname' : ¬ fn.name = "runtime.NumGoroutine" := by simpa using hname
    have hrun : (execOp a.eval o).run P w = .ok (.enter f ((ua ++ c.args.map a.eval) ++ uc)) w := by
      simp [execOp, ho, resolve, hx, hev, Deferred.ofValue, Sem.run_bind, invoke, callFunc, Result.andThen_ok, hf, hname', hb]
    rw [hrun, Oper.uponIn_enter]
    refine ⟨by simp [FW], CallsIn.turn ?_⟩
    have hus : (ua ++ c.args.map a.eval) ++ uc = (ua.toList ++ (c.args.toList.map a.eval ++ uc.toList)).toArray := by
      apply Array.ext'; simp
    rw [hus]
    exact sf E _ w _ _ (hua.append (has.append huc)) hr fun E' u w' fr hr' hv' => kN E' u w' fr hr' hv'
  · rename_i b as hc
    obtain ⟨v, h', e1, sr⟩ := roundK_ok hg e
    refine ⟨v, h', e1, fun n E ρ nn a w next Q tr hr kN => ⟨fun _ _ => trivial, ?_⟩⟩
    obtain ⟨x, hx, hv, has⟩ := callee hc E n a tr
    simp only [VRel] at hv
    obtain ⟨B, K, hB, hev⟩ := hv
    rw [Oper.semAt_eq _ _ _ (by intro d hd; rw [ho] at hd; cases hd)]
    obtain ⟨r, hr1, hr2, hr3⟩ := sr E (nn - 1) w _ (fun e w'' => match e with | .returned v => next (a.put o.dst v) w'' | .panicked chain => Q (.panic chain) a w'' | .outgrown => LetsOut Q) B K has hr hB kN
    have hrun : (execOp a.eval o).run P w = .ok (.round B r.fn ((r.params.zip (c.args.map a.eval)).foldl (fun tmps (t, a) => tmps.setIfInBounds t a) r.tmps) r.assign r.body) w := by
      have := run_yield (P := P) (args := c.args.map a.eval) hr1 (by simpa using hr2)
      simp [execOp, ho, resolve, hx, hev, Deferred.ofValue, Sem.run_bind, invoke, Result.andThen_ok, this]
    rw [hrun, Oper.uponIn_round]
    refine ⟨by simp [FW], RoundIn.turn ?_⟩
    have hus : c.args.map a.eval = (c.args.toList.map a.eval).toArray := by apply Array.ext'; simp
    rw [hus]
    exact hr3.mono fun e w'' hx => by cases e <;> exact hx
  · cases e
  · split at e
    · rename_i f as hi
      obtain ⟨v, h', e1, ⟨fn, body, hf, hname, hb⟩, sf⟩ := callK_ok hh hg e
      refine ⟨v, h', e1, fun n E ρ nn a w next Q tr hr kN => ⟨fun _ _ => trivial, ?_⟩⟩
      obtain ⟨r, name, t, x, ru, us, hc, hev, hmeth, rfl, hus⟩ := invokeA_run hr tr hi
      rw [Oper.semAt_eq _ _ _ (by intro d hd; rw [ho] at hd; cases hd)]
      have hname' : ¬ fn.name = "runtime.NumGoroutine" := by simpa using hname
      have hrun : (execOp a.eval o).run P w = .ok (.enter f (#[ru] ++ c.args.map a.eval)) w := by
        have hm := hmeth (P.types.size + Made.depth - 1)
        have hpos : P.types.size + Made.depth - 1 + 1 = P.types.size + Made.depth := Nat.sub_add_cancel (Nat.le_trans (by decide : 1 ≤ Made.depth) (Nat.le_add_left _ _))
        rw [hpos] at hm
        have e0 : (#[Value.iface t x] ++ c.args.map a.eval)[0]? = some (Value.iface t x) := by simp [Array.getElem?_append]
        have e1 : (Array.map a.eval c.args).extract 0 c.args.size = c.args.map a.eval := by
          have := Array.extract_size (xs := Array.map a.eval c.args)
          simpa using this
        simp [execOp, ho, resolve, hc, hev, Sem.run_bind, invoke, callMethod, hm, callFunc, Result.andThen_ok, hf, hname', hb, e0, e1]
      rw [hrun, Oper.uponIn_enter]
      refine ⟨by simp [FW], CallsIn.turn ?_⟩
      have : #[ru] ++ c.args.map a.eval = (ru :: c.args.toList.map a.eval).toArray := by apply Array.ext'; simp
      rw [this]
      exact sf E _ w _ _ hus hr fun E' u w' fr hr' hv' => kN E' u w' fr hr' hv'
    · cases e

theorem operK_ok {hk : Hook} {rec : Rec} (hh : HookOK P hk) (hg : Good P rec) {o : Oper} {T : PM AV} {h : AH} {k : AV → AH → Bool} (e : operK P hk rec o T h k = true) :
    ∃ v h', k v h' = true ∧ ∀ n, SoundO P o n T h v h' := by
  unfold operK at e
  split at e
  · rename_i c hc
    unfold isCall at hc
    split at hc
    · rename_i c' ho
      split at hc
      · cases hc
      · simp at hc
        subst hc
        exact callOpK_ok hh hg ho e
    · cases hc
  · split at e
    · rename_i r hr
      rw [applyK_eq] at e
      exact ⟨_, _, e, fun n => opA_sound hr⟩
    · cases e

/-! a list of operations -/
theorem wantedA_ok {E : Env} {n : Nat} {ops : Array Oper} {T : PM AV} {tmps : Array Value} {o : Oper} {b : Bool} (tr : TRel E n T tmps) (e : wantedA ops T o = some b) : Region.wanted o (yielded ops tmps) = b := by
  unfold wantedA at e
  unfold Region.wanted
  cases hgu : o.guard with
  | none => simp [hgu] at e ⊢; exact e
  | some g =>
    obtain ⟨j, want⟩ := g
    simp only [hgu] at e ⊢
    split at e
    · rename_i q hq
      split at e
      · rename_i d hd
        cases hb : Nat.ble d 1000000 <;> simp only [hb, cond_true, cond_false] at e
        · cases e
        · have hd2 := Nat.le_of_ble_eq_true hb
          split at e
          · rename_i x hx
            obtain ⟨u, h1, h2⟩ := tr.2 d _ (by omega) hx
            simp only [VRel] at h2
            subst h2
            simp only [yielded, hq, hd, Option.bind_some, h1]
            simp at e
            subst e
            simp
          · rename_i hx
            obtain ⟨u, h1, h2⟩ := tr.2 d _ (by omega) hx
            simp only [VRel, VRelL] at h2
            obtain ⟨vs, rfl, h3⟩ := h2
            simp only [yielded, hq, hd, Option.bind_some, h1]
            simp at e
            subst e
            rfl
          · cases e
      · cases e
    · cases e

theorem opsK_ok {hk : Hook} {rec : Rec} (hh : HookOK P hk) (hg : Good P rec) {n : Nat} (hn : n ≤ 1000000) {all : Array Oper} : ∀ (ops : List Oper) (i : Nat) (T : PM AV) (h : AH) (k : PM AV → AH → Bool),
    (∀ j o, ops[j]? = some o → all[i + j]? = some o) → opsK P hk rec n all ops T h k = true → ∃ T' h', k T' h' = true ∧
      ∀ (E : Env) (ρ : Option Nat) (nn : Nat) (a : Act) (w : World) (Q : Exit → Act → World → Prop), TRel E n T a.tmps → HRel E h w →
        (∀ E' a' w', Fr E h w E' h' w' → TRel E' n T' a'.tmps → HRel E' h' w' → a'.defers = a.defers → Q .normal a' w') → wpOpsIn (FW ρ) nn P all Q (List.range' i ops.length) a w
  | [], i, T, h, k, _, e => ⟨T, h, e, fun E ρ nn a w Q tr hr kQ => kQ E a w .refl tr hr rfl⟩
  | o :: ops, i, T, h, k, hall, e => by
    have hoi : all[i]? = some o := hall 0 o rfl
    have hall' : ∀ j o', ops[j]? = some o' → all[i + 1 + j]? = some o' := fun j o' hj => by
      have := hall (j + 1) o' (by simpa using hj)
      rw [show i + 1 + j = i + (j + 1) by omega]; exact this
    change goOn (wantedA all T o) P hk rec n o T h (fun T h => opsK P hk rec n all ops T h k) = true at e
    unfold goOn at e
    split at e
    · rename_i hw
      obtain ⟨v, h1, e1, s1⟩ := operK_ok hh hg e
      have s1 := s1 n
      obtain ⟨T1, e2, t1⟩ := tputK_ok hn e1
      obtain ⟨T', h', e3, s2⟩ := opsK_ok hh hg hn ops (i + 1) T1 h1 k hall' e2
      refine ⟨T', h', e3, fun E ρ nn a w Q tr hr kQ => ?_⟩
      simp only [List.length_cons, List.range'_succ, wpOpsIn, hoi, wantedA_ok tr hw, if_true]
      refine s1 E ρ nn a w _ Q tr hr fun E1 u w1 f1 hr1 hv => ?_
      refine s2 E1 ρ nn _ w1 Q (t1 E1 a u (tr.mono f1.le) hv) hr1 fun E' a' w' f2 tr' hr' hd' => ?_
      exact kQ E' a' w' (f1.trans f2) tr' hr' (by rw [hd', put_defers])
    · rename_i hw
      obtain ⟨T1, e2, t1⟩ := tputK_ok hn e
      obtain ⟨T', h', e3, s2⟩ := opsK_ok hh hg hn ops (i + 1) T1 h k hall' e2
      refine ⟨T', h', e3, fun E ρ nn a w Q tr hr kQ => ?_⟩
      simp only [List.length_cons, List.range'_succ, wpOpsIn, hoi, wantedA_ok tr hw]
      rw [if_neg (by simp)]
      refine ⟨fun _ _ => trivial, ?_⟩
      refine s2 E ρ nn _ w Q (t1 E a undef tr (by simp only [VRel, AV.undef, VRelL, undef]; exact ⟨#[], rfl, rfl⟩)) hr fun E' a' w' f2 tr' hr' hd' => ?_
      exact kQ E' a' w' f2 tr' hr' (by rw [hd', put_defers])
    · cases e
end
end Go.Ax
