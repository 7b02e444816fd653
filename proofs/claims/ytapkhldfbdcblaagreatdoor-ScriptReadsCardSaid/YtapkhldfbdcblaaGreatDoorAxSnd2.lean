/- An abstract executor, seventeenth part: what it is for code, operations and functions to be as the executor says; arguments, results, marks. -/
import Derived.Test.YtapkhldfbdcblaaGreatDoorAxSnd1
import Derived.RangeFuncRecord
set_option linter.unusedSectionVars false
set_option linter.unnecessarySimpa false
set_option linter.unusedSimpArgs false
set_option linter.unusedVariables false
namespace Go.Ax
noncomputable section
variable {P : Program}

def FW (ρ : Option Nat) : Fence := { fn := fun _ => True, depth := none, alive := false, round := ρ }
theorem room_FW (ρ : Option Nat) (n : Nat) : (FW ρ).room n := fun _ h => by simp [FW] at h

def CX.toExit : CX → Exit
  | .normal => .normal
  | .exit id => .exit id
  | .ret => .ret

def DRel (E : Env) : List Pos → List Deferred → Prop
  | [], ds => ds = []
  | p :: m, ds => ∃ B K ds', ds = { target := .collected B, args := #[] } :: ds' ∧ E.blk p = some (B, 0, K) ∧ DRel E m ds'
theorem DRel.mono {E E' : Env} (h : E.le E') : ∀ {m : List Pos} {ds : List Deferred}, DRel E m ds → DRel E' m ds
  | [], _, r => r
  | p :: m, ds, r => by
    obtain ⟨B, K, ds', e, hb, r⟩ := r
    exact ⟨B, K, ds', e, h.blk _ _ hb, DRel.mono h r⟩
def RdRel (E : Env) : Option Pos → Option Nat → Prop
  | none, ρ => ρ = none
  | some p, ρ => ∃ B K, ρ = some B ∧ E.blk p = some (B, 0, K)
theorem RdRel.mono {E E' : Env} (h : E.le E') {r : Option Pos} {ρ : Option Nat} (x : RdRel E r ρ) : RdRel E' r ρ := by
  cases r with
  | none => exact x
  | some p => obtain ⟨B, K, e, hb⟩ := x; exact ⟨B, K, e, h.blk _ _ hb⟩

/-- An operation does as is said. -/
def SoundO (P : Program) (o : Oper) (n : Nat) (T : PM AV) (h : AH) (v : AV) (h' : AH) : Prop :=
  ∀ (E : Env) (ρ : Option Nat) (nn : Nat) (a : Act) (w : World) (next : Act → World → Prop) (Q : Exit → Act → World → Prop), TRel E n T a.tmps → HRel E h w →
    (∀ E' u w', Fr E h w E' h' w' → HRel E' h' w' → VRel E' v u → next (a.put o.dst u) w') → o.wpIn (FW ρ) nn P a w next Q
/-- A function does. -/
def SoundF (P : Program) (f : FuncId) (args : List AV) (h : AH) (v : AV) (h' : AH) : Prop :=
  ∀ (E : Env) (nn : Nat) (w : World) (us : List Value) (R : Ending → World → Prop), VRelL E args us → HRel E h w →
    (∀ E' u w', Fr E h w E' h' w' → HRel E' h' w' → VRel E' v u → R (.returned u) w') → CallsIn (FW none) nn P f us.toArray w R
/-- Code does. -/
def SoundC (P : Program) (ctx : Ctx) (c : Code) (T : PM AV) (h : AH) (m : List Pos) (x : CX) (T' : PM AV) (h' : AH) (m' : List Pos) : Prop :=
  ∀ (E : Env) (ρ : Option Nat) (nn : Nat) (a : Act) (w : World) (Q : Exit → Act → World → Prop), RdRel E ctx.round ρ → TRel E ctx.n T a.tmps → HRel E h w → DRel E m a.defers →
    (∀ E' a' w', Fr E h w E' h' w' → TRel E' ctx.n T' a'.tmps → HRel E' h' w' → DRel E' m' a'.defers → Q x.toExit a' w') → c.wpIn (FW ρ) nn P Q a w
def Good (P : Program) (rec : Rec) : Prop :=
  ∀ (ctx : Ctx) (c : Code) (T : PM AV) (h : AH) (m : List Pos) (k : KC), ctx.n ≤ 1000000 → rec ctx c T h m k = true → ∃ x T' h' m', k x T' h' m' = true ∧ SoundC P ctx c T h m x T' h' m'
def Callable (P : Program) (f : FuncId) : Prop := ∃ fn c, P.funcs[f]? = some fn ∧ (fn.name == "runtime.NumGoroutine") = false ∧ fn.body = some c
def HookOK (P : Program) (hk : Hook) : Prop := ∀ f args h k z, hk f args h k z = true → (∃ v h', k v h' = true ∧ Callable P f ∧ SoundF P f args h v h') ∨ z = true

theorem opA_sound {o : Oper} {n : Nat} {T : PM AV} {h : AH} {r : ORes} (e : opA P o T h = some r) : SoundO P o n T h (r.app h).1 (r.app h).2 := by
  intro E ρ nn a w next Q tr hr k
  obtain ⟨u, w', E', g, hv, hr', fr⟩ := (opA_ok tr hr e).all hr
  refine ⟨fun _ _ => trivial, ?_⟩
  rw [Oper.semAt_eq _ _ _ (by intro c hc; simp [opA, hc, opF, oNone] at e)]
  rcases g with g | ⟨g, rfl⟩
  · rw [g]; exact k _ _ _ fr hr' hv
  · rw [g]; exact k _ _ _ fr hr' hv

/-! temporaries -/
theorem TRel.put {E : Env} {n : Nat} {T : PM AV} {tmps : Array Value} (r : TRel E n T tmps) {d : Nat} (hd : d < n) (hn : n ≤ 1000000) {v : AV} {u : Value} (hv : VRel E v u) :
    TRel E n (T.put (posOf d) (some v)) (tmps.setIfInBounds d u) := by
  refine ⟨by simp [r.1], fun t x ht hg => ?_⟩
  rw [PM.get_put] at hg
  by_cases e : d = t
  · subst e
    simp at hg
    subst hg
    refine ⟨u, ?_, hv⟩
    have : d < tmps.size := by rw [r.1]; exact hd
    simp [this]
  · have hne : posOf d ≠ posOf t := fun q => e (posOf_inj (by omega) ht q)
    rw [if_neg hne] at hg
    obtain ⟨u', h1, h2⟩ := r.2 t x ht hg
    exact ⟨u', by rw [Array.getElem?_setIfInBounds_ne e]; exact h1, h2⟩

theorem tputK_ok {n : Nat} {T : PM AV} {dst : Option Tmp} {v : AV} {k : PM AV → Bool} (hn : n ≤ 1000000) (e : tputK n T dst v k = true) :
    ∃ T', k T' = true ∧ ∀ (E : Env) (a : Act) (u : Value), TRel E n T a.tmps → VRel E v u → TRel E n T' (a.put dst u).tmps := by
  cases dst with
  | none => exact ⟨T, e, fun E a u r _ => r⟩
  | some d =>
    simp only [tputK] at e
    cases hb : Nat.ble (Nat.succ d) n <;> simp [hb] at e
    rw [PM.putK_eq] at e
    exact ⟨_, e, fun E a u r hv => r.put (by have := Nat.le_of_ble_eq_true hb; omega) hn hv⟩
theorem put_defers (a : Act) (dst : Option Tmp) (u : Value) : (a.put dst u).defers = a.defers := by cases dst <;> rfl

theorem argsK_ok : ∀ (args : List AV) (i : Nat) (T : PM AV) (k : PM AV → Bool), i + args.length ≤ 1000000 → argsK i args T k = true →
    ∃ T', k T' = true ∧ ∀ t, t < 2 ^ 62 → T'.get (posOf t) = if i ≤ t ∧ t < i + args.length then args[t - i]? else T.get (posOf t)
  | [], i, T, k, _, e => ⟨T, e, fun t _ => by rw [if_neg (by simp only [List.length_nil]; omega)]⟩
  | v :: r, i, T, k, hi, e => by
    simp only [argsK, PM.putK_eq] at e
    simp only [List.length_cons] at hi
    obtain ⟨T', h1, h2⟩ := argsK_ok r (i + 1) _ k (by omega) e
    refine ⟨T', h1, fun t ht => ?_⟩
    rw [h2 t ht]
    simp only [List.length_cons]
    by_cases h3 : i + 1 ≤ t ∧ t < i + 1 + r.length
    · rw [if_pos h3, if_pos (by omega), show t - i = (t - (i + 1)) + 1 by omega, List.getElem?_cons_succ]
    · rw [if_neg h3, PM.get_put]
      by_cases h4 : i = t
      · subst h4; rw [if_pos rfl, if_pos (by omega)]; simp
      · rw [if_neg (fun q => h4 (posOf_inj (by omega) ht q)), if_neg (by omega)]

theorem putArgsK_ok {n : Nat} (hn : n ≤ 1000000) : ∀ (ps : List Tmp) (args : List AV) (T : PM AV) (k : PM AV → Bool), putArgsK n ps args T k = true →
    ∃ T', k T' = true ∧ args.length = ps.length ∧ ∀ (E : Env) (tmps : Array Value) (us : List Value), TRel E n T tmps → VRelL E args us →
      TRel E n T' ((ps.zip us).foldl (fun tmps (t, a) => tmps.setIfInBounds t a) tmps)
  | [], [], T, k, e => ⟨T, e, rfl, fun E tmps us r hu => by simpa using r⟩
  | [], _ :: _, T, k, e => by simp [putArgsK] at e
  | _ :: _, [], T, k, e => by simp [putArgsK] at e
  | p :: ps, a :: as, T, k, e => by
    simp only [putArgsK] at e
    cases hb : (Nat.blt p n && Nat.ble p 1000000) <;> simp [hb] at e
    rw [PM.putK_eq] at e
    simp only [Bool.and_eq_true] at hb
    obtain ⟨T', h1, h2, h3⟩ := putArgsK_ok hn ps as _ k e
    refine ⟨T', h1, by simp [h2], fun E tmps us r hu => ?_⟩
    simp only [VRelL] at hu
    obtain ⟨u, us', rfl, hu, hus⟩ := hu
    simp only [List.zip_cons_cons, List.foldl_cons]
    exact h3 E _ us' (r.put (Nat.le_of_ble_eq_true hb.1) hn hu) hus

/-! what is handed back -/
theorem loadA_run {E : Env} {h : AH} {w : World} {t : TypeId} {x y : AV} {v : Value} (hr : HRel E h w) (hx : VRel E x v) (e : loadA P h t x = some (.val y)) :
    ∃ u, (do loadVar t (← asAddr v) : Sem Value).run P w = .ok u w ∧ VRel E y u := by
  unfold loadA at e
  split at e
  · rename_i b o
    simp only [VRel] at hx
    obtain ⟨B, sh, N, hb, rfl⟩ := hx
    split at e
    · rename_i cs hcs hag
      split at e
      · rename_i u hu
        simp at e; subst e
        obtain ⟨B', sh', N', u', g1, g2, _, g4, _⟩ := hr.cell (cellsAt_ok hcs) hu
        rw [hb] at g1
        obtain ⟨rfl, rfl, rfl⟩ : B = B' ∧ sh = sh' ∧ N = N' := by simpa using g1
        exact ⟨u', by simp [asAddr, loadVar, Sem.run_bind, run_aggOf w hag, g2], g4⟩
      · cases e
    · rename_i cs hcs hag
      split at e
      · rename_i n hn
        cases hle : Nat.ble (o + n) cs.length <;> simp [hle] at e
        subst e
        obtain ⟨B', sh', N', g1, us, g2, g3, g4⟩ := hr.loads (cellsAt_ok hcs) (Nat.le_of_ble_eq_true hle)
        rw [hb] at g1
        obtain ⟨rfl, rfl, rfl⟩ : B = B' ∧ sh = sh' ∧ N = N' := by simpa using g1
        refine ⟨.agg us.toArray, ?_, ?_⟩
        · simp [asAddr, loadVar, Sem.run_bind, run_aggOf w hag, run_sizeA w hn, g4 P]
        · simp only [VRel]; exact ⟨_, rfl, by simpa using g3⟩
      · cases e
    · cases e
  · cases e

def resSem (tmps : Array Value) (rv : ResultVar) : Sem Value :=
  match rv with
  | .tmp t => pure (tmps.getD t undef)
  | .cell a t => do loadVar t (← asAddr (tmps.getD a undef))
theorem resOf_ok {E : Env} {n : Nat} {T : PM AV} {h : AH} {w : World} {tmps : Array Value} {rv : ResultVar} {v : AV} (tr : TRel E n T tmps) (hr : HRel E h w) (e : resOf P h T rv = some v) :
    ∃ u, (resSem tmps rv).run P w = .ok u w ∧ VRel E v u := by
  cases rv with
  | tmp t =>
    simp only [resOf] at e
    cases hb : Nat.ble t 1000000 <;> simp [hb] at e
    obtain ⟨u, h1, h2⟩ := tr.2 t v (by have := Nat.le_of_ble_eq_true hb; omega) e
    exact ⟨u, by simp [resSem, Array.getD_eq_getD_getElem?, h1], h2⟩
  | cell a t =>
    simp only [resOf] at e
    cases hb : Nat.ble a 1000000 <;> simp [hb] at e
    split at e
    · rename_i x hx
      obtain ⟨u, h1, h2⟩ := tr.2 a x (by have := Nat.le_of_ble_eq_true hb; omega) hx
      split at e
      · rename_i y hy
        simp at e
        subst e
        have hu : tmps.getD a undef = u := by simp [Array.getD_eq_getD_getElem?, h1]
        simp only [resSem, hu]
        exact loadA_run hr h2 hy
      · cases e
    · cases e
theorem ressOf_ok {E : Env} {n : Nat} {T : PM AV} {h : AH} {w : World} {tmps : Array Value} (tr : TRel E n T tmps) (hr : HRel E h w) : ∀ {rvs : List ResultVar} {vs : List AV}, ressOf P h T rvs = some vs →
    ∃ us, (rvs.mapM (resSem tmps)).run P w = .ok us w ∧ VRelL E vs us
  | [], vs, e => by simp [ressOf] at e; subst e; exact ⟨[], by simp, by simp [VRelL]⟩
  | rv :: rvs, vs, e => by
    simp only [ressOf] at e
    split at e
    · rename_i v vs' h1 h2
      simp at e; subst e
      obtain ⟨u, g1, g2⟩ := resOf_ok (w := w) tr hr h1
      obtain ⟨us, g3, g4⟩ := ressOf_ok tr hr h2
      refine ⟨u :: us, ?_, by simp only [VRelL]; exact ⟨u, us, rfl, g2, g4⟩⟩
      simp [List.mapM_cons, Sem.run_bind, g1, g3]
    · cases e
theorem resultA_ok {E : Env} {n : Nat} {T : PM AV} {h : AH} {w : World} {tmps : Array Value} {fn : Func} {v : AV} (tr : TRel E n T tmps) (hr : HRel E h w) (e : resultA P h T fn.results.toList = some v) :
    ∃ u, (results fn tmps).run P w = .ok u w ∧ VRel E v u := by
  have key : ∀ us : List Value, (fn.results.toList.mapM (resSem tmps)).run P w = .ok us w → (results fn tmps).run P w = .ok (if h : us.toArray.size = 1 then us.toArray[0] else .tuple us.toArray) w := by
    intro us hu
    show ((do let vs ← fn.results.mapM (resSem tmps); pure (if h : vs.size = 1 then vs[0] else .tuple vs)) : Sem Value).run P w = _
    rw [Array.mapM_eq_mapM_toList]
    simp only [Sem.run_bind, Sem.run_map, hu, Result.andThen_ok, Sem.run_pure]
  unfold resultA at e
  split at e
  · rename_i a ha
    simp at e; subst e
    obtain ⟨us, h1, h2⟩ := ressOf_ok (w := w) tr hr ha
    simp only [VRelL] at h2
    obtain ⟨u, us', rfl, h3, rfl⟩ := h2
    exact ⟨u, by rw [key _ h1]; rfl, h3⟩
  · rename_i as hne ha
    simp at e; subst e
    obtain ⟨us, h1, h2⟩ := ressOf_ok (w := w) tr hr ha
    refine ⟨.tuple us.toArray, ?_, by simp only [VRel]; exact ⟨_, rfl, by simpa using h2⟩⟩
    rw [key _ h1, dif_neg]
    intro hs
    have hl := h2.length
    simp at hs
    rw [hs] at hl
    match as, hl with
    | [a], _ => exact hne a rfl
  · cases e

/-! blocks for deferred calls, shut -/
theorem HRel.shut {E : Env} {h : AH} {w : World} (r : HRel E h w) {p : Pos} {B K : Nat} (hl : h.live p) (hb : E.blk p = some (B, 0, K)) (o : Obj) :
    HRel E (h.drop p) (w.putObj B o) ∧ Fr E h w E (h.drop p) (w.putObj B o) := by
  obtain ⟨r1, f1⟩ := r.drop p
  have other : ∀ k, k ≠ B → (w.putObj B o).heap[k]? = w.heap[k]? := fun k hk => World.putObj_heap_other hk
  refine ⟨⟨fun q o' hq => ?_, r1.inj, r1.fresh, fun q B' sh N hq => by rw [World.putObj_size]; exact r1.below q B' sh N hq⟩,
    ⟨f1.le, f1.old, f1.nx, by simp, rfl, rfl, rfl, fun B' hB' hn => ?_, fun q B' sh N l e => .inr ?_⟩⟩
  · obtain ⟨B', sh, N, h1, h2⟩ := r1.obj q o' hq
    have hlq : (h.drop p).live q := by unfold AH.live; rw [hq]; rfl
    have hne : B' ≠ B := fun e => by
      subst e
      exact (AH.live_drop.1 hlq).1 (r.inj q p B' sh N 0 K (AH.live_drop.1 hlq).2 hl h1 hb)
    exact ⟨B', sh, N, h1, by rw [other B' hne]; exact h2⟩
  · exact other B' fun e => hn p 0 K hl (e ▸ hb)
  · exact ⟨q, sh, N, (AH.live_drop.1 l).2, e⟩

theorem closeK_ok : ∀ (m : List Pos) (h : AH) (k : AH → Bool), closeK m h k = true → ∃ h', k h' = true ∧ ∀ (E : Env) (w : World) (ds : List Deferred) (fn : Func) (tmps : Array Value) (R : Ending → World → Prop) (nn : Nat),
    HRel E h w → DRel E m ds → (∀ w', HRel E h' w' → Fr E h w E h' w' → LeavesInM (FW none) nn P fn tmps R [] .returning w') → LeavesInM (FW none) nn P fn tmps R ds .returning w
  | [], h, k, e => ⟨h, e, fun E w ds fn tmps R nn hr hd hk => by
      simp only [DRel] at hd; subst hd; exact hk w hr .refl⟩
  | p :: m, h, k, e => by
    simp only [closeK] at e
    split at e
    · rename_i hp
      rw [dropK_eq] at e
      obtain ⟨h', h1, h2⟩ := closeK_ok m _ k e
      refine ⟨h', h1, fun E w ds fn tmps R nn hr hd hk => ?_⟩
      simp only [DRel] at hd
      obtain ⟨B, K, ds', rfl, hb, hd⟩ := hd
      have hl : h.live p := by unfold AH.live; rw [hp]; rfl
      obtain ⟨B', sh, N, hb', hO⟩ := hr.obj p _ hp
      rw [hb] at hb'
      obtain ⟨rfl, rfl, rfl⟩ : B = B' ∧ 0 = sh ∧ K = N := by simpa using hb'
      obtain ⟨_, hO⟩ := hO
      obtain ⟨r1, f1⟩ := hr.shut hl hb (.deferred none)
      refine ⟨by simp, .inl ⟨B, w.putObj B (.deferred none), rfl, run_takeDeferred hO, ?_⟩⟩
      exact h2 E _ ds' fn tmps R nn r1 hd fun w' hr' f' => hk w' hr' (f1.trans f')
    · cases e
end
end Go.Ax
