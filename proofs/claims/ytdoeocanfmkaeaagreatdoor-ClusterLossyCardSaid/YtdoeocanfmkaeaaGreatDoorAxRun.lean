/- An abstract executor: a body walked piece by piece with what the runs leave; a loop that is left at whatever round. -/
import Derived.Test.YtdoeocanfmkaeaaGreatDoorAxMid
set_option linter.unusedSectionVars false
set_option linter.unnecessarySimpa false
set_option linter.unusedSimpArgs false
set_option linter.unusedVariables false
namespace Go.Ax
open Go.RowKit (Below)
noncomputable section
variable {P : Program}

/-- From these temporaries and this heap the code comes to what is asked. -/
def WpT (P : Program) (n : Nat) (w₀ : World) (q : Nat → Value) (c : Code) (Q : Exit → Act → World → Prop) (T : PM AV) (h : AH) : Prop :=
  ∀ (E : Env) (a : Act) (w : World), St w₀ q E h w → TRel E n T a.tmps → HRel E h w → a.defers = [] → c.wpIn (FW none) 0 P Q a w
def isNil : List Pos → Bool
  | [] => true
  | _ => false
theorem isNil_ok {m : List Pos} (h : isNil m = true) : m = [] := by cases m; rfl; cases h
def nrm (x : CX) (m : List Pos) (b : Bool) : Bool :=
  match x with
  | .normal => isNil m && b
  | _ => false
theorem nrm_ok {x : CX} {m : List Pos} {b : Bool} (h : nrm x m b = true) : x = .normal ∧ m = [] ∧ b = true := by
  cases x <;> simp only [nrm, Bool.and_eq_true, Bool.false_eq_true] at h
  exact ⟨rfl, isNil_ok h.1, h.2⟩
/-- A run of code, normal at its end. -/
def goK (P : Program) (hk : Hook) (d n : Nat) (c : Code) (T : PM AV) (h : AH) (k : PM AV → AH → Bool) : Bool :=
  (codeB P hk n c).f (runS P hk d) none T h [] fun x T h m => nrm x m (k T h)
theorem goK_wp (hm : P.follows .mixedOrders = true) {hk : Hook} (hh : HookOK P hk) {d n : Nat} (hn : n ≤ 1000000) {w₀ : World} {q : Nat → Value} {c : Code} {Q : Exit → Act → World → Prop} {T : PM AV} {h : AH} {k : PM AV → AH → Bool}
    (e : goK P hk d n c T h k = true)
    (hk' : ∀ T' h', k T' h' = true → ∀ E a w, St w₀ q E h' w → TRel E n T' a.tmps → HRel E h' w → a.defers = [] → Q .normal a w) : WpT P n w₀ q c Q T h := by
  unfold goK at e
  obtain ⟨x, T', h', m', e1, s⟩ := codeB_ok hm hh (runS_good hm hh d) hn none c _ _ _ _ e
  obtain ⟨rfl, rfl, e2⟩ := nrm_ok e1
  intro E a w st tr hr hd
  refine s E none 0 a w _ rfl tr hr (by rw [hd]; rfl) fun E' a' w' f tr' hr' hd' => ?_
  have hd2 : a'.defers = [] := by
    have : DRel E' [] a'.defers := hd'
    simpa [DRel] using this
  exact hk' T' h' e2 E' a' w' (st.step f) tr' hr' hd2
theorem goK_seq (hm : P.follows .mixedOrders = true) {hk : Hook} (hh : HookOK P hk) {d n : Nat} (hn : n ≤ 1000000) {w₀ : World} {q : Nat → Value} {c c2 : Code} {Q : Exit → Act → World → Prop} {T : PM AV} {h : AH} {k : PM AV → AH → Bool}
    (e : goK P hk d n c T h k = true) (h2 : ∀ T' h', k T' h' = true → WpT P n w₀ q c2 Q T' h') : WpT P n w₀ q (.seq c c2) Q T h := by
  intro E a w st tr hr hd
  exact wpIn_seq (goK_wp hm hh hn e (fun T' h' ek E' a' w' st' tr' hr' hd' => h2 T' h' ek E' a' w' st' tr' hr' hd') E a w st tr hr hd)
/-- A run to a body's end. -/
def finK (P : Program) (hk : Hook) (d n : Nat) (c : Code) (rs : List ResultVar) (v : AV) (T : PM AV) (h : AH) : Bool :=
  (codeB P hk n c).f (runS P hk d) none T h [] fun x T h m =>
    (isNil m && (match x with | .exit _ => false | _ => true)) && (match resultA P h T rs with | some u => eqR u v | none => false)
theorem finK_wp (hm : P.follows .mixedOrders = true) {hk : Hook} (hh : HookOK P hk) {d n : Nat} (hn : n ≤ 1000000) {w₀ : World} {q : Nat → Value} {c : Code} {rs : List ResultVar} {v : AV} {T : PM AV} {h : AH}
    (e : finK P hk d n c rs v T h = true) {fn : Func} (hfn : fn.ntmps = n) (hrs : fn.results.toList = rs) {R : Ending → World → Prop} (hR : ∀ E u w', VRel E v u → Below w₀.heap.size w₀ w' → R (.returned u) w') :
    WpT P n w₀ q c (bodyPostM (FW none) 0 P fn R) T h := by
  unfold finK at e
  obtain ⟨x, T', h', m', e1, s⟩ := codeB_ok hm hh (runS_good hm hh d) hn none c _ _ _ _ e
  simp only [Bool.and_eq_true] at e1
  obtain ⟨⟨e2, e3⟩, e4⟩ := e1
  have hm' := isNil_ok e2
  subst hm'
  intro E a w st tr hr hd
  refine s E none 0 a w _ rfl tr hr (by rw [hd]; rfl) fun E' a' w' f tr' hr' hd' => ?_
  have hd2 : a'.defers = [] := by
    have : DRel E' [] a'.defers := hd'
    simpa [DRel] using this
  split at e4
  · rename_i u hu
    have hv := eqR_ok e4
    subst hv
    rw [← hrs] at hu
    obtain ⟨u', g1, g2⟩ := resultA_ok (w := w') tr' hr' hu
    have key : LeavesInM (FW none) 0 P fn a'.tmps R a'.defers .returning w' := by
      rw [hd2]; exact ⟨u', g1, hR E' u' w' g2 (st.step f).1⟩
    cases x with
    | exit id => cases e3
    | normal => exact key
    | ret => exact key
  · cases e4
theorem WpT.seq2 {n : Nat} {w₀ : World} {q : Nat → Value} {a b c : Code} {Q : Exit → Act → World → Prop} {T : PM AV} {h : AH} (s : WpT P n w₀ q a (Exit.then (fun x y => (b.wpIn (FW none) 0 P (Exit.then (fun x y => c.wpIn (FW none) 0 P Q x y) Q)) x y) (Exit.then (fun x y => c.wpIn (FW none) 0 P Q x y) Q)) T h) :
    WpT P n w₀ q (.seq (.seq a b) c) Q T h := fun E a w st tr hr hd => wpIn_seq (wpIn_seq (s E a w st tr hr hd))

/-! a loop that counts up to a number that is not known -/
/-- Less than: of a number that is known and one that is not. -/
theorem less_go {o : Oper} {t pt : TypeId} {x y : Tmp} (ho : o.op = .binOp .lss t (.tmp x) (.tmp y) pt) {n : Nat} {T : PM AV} {h : AH} {i c k : Nat} (hx : evA T (.tmp x) = some (.int .i64 (.ofNat i))) (hy : evA T (.tmp y) = some (.opq k)) :
    ∀ (E : Env) (a : Act) (w : World) (next : Act → World → Prop) (Q : Exit → Act → World → Prop), E.opq k = .int .i64 (.ofNat c) → TRel E n T a.tmps → HRel E h w →
      (∀ E' u w', Fr E h w E' h w' → HRel E' h w' → VRel E' (.bool (Nat.blt i c)) u → next (a.put o.dst u) w') → o.wpIn (FW none) 0 P a w next Q := by
  intro E a w next Q hk tr hr hn
  have vx := evA_rel hx tr
  have vy := evA_rel hy tr
  simp only [VRel] at vx vy
  rw [hk] at vy
  let T2 : PM AV := tmpsOf [(0, .int .i64 (.ofNat i)), (1, .int .i64 (.ofNat c))]
  refine ⟨fun _ _ => trivial, ?_⟩
  rw [Oper.semAt_eq _ _ _ (by intro d hd; rw [ho] at hd; cases hd)]
  have e : binA P .lss t (.int .i64 (.ofNat i)) (.int .i64 (.ofNat c)) = some (.val (.bool (Nat.blt i c))) := by
    simp only [binA, decide_true, cond_true, intA, ltI]
  have ok := binA_ok (P := P) (E := E) (h := h) (w := w) (op := .lss) (t := t) (p := .tmp x) (q := .tmp y) (u := a.eval (.tmp x)) (v := a.eval (.tmp y)) (by rw [vx]; simp only [VRel]) (by rw [vy]; simp only [VRel]) e
  have hrun : (execOp a.eval o).run P w = (do pure (Next.value (← (do eqGuard .lss t (.tmp x) (.tmp y) (a.eval (.tmp x)) (a.eval (.tmp y)); binOp .lss t (a.eval (.tmp x)) (a.eval (.tmp y))))) : Sem Next).run P w := by
    simp only [execOp, ho]
  obtain ⟨u, w', E', g, hv, hr', fr⟩ := ok.all hr
  rw [hrun]
  rcases g with g | ⟨g, rfl⟩
  · rw [g]; exact hn _ _ _ fr hr' hv
  · rw [g]; exact hn _ _ _ fr hr' hv

structure Lp where
  ops : Array Oper      -- the test's region
  pre : List Oper       -- its operations ahead of the comparison
  x : Tmp
  y : Tmp
  z : Tmp
  o : Oper              -- the comparison
  body : Code           -- behind the test
  rest : Code           -- behind the loop
/-- At the loop's head: it may be left here; else it goes on, so many rounds at most. -/
def headsK (P : Program) (hk : Hook) (d n : Nat) (l : Lp) (k : Nat) (rs : List ResultVar) (v : AV) (j : Nat) : Nat → PM AV → AH → Bool :=
  Nat.rec (motive := fun _ => Nat → PM AV → AH → Bool)
    (fun i T h => opsK P hk (runS P hk d) n l.ops l.pre T h fun T h => isI (evA T (.tmp l.x)) i && (isO (evA T (.tmp l.y)) k && tputK n T (some l.z) (.bool false) fun T => finK P hk d n l.rest rs v T h))
    (fun _ ih i T h => opsK P hk (runS P hk d) n l.ops l.pre T h fun T h => isI (evA T (.tmp l.x)) i && (isO (evA T (.tmp l.y)) k && ((tputK n T (some l.z) (.bool false) fun T => finK P hk d n l.rest rs v T h) &&
      tputK n T (some l.z) (.bool true) fun T => goK P hk d n l.body T h fun T h => fLit (Nat.succ i) fun i => ih i T h))) j
where
  isI : Option AV → Nat → Bool
    | some (.int .i64 (.ofNat m)), i => Nat.beq m i
    | _, _ => false
  isO : Option AV → Nat → Bool
    | some (.opq m), k => Nat.beq m k
    | _, _ => false
theorem isI_ok {x : Option AV} {i : Nat} (h : headsK.isI x i = true) : x = some (.int .i64 (.ofNat i)) := by
  unfold headsK.isI at h
  split at h
  · rw [Nat.eq_of_beq_eq_true h]
  · cases h
theorem isO_ok {x : Option AV} {i : Nat} (h : headsK.isO x i = true) : x = some (.opq i) := by
  unfold headsK.isO at h
  split at h
  · rw [Nat.eq_of_beq_eq_true h]
  · cases h

/-- How the loop lies in the code. -/
structure Lp.OK (l : Lp) (id ex : Nat) (loop : Code) : Prop where
  code : loop = .seq (.seq (.region id l.ops false) (.cond (.tmp l.z) .skip (.exit ex))) l.body
  ops : l.ops.toList = l.pre ++ [l.o]
  cmp : ∃ t pt, l.o.op = .binOp .lss t (.tmp l.x) (.tmp l.y) pt
  dst : l.o.dst = some l.z
  guard : l.o.guard = none
  zle : l.z ≤ 1000000

theorem headsK_ok (hm : P.follows .mixedOrders = true) {hk : Hook} (hh : HookOK P hk) {d n : Nat} (hn : n ≤ 1000000) {l : Lp} {id ex : Nat} {loop : Code} (ok : l.OK id ex loop) {k : Nat} {rs : List ResultVar} {v : AV} {w₀ : World} {q : Nat → Value} {c : Nat}
    (hq : q k = .int .i64 (.ofNat c)) {fn : Func} (hfn : fn.ntmps = n) (hrs : fn.results.toList = rs) {R : Ending → World → Prop} (hR : ∀ E u w', VRel E v u → Below w₀.heap.size w₀ w' → R (.returned u) w') :
    ∀ (j i : Nat) (T : PM AV) (h : AH), i ≤ c → c ≤ i + j → headsK P hk d n l k rs v j i T h = true →
      ∀ (E : Env) (a : Act) (w : World), St w₀ q E h w → TRel E n T a.tmps → HRel E h w → a.defers = [] →
        Code.roundsIn (FW none) 0 P loop (Exit.inBlock ex (Exit.then (fun x y => l.rest.wpIn (FW none) 0 P (bodyPostM (FW none) 0 P fn R) x y) (bodyPostM (FW none) 0 P fn R))) (j + 1) a w := by
  obtain ⟨t, pt, hcmp⟩ := ok.cmp
  have hsz : l.ops.size = l.pre.length + 1 := by
    rw [← Array.length_toList, ok.ops]; simp
  have hat : l.ops[l.pre.length]? = some l.o := by
    rw [← Array.getElem?_toList, ok.ops]; simp
  have hall : ∀ j o, l.pre[j]? = some o → l.ops[0 + j]? = some o := fun j o hj => by
    rw [Nat.zero_add, ← Array.getElem?_toList, ok.ops, List.getElem?_append_left (List.getElem?_eq_some_iff.1 hj).1]; exact hj
  have hrange : List.range l.ops.size = List.range' 0 l.pre.length ++ [l.pre.length] := by
    rw [hsz, List.range_succ, List.range_eq_range']
  -- one head
  have head : ∀ (i : Nat) (T : PM AV) (h : AH) (K : PM AV → AH → Bool) (Q : Exit → Act → World → Prop), opsK P hk (runS P hk d) n l.ops l.pre T h (fun T h => headsK.isI (evA T (.tmp l.x)) i && (headsK.isO (evA T (.tmp l.y)) k && K T h)) = true →
      ∀ (E : Env) (a : Act) (w : World), St w₀ q E h w → TRel E n T a.tmps → HRel E h w → a.defers = [] →
      (∀ T' h', K T' h' = true → ∀ (E' : Env) (a' : Act) (u : Value) (w' : World), St w₀ q E' h' w' → TRel E' n T' a'.tmps → HRel E' h' w' → a'.defers = [] → VRel E' (.bool (Nat.blt i c)) u → Q .normal (a'.put (some l.z) u) w') →
      (Code.region id l.ops false).wpIn (FW none) 0 P Q a w := by
    intro i T h K Q e E a w st tr hr hd hQ
    obtain ⟨T', h', e1, s⟩ := opsK_go hh (runS_good hm hh d) hn l.pre 0 T h _ hall e
    simp only [Bool.and_eq_true] at e1
    obtain ⟨e2, e3, e4⟩ := e1
    refine wpIn_region ?_
    rw [hrange]
    refine s [l.pre.length] E none 0 a w Q tr hr fun E' a' w' f tr' hr' hd' => ?_
    have st' := st.step f
    refine ops_do hat (by unfold Region.wanted; rw [ok.guard]) ?_
    refine less_go hcmp (isI_ok e2) (isO_ok e3) E' a' w' _ Q (by rw [st'.2.2]; exact hq) tr' hr' fun E2 u w2 f2 hr2 hv => ?_
    rw [ok.dst]
    exact hQ T' h' e4 E2 a' u w2 (st'.step f2) (tr'.mono f2.le) hr2 (by rw [hd', hd]) hv
  have evz : ∀ {T : PM AV} {E : Env} {a : Act} {u : Value} {b : Bool}, l.z < n → TRel E n T a.tmps → VRel E (.bool b) u →
      TRel E n (T.put (posOf l.z) (some (.bool b))) (a.put (some l.z) u).tmps ∧ (a.put (some l.z) u).eval (.tmp l.z) = .bool b := by
    intro T E a u b hz tr hv
    have tr2 : TRel E n (T.put (posOf l.z) (some (.bool b))) (a.put (some l.z) u).tmps := tr.put hz hn hv
    refine ⟨tr2, ?_⟩
    have : evA (T.put (posOf l.z) (some (.bool b))) (.tmp l.z) = some (.bool b) := by
      show (bif Nat.ble l.z 1000000 then (T.put (posOf l.z) (some (.bool b))).get (posOf l.z) else none) = _
      rw [Nat.ble_eq_true_of_le ok.zle]
      exact PM.get_put_same _ _ _
    have := evA_rel this tr2
    simpa only [VRel] using this
  have putz : ∀ {T : PM AV} {b : Bool} {K : PM AV → Bool}, tputK n T (some l.z) (.bool b) K = true → K (T.put (posOf l.z) (some (.bool b))) = true ∧ l.z < n := by
    intro T b K e
    unfold tputK at e
    simp only at e
    cases hb : Nat.ble (Nat.succ l.z) n with
    | false => rw [hb] at e; cases e
    | true =>
      rw [hb, cond_true, PM.putK_eq] at e
      exact ⟨e, Nat.le_of_ble_eq_true hb⟩
  let Qf := bodyPostM (FW none) 0 P fn R
  let Qb : Exit → Act → World → Prop := Exit.then (fun x y => l.rest.wpIn (FW none) 0 P Qf x y) Qf
  have out : ∀ {T : PM AV} {h : AH} {E : Env} {a : Act} {u : Value} {w : World} {Q3 : Exit → Act → World → Prop}, tputK n T (some l.z) (.bool false) (fun T => finK P hk d n l.rest rs v T h) = true → St w₀ q E h w → TRel E n T a.tmps → HRel E h w → a.defers = [] → VRel E (.bool false) u →
      (∀ a w, Q3 (.exit ex) a w = Exit.inBlock ex Qb (.exit ex) a w) → (Code.cond (.tmp l.z) .skip (.exit ex)).wpIn (FW none) 0 P Q3 (a.put (some l.z) u) w := by
    intro T h E a u w Q3 e st tr hr hd hv hQ
    obtain ⟨e3, hz⟩ := putz e
    obtain ⟨tr2, hev⟩ := evz hz tr hv
    refine wpIn_cond_false hev (wpIn_exit ?_)
    rw [hQ]
    show (if ex = ex then Qb .normal _ _ else Qb (.exit ex) _ _)
    rw [if_pos rfl]
    exact finK_wp hm hh hn e3 hfn hrs hR E _ w st tr2 hr (by rw [put_defers]; exact hd)
  intro j
  induction j with
  | zero =>
    intro i T h hic hcj e E a w st tr hr hd
    have hci : c = i := by omega
    rw [roundsIn_succ, ok.code]
    refine wpIn_seq (wpIn_seq (head i T h _ _ e E a w st tr hr hd fun T' h' e2 E' a' u w' st' tr' hr' hd' hv => ?_))
    rw [show Nat.blt i c = false by rw [hci]; exact blt_false (Nat.lt_irrefl _)] at hv
    exact out e2 st' tr' hr' hd' hv fun _ _ => rfl
  | succ j ih =>
    intro i T h hic hcj e E a w st tr hr hd
    rw [roundsIn_succ]
    conv => arg 4; rw [ok.code]
    refine wpIn_seq (wpIn_seq (head i T h _ _ e E a w st tr hr hd fun T' h' e2 E' a' u w' st' tr' hr' hd' hv => ?_))
    simp only [Bool.and_eq_true] at e2
    by_cases hlt : i < c
    · rw [blt_true hlt] at hv
      obtain ⟨e3, hz⟩ := putz e2.2
      obtain ⟨tr2, hev⟩ := evz hz tr' hv
      refine wpIn_cond_true hev (wpIn_skip ?_)
      show l.body.wpIn (FW none) 0 P _ _ _
      refine goK_wp hm hh hn e3 (fun T2 h2 e4 E2 a2 w2 st2 tr2 hr2 hd2 => ?_) E' _ w' st' tr2 hr' (by rw [put_defers]; exact hd')
      exact ih (i + 1) T2 h2 (by omega) (by omega) e4 E2 a2 w2 st2 tr2 hr2 hd2
    · have hci : c = i := by omega
      rw [show Nat.blt i c = false by rw [hci]; exact blt_false (Nat.lt_irrefl _)] at hv
      exact out e2.1 st' tr' hr' hd' hv fun _ _ => rfl
/-- The loop in its block, and what stands behind it. -/
theorem heads_wp (hm : P.follows .mixedOrders = true) {hk : Hook} (hh : HookOK P hk) {d n : Nat} (hn : n ≤ 1000000) {l : Lp} {id ex : Nat} {loop : Code} (ok : l.OK id ex loop) {k : Nat} {rs : List ResultVar} {v : AV} {w₀ : World} {q : Nat → Value} {c : Nat}
    (hq : q k = .int .i64 (.ofNat c)) {fn : Func} (hfn : fn.ntmps = n) (hrs : fn.results.toList = rs) {R : Ending → World → Prop} (hR : ∀ E u w', VRel E v u → Below w₀.heap.size w₀ w' → R (.returned u) w') {j : Nat} {T : PM AV} {h : AH} (hc : c ≤ j)
    (e : headsK P hk d n l k rs v j 0 T h = true) : ∀ (E : Env) (a : Act) (w : World), St w₀ q E h w → TRel E n T a.tmps → HRel E h w → a.defers = [] →
      (Code.block ex (.loop loop)).wpIn (FW none) 0 P (Exit.then (fun x y => l.rest.wpIn (FW none) 0 P (bodyPostM (FW none) 0 P fn R) x y) (bodyPostM (FW none) 0 P fn R)) a w := fun E a w st tr hr hd =>
  wpIn_block (wpIn_loop_rounds (j + 1) (headsK_ok hm hh hn ok hq hfn hrs hR j 0 T h (Nat.zero_le _) (by omega) e E a w st tr hr hd))
end
end Go.Ax
