/- An abstract executor: pieces of a law's body, walked by hand and by runs. -/
import Derived.Test.YtapkhldfbdcblaaGreatDoorAxLit
import Derived.Below
set_option linter.unusedSectionVars false
set_option linter.unnecessarySimpa false
set_option linter.unusedSimpArgs false
set_option linter.unusedVariables false
namespace Go.Ax
open Go.RowKit (Below)
noncomputable section
variable {P : Program}

theorem opsK_go {hk : Hook} {rec : Rec} (hh : HookOK P hk) (hg : Good P rec) {n : Nat} (hn : n ≤ 1000000) {all : Array Oper} : ∀ (ops : List Oper) (i : Nat) (T : PM AV) (h : AH) (k : PM AV → AH → Bool),
    (∀ j o, ops[j]? = some o → all[i + j]? = some o) → opsK P hk rec n all ops T h k = true → ∃ T' h', k T' h' = true ∧
      ∀ (js : List Nat) (E : Env) (ρ : Option Nat) (nn : Nat) (a : Act) (w : World) (Q : Exit → Act → World → Prop), TRel E n T a.tmps → HRel E h w →
        (∀ E' a' w', Fr E h w E' h' w' → TRel E' n T' a'.tmps → HRel E' h' w' → a'.defers = a.defers → wpOpsIn (FW ρ) nn P all Q js a' w') → wpOpsIn (FW ρ) nn P all Q (List.range' i ops.length ++ js) a w
  | [], i, T, h, k, _, e => ⟨T, h, e, fun js E ρ nn a w Q tr hr kQ => kQ E a w .refl tr hr rfl⟩
  | o :: ops, i, T, h, k, hall, e => by
    have hoi : all[i]? = some o := hall 0 o rfl
    have hall' : ∀ j o', ops[j]? = some o' → all[i + 1 + j]? = some o' := fun j o' hj => by
      have := hall (j + 1) o' (by simpa using hj)
      rw [show i + 1 + j = i + (j + 1) by omega]; exact this
    change goOn (wantedA all T o) P hk rec n o T h (fun T h => opsK P hk rec n all ops T h k) = true at e
    unfold goOn at e
    split at e
    · rename_i hw
      obtain ⟨v, h1, e1, s1⟩ := operK_ok hh hg e
      have s1 := s1 n
      obtain ⟨T1, e2, t1⟩ := tputK_ok hn e1
      obtain ⟨T', h', e3, s2⟩ := opsK_go hh hg hn ops (i + 1) T1 h1 k hall' e2
      refine ⟨T', h', e3, fun js E ρ nn a w Q tr hr kQ => ?_⟩
      simp only [List.length_cons, List.range'_succ, List.cons_append, wpOpsIn, hoi, wantedA_ok tr hw, if_true]
      refine s1 E ρ nn a w _ Q tr hr fun E1 u w1 f1 hr1 hv => ?_
      refine s2 js E1 ρ nn _ w1 Q (t1 E1 a u (tr.mono f1.le) hv) hr1 fun E' a' w' f2 tr' hr' hd' => ?_
      exact kQ E' a' w' (f1.trans f2) tr' hr' (by rw [hd', put_defers])
    · rename_i hw
      obtain ⟨T1, e2, t1⟩ := tputK_ok hn e
      obtain ⟨T', h', e3, s2⟩ := opsK_go hh hg hn ops (i + 1) T1 h k hall' e2
      refine ⟨T', h', e3, fun js E ρ nn a w Q tr hr kQ => ?_⟩
      simp only [List.length_cons, List.range'_succ, List.cons_append, wpOpsIn, hoi, wantedA_ok tr hw]
      rw [if_neg (by simp)]
      refine ⟨fun _ _ => trivial, ?_⟩
      refine s2 js E ρ nn _ w Q (t1 E a undef tr (by simp only [VRel, AV.undef, VRelL, undef]; exact ⟨#[], rfl, rfl⟩)) hr fun E' a' w' f2 tr' hr' hd' => ?_
      exact kQ E' a' w' f2 tr' hr' (by rw [hd', put_defers])
    · cases e

/-- An operation that calls a function of which a contract is at hand. -/
theorem call_go {o : Oper} {c : Call} {f : FuncId} (ho : o.op = .call c) (hc : c.callee = .value (.func f)) (hcal : Callable P f) {ρ : Option Nat} {nn : Nat} {a : Act} {w : World} {next : Act → World → Prop} {Q : Exit → Act → World → Prop} {us : List Value}
    (hus : c.args.toList.map a.eval = us) {R : Ending → World → Prop} (s : CallsIn (FW none) (nn - 1) P f us.toArray w R) (hR : ∀ e w', R e w' → ∃ v, e = .returned v ∧ next (a.put o.dst v) w') : o.wpIn (FW ρ) nn P a w next Q := by
  obtain ⟨fn, body, hf, hname, hb⟩ := hcal
  refine ⟨fun _ _ => trivial, ?_⟩
  rw [Oper.semAt_eq _ _ _ (by intro d hd; rw [ho] at hd; cases hd)]
  have hname' : ¬ fn.name = "runtime.NumGoroutine" := by simpa using hname
  have hev : a.eval (.func f) = .func (.func f) #[] #[] := rfl
  have hrun : (execOp a.eval o).run P w = .ok (.enter f (c.args.map a.eval)) w := by
    simp [execOp, ho, resolve, hc, hev, Deferred.ofValue, Sem.run_bind, invoke, callFunc, Result.andThen_ok, hf, hname', hb]
  rw [hrun, Oper.uponIn_enter]
  refine ⟨by simp [FW], CallsIn.turn ?_⟩
  have : c.args.map a.eval = us.toArray := by rw [← hus]; apply Array.ext'; simp
  rw [this]
  exact s.mono fun e w' hr => by
    obtain ⟨v, rfl, h⟩ := hR e w' hr
    exact h

theorem Fr.below {E E' : Env} {h h' : AH} {w w₀ w' : World} (f : Fr E h w E' h' w') (hn : ∀ b B sh N, h.live b → E.blk b = some (B, sh, N) → w₀.heap.size ≤ B) (hb : Below w₀.heap.size w₀ w) : Below w₀.heap.size w₀ w' :=
  hb.trans ⟨f.os, f.tape, f.output, f.size, fun k hk => f.rest k (Nat.lt_of_lt_of_le hk hb.size) fun b sh N l e => by have := hn b k sh N l e; omega⟩
theorem Fr.own_below {E E' : Env} {h h' : AH} {w w₀ w' : World} (f : Fr E h w E' h' w') (hs : w₀.heap.size ≤ w.heap.size) (hn : ∀ b B sh N, h.live b → E.blk b = some (B, sh, N) → w₀.heap.size ≤ B) :
    ∀ b B sh N, h'.live b → E'.blk b = some (B, sh, N) → w₀.heap.size ≤ B := fun b B sh N l e => by
  rcases f.own b B sh N l e with h1 | ⟨b₀, sh₀, N₀, h1, h2⟩
  · omega
  · exact hn _ _ _ _ h1 h2
theorem HRel.kept {E : Env} {h : AH} {w w' : World} (r : HRel E h w) (hb : Below w.heap.size w w') : HRel E h w' ∧ Fr E h w E h w' :=
  ⟨⟨fun b o ho => let ⟨B, sh, N, h1, h2⟩ := r.obj b o ho; ⟨B, sh, N, h1, by rw [hb.block B (r.below _ _ _ _ h1)]; exact h2⟩, r.inj, r.fresh, fun p B sh N hp => Nat.lt_of_lt_of_le (r.below p B sh N hp) hb.size⟩,
    ⟨.refl E, fun _ _ => rfl, Nat.le_refl _, hb.size, hb.os, hb.tape, hb.output, fun B hB _ => hb.block B hB, fun b B sh N l e => .inr ⟨b, sh, N, l, e⟩⟩⟩

theorem TRel.less {E : Env} {n : Nat} {T T' : PM AV} {tmps : Array Value} (r : TRel E n T tmps) (h : ∀ t v, T'.get (posOf t) = some v → T.get (posOf t) = some v) : TRel E n T' tmps :=
  ⟨r.1, fun t v ht hg => r.2 t v ht (h t v hg)⟩

/-- Temporaries, written out. -/
def tmpsOf : List (Nat × AV) → PM AV
  | [] => .nil
  | (t, v) :: r => (tmpsOf r).put (posOf t) (some v)
def hasT (l : List (Nat × AV)) (T : PM AV) : Bool :=
  match l with
  | [] => true
  | (t, v) :: r => (match T.get (posOf t) with | some u => eqR v u | none => false) && hasT r T
theorem tmpsOf_get : ∀ {l : List (Nat × AV)} {T : PM AV}, hasT l T = true → ∀ t v, (tmpsOf l).get (posOf t) = some v → T.get (posOf t) = some v
  | [], T, _, t, v, h => by simp only [tmpsOf, PM.get_nil] at h; cases h
  | (s, u) :: r, T, h, t, v, hg => by
    simp only [hasT, Bool.and_eq_true] at h
    obtain ⟨h1, h2⟩ := h
    simp only [tmpsOf, PM.get_put] at hg
    by_cases e : posOf s = posOf t
    · rw [if_pos e] at hg
      injection hg with hg
      subst hg
      rw [← e]
      split at h1
      · rename_i x hx; rw [hx, eqR_ok h1]
      · cases h1
    · rw [if_neg e] at hg
      exact tmpsOf_get h2 t v hg

/-- A piece of code, run from temporaries and a heap that are written out, to others. -/
structure Piece where
  c : Code
  ts : List (Nat × AV)
  nx : Nat
  pre : Lit
  x : CX
  ts' : List (Nat × AV)
  nx' : Nat
  post : Lit
def sameX : CX → CX → Bool
  | .normal, .normal => true
  | .ret, .ret => true
  | .exit i, .exit j => Nat.beq i j
  | _, _ => false
theorem sameX_ok {a b : CX} (h : sameX a b = true) : a = b := by
  cases a <;> cases b <;> simp [sameX] at h ⊢; exact h
def heapOf (l : Lit) (nx : Nat) : AH := { m := addAll l .nil, nx := nx }
def pieceK (P : Program) (hk : Hook) (d n : Nat) (p : Piece) : Bool :=
  fNat n fun n => buildK p.pre .nil fun m => fNat p.nx fun nx => fTs p.ts .nil fun T => (codeB P hk n p.c).f (runS P hk d) none T ⟨m, nx⟩ [] fun x T h m => (sameX x p.x && noL m) && (hasT p.ts' T && (Nat.beq h.nx p.nx' && subK p.post h.m))
where
  noL : List Pos → Bool
    | [] => true
    | _ => false
  fTs : List (Nat × AV) → PM AV → (PM AV → Bool) → Bool
    | [], T, k => k T
    | (t, v) :: r, T, k => fTs r T fun T => fVal v fun v => T.putK (posOf t) (some v) k
theorem fTs_eq : ∀ (l : List (Nat × AV)) (k : PM AV → Bool), pieceK.fTs l .nil k = k (tmpsOf l)
  | [], _ => rfl
  | (t, v) :: r, k => by
    simp only [pieceK.fTs, fTs_eq r, fVal_eq, PM.putK_eq, tmpsOf]
theorem pieceK_ok (hm : P.follows .mixedOrders = true) {hk : Hook} (hh : HookOK P hk) {d n : Nat} (hn : n ≤ 1000000) {p : Piece} (e : pieceK P hk d n p = true) :
    ∀ (E : Env) (nn : Nat) (a : Act) (w : World) (Q : Exit → Act → World → Prop), TRel E n (tmpsOf p.ts) a.tmps → HRel E (heapOf p.pre p.nx) w → a.defers = [] →
      (∀ E' a' w', Fr E (heapOf p.pre p.nx) w E' (heapOf p.post p.nx') w' → TRel E' n (tmpsOf p.ts') a'.tmps → HRel E' (heapOf p.post p.nx') w' → a'.defers = [] → Q p.x.toExit a' w') → p.c.wpIn (FW none) nn P Q a w := by
  unfold pieceK at e
  simp only [fNat_eq, buildK_eq, fTs_eq] at e
  obtain ⟨x, T', h', m', e1, s⟩ := codeB_ok hm hh (runS_good hm hh d) hn none p.c _ _ _ _ e
  simp only [Bool.and_eq_true] at e1
  obtain ⟨⟨e2, e3⟩, e4, e5, e6⟩ := e1
  have e2 := sameX_ok e2
  have e5 := Nat.eq_of_beq_eq_true e5
  subst e2
  intro E nn a w Q tr hr hd kQ
  have hm' : m' = [] := by
    cases m' with
    | nil => rfl
    | cons => cases e3
  subst hm'
  refine s E none nn a w Q rfl tr hr (by rw [hd]; rfl) fun E' a' w' f tr' hr' hd' => ?_
  have live' : ∀ b, (heapOf p.post p.nx').live b → h'.live b := fun b l => by
    unfold AH.live at l ⊢
    obtain ⟨o, ho⟩ := Option.isSome_iff_exists.1 l
    rw [subK_get e6 b o ho]; rfl
  refine kQ E' a' w' ⟨f.le, f.old, by rw [show (heapOf p.post p.nx').nx = h'.nx from e5.symm]; exact f.nx, f.size, f.os, f.tape, f.output, f.rest, fun b B sh N l e => f.own b B sh N (live' b l) e⟩ (tr'.less (tmpsOf_get e4)) (hr'.f.sub (subK_get e6) e5.symm) ?_
  have : DRel E' [] a'.defers := hd'
  simpa [DRel] using this

/-- What was made of nothing, made again beside what there is. -/
def addK (c : Chunk) : Hook := fun f args h k z =>
  bif Nat.beq f c.f then (bif Nat.beq h.nx c.nx then (bif eqAs args c.args then fVal c.v fun v => buildK c.post h.m fun m => fNat c.nx' fun n => k v ⟨m, n⟩ else z) else z) else z
/-- The keys, each one less than those behind it. -/
def asc : Lit → Bool
  | [] => true
  | (p, _) :: r => r.all (fun x => Nat.blt p x.1) && asc r
theorem addAll_other {q : Pos} : ∀ (r : Lit) (m : PM AObj), (∀ y ∈ r, y.1 ≠ q) → (addAll r m).get q = m.get q
  | [], _, _ => rfl
  | x :: r, m, h => by
    show (addAll r (m.put x.1 (some x.2))).get q = _
    rw [addAll_other r _ fun y hy => h y (List.mem_cons_of_mem _ hy), PM.get_put_other _ _ _ _ (h x (List.mem_cons_self ..))]
theorem asc_get : ∀ {l : Lit} {m : PM AObj}, asc l = true → ∀ p o, (p, o) ∈ l → (addAll l m).get p = some o
  | [], _, _, _, _, h => by cases h
  | (q, x) :: r, m, h, p, o, hm => by
    simp only [asc, Bool.and_eq_true, List.all_eq_true] at h
    rcases List.mem_cons.1 hm with e | hm
    · injection e with e1 e2
      subst e1 e2
      show (addAll r (m.put p (some o))).get p = _
      rw [addAll_other r _ fun y hy e => ?_, PM.get_put_same]
      have := h.1 y hy
      rw [e] at this
      have h2 : Nat.blt (p : Nat) (p : Nat) = false := blt_false (Nat.lt_irrefl _)
      rw [show Nat.blt p p = false from h2] at this
      cases this
    · exact asc_get h.2 p o hm
theorem addK_ok {c : Chunk} (hc : c.ok P) (hp : c.pre = []) (ha : asc c.post = true) : HookOK P (addK c) := by
  intro f args h k z e
  unfold addK at e
  cases h1 : Nat.beq f c.f with
  | false => rw [h1] at e; exact .inr e
  | true =>
    cases h2 : Nat.beq h.nx c.nx with
    | false => rw [h1, h2] at e; exact .inr e
    | true =>
      cases h3 : eqAs args c.args with
      | false => rw [h1, h2, h3] at e; exact .inr e
      | true =>
        rw [h1, h2, h3] at e
        simp only [cond_true, fVal_eq, buildK_eq, fNat_eq] at e
        have e1 := Nat.eq_of_beq_eq_true h1
        have e2 := Nat.eq_of_beq_eq_true h2
        have e3 := eqAs_ok h3
        subst e1 e3
        obtain ⟨hcall, s⟩ := hc
        rw [hp] at s
        refine .inl ⟨c.v, _, e, hcall, ?_⟩
        have s' : SoundF P c.f c.args (bare h.nx) c.v { m := addAll c.post .nil, nx := c.nx' } := by
          rw [show h.nx = c.nx from e2]; exact s
        exact s'.beside (asc_get ha)

/-- A function that is handed nothing, and hands back a truth: all stays. -/
def stayK (f : FuncId) (b : Bool) : Hook := fun g args h k z =>
  match args with
  | [] => bif Nat.beq g f then k (.bool b) h else z
  | _ => z
theorem stayK_ok {c : Chunk} (hc : c.ok P) (hp : c.pre = []) (ha : c.args = []) {b : Bool} (hv : c.v = .bool b) : HookOK P (stayK c.f b) := by
  intro f args h k z e
  unfold stayK at e
  split at e
  · cases h1 : Nat.beq f c.f with
    | false => rw [h1] at e; exact .inr e
    | true =>
      rw [h1] at e
      have e1 := Nat.eq_of_beq_eq_true h1
      subst e1
      obtain ⟨hcall, s⟩ := hc
      rw [hp, ha, hv] at s
      refine .inl ⟨_, _, e, hcall, SoundF.stays' (n := c.nx) s (fun _ _ us _ hu => by simpa only [VRelL] using hu) fun _ _ u _ hu => by simpa only [VRel] using hu⟩
  · exact .inr e
/-- The same, as a contract. -/
theorem truth_calls {c : Chunk} (hc : c.ok P) (hp : c.pre = []) (ha : c.args = []) {b : Bool} (hv : c.v = .bool b) (nn : Nat) (w : World) :
    CallsIn (FW none) nn P c.f #[] w fun e w' => e = .returned (.bool b) ∧ Below w.heap.size w w' := by
  obtain ⟨_, s⟩ := hc
  rw [hp, ha, hv] at s
  let E0 : Env := { blk := fun _ => none, opq := fun _ => .bool false, opqCell := fun _ => ⟨fun _ h => (by cases h), fun _ h => (by cases h)⟩ }
  have nolive : ∀ b, ¬ (bare c.nx).live b := fun b hb => by unfold AH.live bare at hb; rw [PM.get_nil] at hb; cases hb
  refine s E0 nn w [] _ (by simp only [VRelL]) ⟨fun p o hp => by simp [addAll, PM.get_nil] at hp, fun b b' B sh N sh' N' l _ _ _ => absurd l (nolive b), fun _ _ => rfl, fun p B sh N hp => by cases hp⟩ fun E' u w' f hr hu => ?_
  simp only [VRel] at hu
  exact ⟨by rw [hu], f.below (w₀ := w) (fun b B sh N l _ => absurd l (nolive b)) (.refl _ _)⟩

/-- Operations of a region, one behind the other, between temporaries and heaps that are written out. -/
structure Seg where
  ops : List Oper
  ts : List (Nat × AV)
  nx : Nat
  pre : Lit
  ts' : List (Nat × AV)
  nx' : Nat
  post : Lit
def segK (P : Program) (hk : Hook) (d n : Nat) (all : Array Oper) (p : Seg) : Bool :=
  fNat n fun n => buildK p.pre .nil fun m => fNat p.nx fun nx => pieceK.fTs p.ts .nil fun T => opsK P hk (runS P hk d) n all p.ops T ⟨m, nx⟩ fun T h => hasT p.ts' T && (Nat.beq h.nx p.nx' && subK p.post h.m)
theorem segK_ok (hm : P.follows .mixedOrders = true) {hk : Hook} (hh : HookOK P hk) {d n : Nat} (hn : n ≤ 1000000) {all : Array Oper} {p : Seg} (i : Nat) (hall : ∀ j o, p.ops[j]? = some o → all[i + j]? = some o) (e : segK P hk d n all p = true) :
    ∀ (js : List Nat) (E : Env) (nn : Nat) (a : Act) (w : World) (Q : Exit → Act → World → Prop), TRel E n (tmpsOf p.ts) a.tmps → HRel E (heapOf p.pre p.nx) w →
      (∀ E' a' w', Fr E (heapOf p.pre p.nx) w E' (heapOf p.post p.nx') w' → TRel E' n (tmpsOf p.ts') a'.tmps → HRel E' (heapOf p.post p.nx') w' → a'.defers = a.defers → wpOpsIn (FW none) nn P all Q js a' w') →
      wpOpsIn (FW none) nn P all Q (List.range' i p.ops.length ++ js) a w := by
  unfold segK at e
  simp only [fNat_eq, buildK_eq, fTs_eq] at e
  obtain ⟨T', h', e1, s⟩ := opsK_go hh (runS_good hm hh d) hn p.ops i _ _ _ hall e
  simp only [Bool.and_eq_true] at e1
  obtain ⟨e4, e5, e6⟩ := e1
  have e5 := Nat.eq_of_beq_eq_true e5
  intro js E nn a w Q tr hr kQ
  refine s js E none nn a w Q tr hr fun E' a' w' f tr' hr' hd' => ?_
  have live' : ∀ b, (heapOf p.post p.nx').live b → h'.live b := fun b l => by
    unfold AH.live at l ⊢
    obtain ⟨o, ho⟩ := Option.isSome_iff_exists.1 l
    rw [subK_get e6 b o ho]; rfl
  exact kQ E' a' w' ⟨f.le, f.old, by rw [show (heapOf p.post p.nx').nx = h'.nx from e5.symm]; exact f.nx, f.size, f.os, f.tape, f.output, f.rest, fun b B sh N l e => f.own b B sh N (live' b l) e⟩ (tr'.less (tmpsOf_get e4)) (hr'.f.sub (subK_get e6) e5.symm) hd'
theorem put_ok {n : Nat} {ts ts' : List (Nat × AV)} {d : Nat} {v : AV} (hn : n ≤ 1000000) (e : tputK n (tmpsOf ts) (some d) v (fun T => hasT ts' T) = true) {E : Env} {a : Act} {u : Value} (tr : TRel E n (tmpsOf ts) a.tmps) (hv : VRel E v u) :
    TRel E n (tmpsOf ts') (a.put (some d) u).tmps := by
  obtain ⟨T', h1, h2⟩ := tputK_ok hn e
  exact (h2 E a u tr hv).less (tmpsOf_get h1)

/-- A function's body, from its arguments, to what it returns. -/
theorem callsIn_body {f : FuncId} {fn : Func} {c : Code} {us : List Value} {args : List AV} {w : World} {nn : Nat} {R : Ending → World → Prop} (hf : P.funcs[f]? = some fn) (hb : fn.body = some c) (hl : args.length ≤ fn.ntmps) (hl' : fn.ntmps ≤ 1000000)
    {ts : List (Nat × AV)} (e : argsK 0 args .nil (fun T => hasT ts T) = true) {E : Env} (hu : VRelL E args us)
    (h : ∀ a : Act, TRel E fn.ntmps (tmpsOf ts) a.tmps → a.defers = [] → c.wpIn (FW none) nn P (bodyPostM (FW none) nn P fn R) a w) : CallsIn (FW none) nn P f us.toArray w R := by
  obtain ⟨T, e1, hT⟩ := argsK_ok args 0 .nil _ (by omega) e
  exact callsIn_of_wp_marks (F := FW none) hf hb trivial (h _ ((TRel.start hl hu hT).less (tmpsOf_get e1)) rfl) rfl
theorem body_ret {fn : Func} {R : Ending → World → Prop} {nn : Nat} {E : Env} {h : AH} {ts : List (Nat × AV)} {a : Act} {w : World} {v : AV} (x : CX) (hx : x = .normal ∨ x = .ret) (hd : a.defers = []) (tr : TRel E fn.ntmps (tmpsOf ts) a.tmps) (hr : HRel E h w) (e : resultA P h (tmpsOf ts) fn.results.toList = some v)
    (hR : ∀ u, VRel E v u → R (.returned u) w) : bodyPostM (FW none) nn P fn R x.toExit a w := by
  obtain ⟨u, g1, g2⟩ := resultA_ok (w := w) tr hr e
  have key : LeavesInM (FW none) nn P fn a.tmps R a.defers .returning w := by
    rw [hd]; exact ⟨u, g1, hR u g2⟩
  rcases hx with rfl | rfl
  · exact key
  · exact key

/-! what a walk by hand carries on -/
def St (w₀ : World) (q : Nat → Value) (E : Env) (h : AH) (w : World) : Prop :=
  Below w₀.heap.size w₀ w ∧ (∀ b B sh N, h.live b → E.blk b = some (B, sh, N) → w₀.heap.size ≤ B) ∧ E.opq = q
theorem St.step {w₀ w w' : World} {q : Nat → Value} {E E' : Env} {h h' : AH} (s : St w₀ q E h w) (f : Fr E h w E' h' w') : St w₀ q E' h' w' :=
  ⟨f.below s.2.1 s.1, f.own_below s.1.size s.2.1, f.le.opq.trans s.2.2⟩
def E₀ (q : Nat → Value) (hq : ∀ i, (∀ cs, q i ≠ .agg cs) ∧ (∀ cs, q i ≠ .tuple cs)) : Env := { blk := fun _ => none, opq := q, opqCell := hq }
theorem nolive (n : Nat) (b : Pos) : ¬ (heapOf [] n).live b := fun hb => by unfold AH.live heapOf at hb; simp [addAll, PM.get_nil] at hb
theorem St.start (w : World) (q : Nat → Value) (hq) (n : Nat) : St w q (E₀ q hq) (heapOf [] n) w := ⟨.refl _ _, fun b _ _ _ l _ => absurd l (nolive n b), rfl⟩
theorem HRel.start (w : World) (q : Nat → Value) (hq) (n : Nat) : HRel (E₀ q hq) (heapOf [] n) w :=
  ⟨fun b o hb => absurd (show (heapOf [] n).live b by unfold AH.live; rw [hb]; rfl) (nolive n b), fun b b' B sh N sh' N' l _ _ _ => absurd l (nolive n b), fun _ _ => rfl, fun p B sh N hp => by cases hp⟩
theorem VRelL_opq {E : Env} : ∀ {is : List Nat} {vs : List Value}, VRelL E (is.map AV.opq) vs → vs = is.map E.opq
  | [], _, h => by simpa only [List.map_nil, VRelL] using h
  | i :: is, vs, h => by
    simp only [List.map_cons, VRelL, VRel] at h
    obtain ⟨v, vs', rfl, rfl, h2⟩ := h
    rw [VRelL_opq h2]; rfl
theorem VRel_opqs {E : Env} {is : List Nat} {v : Value} (h : VRel E (.agg (is.map AV.opq)) v) : v = .agg (is.map E.opq).toArray := by
  simp only [VRel] at h
  obtain ⟨vs, rfl, h2⟩ := h
  have := VRelL_opq h2
  congr 1
  apply Array.ext'
  simpa using this
theorem opqs_VRelL {E : Env} : ∀ (is : List Nat), VRelL E (is.map AV.opq) (is.map E.opq)
  | [] => by simp only [List.map_nil, VRelL]
  | i :: is => by
    simp only [List.map_cons, VRelL, VRel]
    exact ⟨_, _, rfl, rfl, opqs_VRelL is⟩
theorem opqs_VRel {E : Env} (is : List Nat) : VRel E (.agg (is.map AV.opq)) (.agg (is.map E.opq).toArray) := by
  simp only [VRel]
  exact ⟨_, rfl, by simpa using opqs_VRelL is⟩
theorem ops_do {F : Fence} {n : Nat} {all : Array Oper} {Q : Exit → Act → World → Prop} {i : Nat} {js : List Nat} {a : Act} {w : World} {o : Oper} (ho : all[i]? = some o) (hw : Region.wanted o (yielded all a.tmps) = true)
    (h : o.wpIn F n P a w (wpOpsIn F n P all Q js) Q) : wpOpsIn F n P all Q (i :: js) a w := by
  simp only [wpOpsIn, ho, hw, if_true]; exact h
theorem cut_all (all : Array Oper) (i n : Nat) : ∀ j o, ((all.toList.drop i).take n)[j]? = some o → all[i + j]? = some o := fun j o h => by
  rw [List.getElem?_take] at h
  split at h
  · rw [List.getElem?_drop] at h; simpa using h
  · cases h

/-! a code's parts -/
def seqL : Code → Code
  | .seq a _ => a
  | c => c
def seqR : Code → Code
  | .seq _ b => b
  | c => c
def opsOf : Code → Array Oper
  | .region _ ops _ => ops
  | _ => #[]
end
end Go.Ax
