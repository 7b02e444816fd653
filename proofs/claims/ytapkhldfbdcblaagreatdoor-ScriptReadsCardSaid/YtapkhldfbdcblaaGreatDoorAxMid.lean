/- An abstract executor: what was run once from a part of a heap, used wherever that part lies; the end of a body; a number's low bits. -/
import Derived.Test.YtapkhldfbdcblaaGreatDoorAxLaw
set_option linter.unusedSectionVars false
set_option linter.unnecessarySimpa false
set_option linter.unusedSimpArgs false
set_option linter.unusedVariables false
namespace Go.Ax
open Go.RowKit (Below)
noncomputable section
variable {P : Program}

def hasKey (l : Lit) (p : Pos) : Bool :=
  match l with
  | [] => false
  | (q, _) :: r => eqP q p || hasKey r p
/-- Each key of the one is a key of the other. -/
def keysIn (a b : Lit) : Bool := a.all fun x => hasKey b x.1
theorem hasKey_ok {p : Pos} : ∀ {l : Lit}, hasKey l p = true → ∃ o, (p, o) ∈ l
  | [], h => by cases h
  | (q, o) :: r, h => by
    simp only [hasKey, Bool.or_eq_true] at h
    rcases h with h | h
    · rw [eqP_ok h]; exact ⟨o, List.mem_cons_self ..⟩
    · obtain ⟨o', ho⟩ := hasKey_ok h
      exact ⟨o', List.mem_cons_of_mem _ ho⟩
theorem addAll_cases : ∀ {l : Lit} {m : PM AObj} {p : Pos} {o : AObj}, asc l = true → (addAll l m).get p = some o → (p, o) ∈ l ∨ ((∀ o', (p, o') ∉ l) ∧ m.get p = some o) := by
  intro l m p o ha h
  by_cases hk : ∃ o', (p, o') ∈ l
  · obtain ⟨o', ho⟩ := hk
    rw [asc_get ha p o' ho] at h
    injection h with h
    subst h
    exact .inl ho
  · have hk' : ∀ o', (p, o') ∉ l := fun o' ho => hk ⟨o', ho⟩
    rw [addAll_other l m fun y hy e => hk' y.2 (by rw [← e]; exact hy)] at h
    exact .inr ⟨hk', h⟩
theorem HRel.raise {E : Env} {h : AH} {w : World} (r : HRel E h w) {n : Pos} (hn : h.nx.nat ≤ n.nat) : HRel E { h with nx := n } w :=
  ⟨r.obj, r.inj, fun p hp => r.fresh p (Nat.le_trans hn hp), r.below⟩

theorem SoundF.mid {f : FuncId} {args : List AV} {pre post : Lit} {n n' : Pos} {v : AV} (s : SoundF P f args { m := addAll pre .nil, nx := n } v { m := addAll post .nil, nx := n' }) {h : AH}
    (hs : ∀ p o, (addAll pre PM.nil).get p = some o → h.m.get p = some o) (hn : h.nx.nat ≤ n.nat) (ha : asc post = true) (hk : keysIn pre post = true) : SoundF P f args h v { m := addAll post h.m, nx := n' } := by
  intro E nn w us R hu hr kR
  have hr2 : HRel E { h with nx := n } w := hr.raise hn
  have hs' : ∀ p o, ({ m := addAll pre .nil, nx := n } : AH).m.get p = some o → (h.m.get p).isSome = true := fun p o hp => by rw [hs p o hp]; rfl
  have h0 : HRel E { m := addAll pre .nil, nx := n } w := hr2.f.sub hs rfl
  refine s E nn w us R hu h0 fun E' u w' f hr' hv => ?_
  have hF : HRelF E h.m.get ({ m := addAll pre .nil, nx := n } : AH).nx w := hr2.f
  obtain ⟨b1, b2⟩ := hF.beside hs' f hr'
  have f0 : FrF E h w E h.m.get ({ m := addAll pre .nil, nx := n } : AH).nx w := ⟨.refl E, fun _ _ => rfl, hn, Nat.le_refl _, rfl, rfl, rfl, fun _ _ _ => rfl, fun b B sh N l e => .inr ⟨b, sh, N, l, e⟩⟩
  have b3 := f0.beside hF hs' f
  have sub : ∀ p o, (addAll post h.m).get p = some o → Ax.beside h.m.get { m := addAll pre .nil, nx := n } { m := addAll post .nil, nx := n' } p = some o := fun p o hp => by
    rw [beside_spec]
    rcases addAll_cases ha hp with h1 | ⟨h1, h2⟩
    · exact .inl (asc_get ha p o h1)
    · refine .inr ⟨?_, ?_, h2⟩
      · show (addAll post .nil).get p = none
        rw [addAll_other post _ fun y hy e => h1 y.2 (by rw [← e]; exact hy), PM.get_nil]
      · show (addAll pre .nil).get p = none
        rw [addAll_other pre _ fun y hy e => ?_, PM.get_nil]
        have := List.all_eq_true.1 hk y hy
        obtain ⟨o', ho'⟩ := hasKey_ok this
        exact h1 o' (by rw [← e]; exact ho')
  exact kR E' u w' (b3.fr (h' := { m := addAll post h.m, nx := n' }) sub) (b1.sub sub rfl) hv

/-- What was run once from a part of a heap. -/
def midK (c : Chunk) : Hook := fun f args h k z =>
  bif Nat.beq f c.f then (bif Nat.ble h.nx c.nx then (bif eqAs args c.args then (bif subK c.pre h.m then fVal c.v fun v => buildK c.post h.m fun m => fNat c.nx' fun n => k v ⟨m, n⟩ else z) else z) else z) else z
def Chunk.fit (c : Chunk) : Bool := asc c.post && keysIn c.pre c.post
theorem midK_ok {c : Chunk} (hc : c.ok P) (hf : c.fit = true) : HookOK P (midK c) := by
  intro f args h k z e
  simp only [Chunk.fit, Bool.and_eq_true] at hf
  unfold midK at e
  cases h1 : Nat.beq f c.f with
  | false => rw [h1] at e; exact .inr e
  | true =>
    cases h2 : Nat.ble h.nx c.nx with
    | false => rw [h1, h2] at e; exact .inr e
    | true =>
      cases h3 : eqAs args c.args with
      | false => rw [h1, h2, h3] at e; exact .inr e
      | true =>
        cases h4 : subK c.pre h.m with
        | false => rw [h1, h2, h3, h4] at e; exact .inr e
        | true =>
          rw [h1, h2, h3, h4] at e
          simp only [cond_true, fVal_eq, buildK_eq, fNat_eq] at e
          have e1 := Nat.eq_of_beq_eq_true h1
          have e2 := Nat.le_of_ble_eq_true h2
          have e3 := eqAs_ok h3
          subst e1 e3
          exact .inl ⟨c.v, _, e, hc.1, hc.2.mid (subK_get h4) e2 hf.1 hf.2⟩

/-- The end of a body: what it returns. -/
def endK (P : Program) (hk : Hook) (d n : Nat) (c : Code) (ts : List (Nat × AV)) (nx : Nat) (pre : Lit) (rs : List ResultVar) (v : AV) : Bool :=
  fNat n fun n => buildK pre .nil fun m => fNat nx fun nx => pieceK.fTs ts .nil fun T => (codeB P hk n c).f (runS P hk d) none T ⟨m, nx⟩ [] fun x T h m =>
    (pieceK.noL m && (match x with | .exit _ => false | _ => true)) && (match resultA P h T rs with | some u => eqR u v | none => false)
theorem endK_ok (hm : P.follows .mixedOrders = true) {hk : Hook} (hh : HookOK P hk) {d n : Nat} (hn : n ≤ 1000000) {c : Code} {ts : List (Nat × AV)} {nx : Nat} {pre : Lit} {rs : List ResultVar} {v : AV} (e : endK P hk d n c ts nx pre rs v = true)
    {fn : Func} (hfn : fn.ntmps = n) (hrs : fn.results.toList = rs) {R : Ending → World → Prop} {E : Env} {nn : Nat} {a : Act} {w : World} (tr : TRel E n (tmpsOf ts) a.tmps) (hr : HRel E (heapOf pre nx) w) (hd : a.defers = [])
    (hR : ∀ E' h' u w', Fr E (heapOf pre nx) w E' h' w' → VRel E' v u → R (.returned u) w') : c.wpIn (FW none) nn P (bodyPostM (FW none) nn P fn R) a w := by
  unfold endK at e
  simp only [fNat_eq, buildK_eq, fTs_eq] at e
  obtain ⟨x, T', h', m', e1, s⟩ := codeB_ok hm hh (runS_good hm hh d) hn none c _ _ _ _ e
  simp only [Bool.and_eq_true] at e1
  obtain ⟨⟨e2, e3⟩, e4⟩ := e1
  have hm' : m' = [] := by
    cases m' with
    | nil => rfl
    | cons => cases e2
  subst hm'
  refine s E none nn a w _ rfl tr hr (by rw [hd]; rfl) fun E' a' w' f tr' hr' hd' => ?_
  have hd2 : a'.defers = [] := by
    have : DRel E' [] a'.defers := hd'
    simpa [DRel] using this
  split at e4
  · rename_i u hu
    have hv := eqR_ok e4
    subst hv
    rw [← hrs] at hu
    obtain ⟨u', g1, g2⟩ := resultA_ok (w := w') tr' hr' hu
    have key : LeavesInM (FW none) nn P fn a'.tmps R a'.defers .returning w' := by
      rw [hd2]; exact ⟨u', g1, hR E' h' u' w' f g2⟩
    cases x with
    | exit id => cases e3
    | normal => exact key
    | ret => exact key
  · cases e4

/-! a number's low bits -/
theorem and_low (z : Int) (m : Nat) (hm : m < 2 ^ 62) : ∃ r : Nat, r ≤ m ∧ bits .and .i64 z (.ofNat m) = .ofNat r := by
  refine ⟨(BitVec.ofInt 64 z &&& BitVec.ofInt 64 (.ofNat m)).toNat, ?_, ?_⟩
  · rw [BitVec.toNat_and, ofInt_nat, BitVec.toNat_ofNat, Nat.mod_eq_of_lt (by omega)]
    exact Nat.and_le_right
  · have h : (BitVec.ofInt 64 z &&& BitVec.ofInt 64 (.ofNat m)).toNat ≤ m := by
      rw [BitVec.toNat_and, ofInt_nat, BitVec.toNat_ofNat, Nat.mod_eq_of_lt (by omega)]
      exact Nat.and_le_right
    show IntKind.i64.wrap (((BitVec.ofInt 64 z &&& BitVec.ofInt 64 (.ofNat m)).toNat : Nat) : Int) = _
    exact wrap_small (.inl rfl) (by omega)
/-- An operation that takes a number's low bits. -/
theorem and_go {o : Oper} {t pt : TypeId} {x : Operand} {m : Nat} (ho : o.op = .binOp .and t x (.const (.int .i64 (.ofNat m))) pt) {n : Nat} {T : PM AV} {h : AH} {z : Int} (hz : evA T x = some (.int .i64 z)) :
    SoundO P o n T h (.int .i64 (bits .and .i64 z (.ofNat m))) h := by
  have e : opA P o T h = some (.val (.int .i64 (bits .and .i64 z (.ofNat m)))) := by
    unfold opA
    rw [ho]
    have hc : evA T (.const (.int .i64 (.ofNat m))) = some (.int .i64 (.ofNat m)) := rfl
    simp only [opF, oBin, hz, hc, bind2, binA, decide_true, cond_true, intA, bitsA_eq]
  have s := opA_sound (n := n) e
  exact s
end
end Go.Ax
