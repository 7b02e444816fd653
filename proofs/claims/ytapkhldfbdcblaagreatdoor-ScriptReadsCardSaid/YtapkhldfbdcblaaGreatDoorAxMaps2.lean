/- An abstract executor, tenth part: the operations on maps. -/
import Derived.Test.YtapkhldfbdcblaaGreatDoorAxMaps
set_option linter.unusedSectionVars false
set_option linter.unnecessarySimpa false
set_option linter.unusedSimpArgs false
set_option linter.unusedVariables false
namespace Go.Ax
noncomputable section
variable {P : Program}

def mapAt (h : AH) (b : Pos) : Option (List AEnt × Nat) :=
  match h.m.get b with
  | some (.map es c) => some (es, c)
  | _ => none
theorem mapAt_ok {E : Env} {h : AH} {w : World} (hr : HRel E h w) {b : Pos} {es : List AEnt} {c : Nat} (e : mapAt h b = some (es, c)) :
    h.m.get b = some (.map es c) ∧ ∃ B N es', E.blk b = some (B, 0, N) ∧ w.heap[B]? = some (.map es' c) ∧ MRel E es es'.toList := by
  unfold mapAt at e
  split at e <;> simp at e
  rename_i es0 c0 hg
  obtain ⟨rfl, rfl⟩ := e
  obtain ⟨B, sh, N, h1, h2, es', h3, h4⟩ := hr.obj b _ hg
  subst h2
  exact ⟨hg, B, N, es', h1, h3, h4⟩

theorem run_getMap {w : World} {B : Nat} {es : Array MapEntry} {c : Nat} (h : w.heap[B]? = some (.map es c)) : (getObj B).run P w = .ok (.map es c) w := by
  simp [getObj, Sem.run, h]
theorem run_setObj' {w : World} {B : Nat} {o o' : Obj} (h : w.heap[B]? = some o) (hc : ∀ a b c, o ≠ .cells a b c) : (setObj B o').run P w = .ok () { w with heap := w.heap.setIfInBounds B o' } := by
  simp only [setObj, Sem.run, h]

/-- A map's block is turned. -/
theorem HRel.setObj {E : Env} {h : AH} {w : World} (r : HRel E h w) {b : Pos} {B N : Nat} {o₀ o : AObj} {O : Obj} (hg : h.m.get b = some o₀) (hb : E.blk b = some (B, 0, N)) (ho : ORel E o 0 N (some O)) :
    HRel E (h.set b o) { w with heap := w.heap.setIfInBounds B O } ∧ Fr E h w E (h.set b o) { w with heap := w.heap.setIfInBounds B O } := by
  have hlt := r.below _ _ _ _ hb
  refine r.set (by unfold AH.live; rw [hg]; rfl) hb (by simp) (fun k hk => ?_) rfl rfl rfl ?_
  · simp only [Array.getElem?_setIfInBounds]
    rw [if_neg (by omega)]
  · simp [hlt]; exact ho

/-! look-up -/
def entsOf (h : AH) : AV → Option (List AEnt)
  | .nilm => some []
  | .map b => match mapAt h b with
    | some (es, _) => some es
    | none => none
  | _ => none
def lookupA (P : Program) (h : AH) (t : TypeId) (x k : AV) (commaOk : Bool) : Option ORes :=
  match P.underlying t, entsOf h x with
  | some (.map kt et), some es => bif keyFits P kt k then (match findA k es 0 with
    | some (some (_, v)) => some (.val (bif commaOk then .tuple [v, .bool true] else v))
    | some none => match zeroA P et with
      | some z => some (.val (bif commaOk then .tuple [z, .bool false] else z))
      | none => none
    | none => none) else none
  | _, _ => none
theorem entsOf_ok {E : Env} {h : AH} {w : World} (hr : HRel E h w) {x : AV} {u : Value} {es : List AEnt} (hx : VRel E x u) (e : entsOf h x = some es) :
    ∃ es' : Array MapEntry, MRel E es es'.toList ∧ ((u = .map none ∧ es' = #[]) ∨ (∃ B c, u = .map (some B) ∧ w.heap[B]? = some (.map es' c))) := by
  unfold entsOf at e
  split at e
  · simp only [VRel] at hx; subst hx; simp at e; subst e
    exact ⟨#[], by simp [MRel], .inl ⟨rfl, rfl⟩⟩
  · rename_i b
    simp only [VRel] at hx
    obtain ⟨B, N, hb, rfl⟩ := hx
    split at e
    · rename_i es0 c hm
      simp at e; subst e
      obtain ⟨_, B', N', es', h1, h2, h3⟩ := mapAt_ok hr hm
      rw [hb] at h1
      obtain ⟨rfl, rfl⟩ : B = B' ∧ N = N' := by simpa using h1
      exact ⟨es', h3, .inr ⟨B, c, rfl, h2⟩⟩
    · cases e
  · cases e
theorem lookupA_ok {E : Env} {h : AH} {w : World} {t : TypeId} {x k : AV} {u v : Value} {c : Bool} {r : ORes} (hr : HRel E h w) (hx : VRel E x u) (hk : VRel E k v) (e : lookupA P h t x k c = some r) :
    ResOK E h w ((do pure (Next.value (← Instr.lookup t u v c)) : Sem Next).run P w) r := by
  unfold lookupA at e
  split at e
  · rename_i kt et es hu hes
    cases hf : keyFits P kt k
    · simp [hf] at e
    · simp only [hf, cond_true] at e
      obtain ⟨es', hm, hcase⟩ := entsOf_ok hr hx hes
      have fin : ∀ (res : Option (Nat × AV)), findA k es 0 = some res → ∀ (a : AV) (z : Value), VRel E a z → ((match res with | some (_, v) => a = v | none => (zeroValue et).run P w = .ok z w) ) → 
          r = .val (bif c then .tuple [a, .bool res.isSome] else a) → (∀ p, res = some p → ∀ v', VRel E p.2 v' → z = z) → ResOK E h w ((do pure (Next.value (← Instr.lookup t u v c)) : Sem Next).run P w) r := by
        intro res hfind a z haz hres hr' _
        obtain ⟨r', k1, k2⟩ := findKey_ok (P := P) (w := w) hf hk hfind hm
        have hck := checkKey_ok (P := P) (w := w) es'.isEmpty hf hk
        have hrun : ∃ z', VRel E a z' ∧ (Instr.lookup t u v c).run P w = .ok (if c then .tuple #[z', .bool res.isSome] else z') w := by
          cases res with
          | none =>
            have : r' = none := k2
            subst this
            refine ⟨z, haz, ?_⟩
            rcases hcase with ⟨rfl, rfl⟩ | ⟨B, cc, rfl, hB⟩
            · simp only [Instr.lookup, Sem.run_bind, run_underlying hu, Result.andThen_ok, Sem.run_pure, hck, k1, hres]
              cases c <;> simp
            · simp only [Instr.lookup, Sem.run_bind, run_underlying hu, Result.andThen_ok, run_getMap hB, Sem.run_pure, hck, k1, hres]
              cases c <;> simp
          | some p =>
            obtain ⟨i, pv⟩ := p
            obtain ⟨v', q1, q2, _⟩ := k2
            subst q1
            simp only at hres
            subst hres
            refine ⟨v', q2, ?_⟩
            rcases hcase with ⟨rfl, rfl⟩ | ⟨B, cc, rfl, hB⟩
            · simp only [Instr.lookup, Sem.run_bind, run_underlying hu, Result.andThen_ok, Sem.run_pure, hck, k1]
              cases c <;> simp
            · simp only [Instr.lookup, Sem.run_bind, run_underlying hu, Result.andThen_ok, run_getMap hB, Sem.run_pure, hck, k1]
              cases c <;> simp
        obtain ⟨z', hz', hrun⟩ := hrun
        subst hr'
        refine ⟨_, w, .inl (run_value hrun), ?_, .refl w⟩
        cases c
        · exact hz'
        · simp only [cond_true, VRel, if_true]
          exact ⟨_, rfl, by simp only [VRelL]; exact ⟨z', _, rfl, hz', _, _, rfl, by simp only [VRel], rfl⟩⟩
      split at e
      · rename_i i av hfind
        simp at e
        obtain ⟨r', k1, k2⟩ := findKey_ok (P := P) (w := w) hf hk hfind hm
        obtain ⟨v', q1, q2, _⟩ := k2
        exact fin _ hfind av v' q2 rfl e.symm (fun _ _ _ _ => rfl)
      · rename_i hfind
        split at e
        · rename_i z hz
          simp at e
          obtain ⟨i', zv, hi', hz', hrel⟩ := zeroA_ok hz
          exact fin _ hfind z zv (hrel E) (run_zero w hi' hz') e.symm (fun _ _ _ _ => rfl)
        · cases e
      · cases e
  · cases e

/-! update -/
def setEnt (i : Nat) (v : AV) : List AEnt → List AEnt
  | [] => []
  | (k, x, b) :: es => match i with
    | 0 => (k, v, b) :: es
    | i + 1 => (k, x, b) :: setEnt i v es
theorem setEnt_rel {E : Env} {v : AV} {u : Value} (hv : VRel E v u) (key : Value) : ∀ {i : Nat} {es : List AEnt} {es' : List MapEntry}, MRel E es es' → (∀ e, es'[i]? = some e → e.key = key) →
    MRel E (setEnt i v es) (es'.modify i fun e => { e with key := key, val := u })
  | _, [], es', m, _ => by simp only [MRel] at m; subst m; simp [setEnt, MRel]
  | 0, (k, x, b) :: es, es', m, hk => by
    simp only [MRel] at m
    obtain ⟨e0, es'', rfl, h1, h2, h3, h4⟩ := m
    have := hk e0 (by simp)
    simp only [setEnt, List.modify_zero_cons, MRel]
    exact ⟨_, _, rfl, by rw [← this]; exact h1, hv, h3, h4⟩
  | i + 1, (k, x, b) :: es, es', m, hk => by
    simp only [MRel] at m
    obtain ⟨e0, es'', rfl, h1, h2, h3, h4⟩ := m
    simp only [setEnt, List.modify_succ_cons, MRel]
    exact ⟨_, _, rfl, h1, h2, h3, setEnt_rel hv key h4 fun e he => hk e (by simpa using he)⟩
theorem MRel.snoc {E : Env} {k v : AV} {b : Nat} {u z : Value} (hk : VRel E k u) (hv : VRel E v z) : ∀ {es : List AEnt} {es' : List MapEntry}, MRel E es es' → MRel E (es ++ [(k, v, b)]) (es' ++ [{ key := u, val := z, born := b }])
  | [], es', m => by simp only [MRel] at m; subst m; simp only [List.nil_append, MRel]; exact ⟨_, _, rfl, hk, hv, rfl, rfl⟩
  | (k0, v0, b0) :: es, es', m => by
    simp only [MRel] at m
    obtain ⟨e0, es'', rfl, h1, h2, h3, h4⟩ := m
    simp only [List.cons_append, MRel]
    exact ⟨_, _, rfl, h1, h2, h3, MRel.snoc hk hv h4⟩

def updateA (P : Program) (h : AH) (t : TypeId) (x k v : AV) : Option ORes :=
  match x, P.underlying t with
  | .map b, some (.map kt _) => match mapAt h b with
    | some (es, c) => bif keyFits P kt k then (match findA k es 0 with
      | some (some (i, _)) => some (.obj b (.map (setEnt i v es) c) .undef)
      | some none => some (.obj b (.map (es ++ [(k, v, c)]) (c + 1)) .undef)
      | none => none) else none
    | none => none
  | _, _ => none
theorem keyStays {w : World} {u : Value} (h : Instr.sameBits 10000 u u = true) : (Instr.keyThatStays u u).run P w = .ok u w := by
  simp [Instr.keyThatStays, h]
theorem updateA_ok {E : Env} {h : AH} {w : World} {t : TypeId} {x k v : AV} {u z y : Value} {r : ORes} (hr : HRel E h w) (hx : VRel E x u) (hk : VRel E k z) (hv : VRel E v y) (e : updateA P h t x k v = some r) :
    ResOK E h w ((do Instr.mapUpdate t u z y; pure Next.skip : Sem Next).run P w) r := by
  unfold updateA at e
  split at e
  · rename_i b kt et hu
    simp only [VRel] at hx
    obtain ⟨B, N, hb, rfl⟩ := hx
    split at e
    · rename_i es c hm
      obtain ⟨hg, B', N', es', h1, h2, h3⟩ := mapAt_ok hr hm
      rw [hb] at h1
      obtain ⟨rfl, rfl⟩ : B = B' ∧ N = N' := by simpa using h1
      cases hf : keyFits P kt k
      · simp [hf] at e
      · simp only [hf, cond_true] at e
        have hck := checkKey_ok (P := P) (w := w) false hf hk
        split at e
        · rename_i i av hfind
          simp at e; subst e
          obtain ⟨r', k1, k2⟩ := findKey_ok (P := P) (w := w) hf hk hfind h3
          obtain ⟨v', rfl, q2, _, e0, q4, q5, q6⟩ := k2
          simp only [Nat.sub_zero] at q4
          have q4' : es'[i]? = some e0 := by rw [← Array.getElem?_toList]; exact q4
          have hbits : Instr.sameBits 10000 z z = true := by
            clear k1
            -- the entry's key is the key asked for
            have : ∀ {es : List AEnt} {l : List MapEntry} {j : Nat} {q : Nat × AV}, findA k es j = some (some q) → MRel E es l → Instr.sameBits 10000 z z = true := by
              intro es
              induction es with
              | nil => intro l j q hq _; simp [findA] at hq
              | cons a es ih =>
                intro l j q hq hml
                obtain ⟨ka, va, ba⟩ := a
                simp only [MRel] at hml
                obtain ⟨e1, l', rfl, m1, _, _, m4⟩ := hml
                simp only [findA] at hq
                split at hq
                · rename_i he; exact (kEq_true he hk m1).2
                · exact ih hq m4
                · cases hq
            exact this hfind h3
          have hrel : ORel E (.map (setEnt i v es) c) 0 N (some (.map (es'.modify i fun e => { e with key := z, val := y }) c)) := by
            refine ⟨rfl, _, rfl, ?_⟩
            rw [Array.toList_modify]
            exact setEnt_rel hv z h3 fun e1 he1 => by rw [q4] at he1; simp at he1; subst he1; exact q5
          obtain ⟨r1, r2⟩ := hr.setObj hg hb hrel
          refine ⟨undef, _, E, .inr ⟨run_unit ?_, rfl⟩, by simp [ORes.app, AV.undef, VRel, undef, VRelL], r1, r2⟩
          have hks : (Instr.keyThatStays (((es'[i]?).map (·.key)).getD z) z).run P w = .ok z w := by
            rw [q4']; simp only [Option.map_some, Option.getD_some, q5]; exact keyStays hbits
          simp only [Instr.mapUpdate, Sem.run_bind, run_underlying hu, Result.andThen_ok, run_getMap h2, hck, k1, hks]
          exact run_setObj' h2 (by simp)
        · rename_i hfind
          simp at e; subst e
          obtain ⟨r', k1, k2⟩ := findKey_ok (P := P) (w := w) hf hk hfind h3
          have : r' = none := k2
          subst this
          have hrel : ORel E (.map (es ++ [(k, v, c)]) (c + 1)) 0 N (some (.map (es'.push { key := z, val := y, born := c }) (c + 1))) := by
            refine ⟨rfl, _, rfl, ?_⟩
            rw [Array.toList_push]
            exact MRel.snoc hk hv h3
          obtain ⟨r1, r2⟩ := hr.setObj hg hb hrel
          refine ⟨undef, _, E, .inr ⟨run_unit ?_, rfl⟩, by simp [ORes.app, AV.undef, VRel, undef, VRelL], r1, r2⟩
          simp only [Instr.mapUpdate, Sem.run_bind, run_underlying hu, Result.andThen_ok, run_getMap h2, hck, k1]
          exact run_setObj' h2 (by simp)
        · cases e
    · cases e
  · cases e

/-! delete, clear, len -/
theorem MRel.erase {E : Env} : ∀ {i : Nat} {es : List AEnt} {es' : List MapEntry}, MRel E es es' → MRel E (es.eraseIdx i) (es'.eraseIdx i)
  | _, [], es', m => by simp only [MRel] at m; subst m; simp [MRel]
  | 0, (k, x, b) :: es, es', m => by
    simp only [MRel] at m
    obtain ⟨e0, es'', rfl, h1, h2, h3, h4⟩ := m
    exact h4
  | i + 1, (k, x, b) :: es, es', m => by
    simp only [MRel] at m
    obtain ⟨e0, es'', rfl, h1, h2, h3, h4⟩ := m
    simp only [List.eraseIdx_cons_succ, MRel]
    exact ⟨_, _, rfl, h1, h2, h3, MRel.erase h4⟩

def deleteA (P : Program) (h : AH) (t : TypeId) (x k : AV) : Option ORes :=
  match x, P.underlying t with
  | .map b, some (.map kt _) => match mapAt h b with
    | some (es, c) => bif keyFits P kt k then (match findA k es 0 with
      | some (some (i, _)) => some (.obj b (.map (es.eraseIdx i) c) (.tuple []))
      | some none => some (.obj b (.map es c) (.tuple []))
      | none => none) else none
    | none => none
  | _, _ => none
theorem deleteA_ok {E : Env} {h : AH} {w : World} {t ty : TypeId} {x k : AV} {u z : Value} {r : ORes} (hr : HRel E h w) (hx : VRel E x u) (hk : VRel E k z) (e : deleteA P h t x k = some r) {ts : Array TypeId} (hts : ts[0]? = some t) {args : Array Value} (ha : args = #[u, z]) :
    ResOK E h w ((do pure (Next.value (← Builtin.delete_ ts ty args)) : Sem Next).run P w) r := by
  subst ha
  unfold deleteA at e
  split at e
  · rename_i b kt et hu
    simp only [VRel] at hx
    obtain ⟨B, N, hb, rfl⟩ := hx
    split at e
    · rename_i es c hm
      obtain ⟨hg, B', N', es', h1, h2, h3⟩ := mapAt_ok hr hm
      rw [hb] at h1
      obtain ⟨rfl, rfl⟩ : B = B' ∧ N = N' := by simpa using h1
      cases hf : keyFits P kt k
      · simp [hf] at e
      · simp only [hf, cond_true] at e
        have hck := checkKey_ok (P := P) (w := w) es'.isEmpty hf hk
        split at e
        · rename_i i av hfind
          simp at e; subst e
          obtain ⟨r', k1, k2⟩ := findKey_ok (P := P) (w := w) hf hk hfind h3
          obtain ⟨v', rfl, q2, _⟩ := k2
          have hrel : ORel E (.map (es.eraseIdx i) c) 0 N (some (.map (es'.eraseIdxIfInBounds i) c)) := by
            refine ⟨rfl, _, rfl, ?_⟩
            have : (es'.eraseIdxIfInBounds i).toList = es'.toList.eraseIdx i := by
              unfold Array.eraseIdxIfInBounds
              split
              · rw [Array.toList_eraseIdx]
              · rename_i hlt
                rw [List.eraseIdx_of_length_le (by simpa using hlt)]
            rw [this]
            exact h3.erase
          obtain ⟨r1, r2⟩ := hr.setObj hg hb hrel
          refine ⟨.tuple #[], _, E, .inl (run_value ?_), by simp [ORes.app, VRel, VRelL], r1, r2⟩
          simp only [Builtin.delete_, hts, List.getElem?_toArray, List.getElem?_cons_zero, List.getElem?_cons_succ, Sem.run_bind, run_underlying hu, Result.andThen_ok, run_getMap h2, hck, k1, run_setObj' (P := P) (o' := .map (es'.eraseIdxIfInBounds i) c) h2 (by simp), Sem.run_pure]
        · rename_i hfind
          simp at e; subst e
          obtain ⟨r', k1, k2⟩ := findKey_ok (P := P) (w := w) hf hk hfind h3
          have : r' = none := k2
          subst this
          have hrel : ORel E (.map es c) 0 N (some (.map es' c)) := ⟨rfl, _, rfl, h3⟩
          obtain ⟨r1, r2⟩ := hr.setObj hg hb hrel
          refine ⟨.tuple #[], _, E, .inl (run_value ?_), by simp [ORes.app, VRel, VRelL], r1, r2⟩
          simp only [Builtin.delete_, hts, List.getElem?_toArray, List.getElem?_cons_zero, List.getElem?_cons_succ, Sem.run_bind, run_underlying hu, Result.andThen_ok, run_getMap h2, hck, k1, run_setObj' (P := P) (o' := .map es' c) h2 (by simp), Sem.run_pure]
        · cases e
    · cases e
  · cases e

/-! ranging -/
def rangeA (P : Program) (h : AH) (t : TypeId) (x : AV) : Option ORes :=
  match x, P.underlying t with
  | .nilm, some (.map _ _) => some (.alloc (.iter none 0 [] 0) .ptr)
  | .map b, some (.map _ _) => match mapAt h b with
    | some (_, c) => some (.alloc (.iter (some b) c [] c) .ptr)
    | none => none
  | _, _ => none
theorem rangeA_ok {E : Env} {h : AH} {w : World} {t : TypeId} {x : AV} {u : Value} {r : ORes} (hr : HRel E h w) (hx : VRel E x u) (e : rangeA P h t x = some r) :
    ResOK E h w ((do pure (Next.value (← Instr.range t u)) : Sem Next).run P w) r := by
  unfold rangeA at e
  split at e
  · rename_i kt et hu
    simp only [VRel] at hx; subst hx; simp at e; subst e
    refine ⟨.pointer (some ⟨w.heap.size, 0, none⟩), { w with heap := w.heap.push (.mapIter none 0 #[] 0) }, .mapIter none 0 #[] 0, 0, .inl (run_value ?_), .refl _, ⟨rfl, rfl⟩, fun E' p hp => ?_⟩
    · simp [Instr.range, newObj, Sem.run_bind, run_underlying hu, Sem.run]
    · simp only [AK.av, VRel]; exact ⟨_, _, _, hp, rfl⟩
  · rename_i b kt et hu
    simp only [VRel] at hx
    obtain ⟨B, N, hb, rfl⟩ := hx
    split at e
    · rename_i es c hm
      simp at e; subst e
      obtain ⟨hg, B', N', es', h1, h2, h3⟩ := mapAt_ok hr hm
      rw [hb] at h1
      obtain ⟨rfl, rfl⟩ : B = B' ∧ N = N' := by simpa using h1
      refine ⟨.pointer (some ⟨w.heap.size, 0, none⟩), { w with heap := w.heap.push (.mapIter (some B) c #[] c) }, .mapIter (some B) c #[] c, 0, .inl (run_value ?_), .refl _, ⟨rfl, B, N, hb, rfl⟩, fun E' p hp => ?_⟩
      · simp only [Instr.range, Sem.run_bind, run_underlying hu, Result.andThen_ok, run_getMap h2, Sem.run_pure]
        simp [newObj, Sem.run]
      · simp only [AK.av, VRel]; exact ⟨_, _, _, hp, rfl⟩
    · cases e
  · cases e

def leftA (seen : List Nat) : List AEnt → List AEnt
  | [] => []
  | (k, v, b) :: es => bif seen.contains b then leftA seen es else (k, v, b) :: leftA seen es
theorem leftA_rel {E : Env} (seen : List Nat) : ∀ {es : List AEnt} {es' : List MapEntry}, MRel E es es' → MRel E (leftA seen es) (es'.filter fun e => !seen.toArray.contains e.born)
  | [], es', m => by simp only [MRel] at m; subst m; simp [leftA, MRel]
  | (k, v, b) :: es, es', m => by
    simp only [MRel] at m
    obtain ⟨e0, es'', rfl, h1, h2, h3, h4⟩ := m
    have ih := leftA_rel seen h4
    simp only [leftA, List.filter_cons]
    subst h3
    have hc : seen.toArray.contains e0.born = seen.contains e0.born := by simp
    rw [hc]
    cases hs : seen.contains e0.born
    · simp only [Bool.not_false, if_true, cond_false, MRel]; exact ⟨_, _, rfl, h1, h2, rfl, ih⟩
    · simpa using ih

theorem bornAll {E : Env} (last : Nat) : ∀ {es : List AEnt} {es' : List MapEntry}, MRel E es es' → (es'.all fun e => decide (e.born ≥ last)) = es.all fun e => Nat.ble last e.2.2
  | [], es', m => by simp only [MRel] at m; subst m; rfl
  | (k, v, b) :: es, es', m => by
    simp only [MRel] at m
    obtain ⟨e0, es'', rfl, h1, h2, h3, h4⟩ := m
    subst h3
    simp only [List.all_cons, bornAll last h4]
    congr 1
    rw [Bool.eq_iff_iff]; simp

/-- The next round of a range over a map that holds no more than one entry still to come, and none that came in since. -/
def nextA (h : AH) (x : AV) : Option ORes :=
  match x with
  | .ptr b 0 => match h.m.get b with
    | some (.iter none _ _ _) => some (.val (.tuple [.bool false]))
    | some (.iter (some m) since seen last) => match mapAt h m with
      | some (es, c) => bif seen.isEmpty || es.isEmpty || !(es.all fun e => Nat.ble last e.2.2) then (match leftA seen es with
        | [] => some (.val (.tuple [.bool false]))
        | [(k, v, n)] => bif Nat.blt n since then some (.obj b (.iter (some m) since (seen ++ [n]) c) (.tuple [.bool true, k, v])) else none
        | _ => none) else none
      | none => none
    | _ => none
  | _ => none

theorem nextA_ok {E : Env} {h : AH} {w : World} {ty : TypeId} {x : AV} {u : Value} {r : ORes} (hr : HRel E h w) (hx : VRel E x u) (e : nextA h x = some r) :
    ResOK E h w ((do pure (Next.value (← Instr.next u false ty)) : Sem Next).run P w) r := by
  unfold nextA at e
  split at e
  · rename_i b
    simp only [VRel] at hx
    obtain ⟨B, sh, N, hb, rfl⟩ := hx
    split at e
    · rename_i s0 s1 s2 hg
      simp at e; subst e
      obtain ⟨B', sh', N', h1, h2, h3⟩ := hr.obj b _ hg
      rw [hb] at h1
      obtain ⟨rfl, rfl, rfl⟩ : B = B' ∧ sh = sh' ∧ N = N' := by simpa using h1
      subst h2
      refine ⟨.tuple #[.bool false], w, .inl (run_value ?_), by simp [VRel, VRelL], .refl w⟩
      simp [Instr.next, getObj, Sem.run, h3]
    · rename_i m since seen last hg
      obtain ⟨B', sh', N', h1, h2, M, K, hm1, h3⟩ := hr.obj b _ hg
      rw [hb] at h1
      obtain ⟨rfl, rfl, rfl⟩ : B = B' ∧ sh = sh' ∧ N = N' := by simpa using h1
      subst h2
      split at e
      · rename_i es c hm
        obtain ⟨hgm, M', N', es', g1, g2, g3⟩ := mapAt_ok hr hm
        rw [hm1] at g1
        obtain ⟨rfl, rfl⟩ : M = M' ∧ K = N' := by simpa using g1
        cases hc : (seen.isEmpty || es.isEmpty || !(es.all fun e => Nat.ble last e.2.2)) <;> simp only [hc, cond_true, cond_false, reduceCtorEq] at e
        have hlen : es'.toList.length = es.length := by
          clear e hc g2 hm hgm
          have : ∀ {as : List AEnt} {l : List MapEntry}, MRel E as l → l.length = as.length := by
            intro as
            induction as with
            | nil => intro l hl; simp only [MRel] at hl; simp [hl]
            | cons a as ih =>
              intro l hl
              obtain ⟨ka, va, ba⟩ := a
              simp only [MRel] at hl
              obtain ⟨e1, l', rfl, _, _, _, m4⟩ := hl
              simp [ih m4]
          exact this g3
        have hguard : ((!seen.toArray.isEmpty && !es'.isEmpty && es'.all fun e => decide (e.born ≥ last)) = true) = False := by
          have e1 : seen.toArray.isEmpty = seen.isEmpty := by cases seen <;> rfl
          have e2 : es'.isEmpty = es.isEmpty := by
            rw [Bool.eq_iff_iff, Array.isEmpty_iff_size_eq_zero, List.isEmpty_iff_length_eq_zero]
            rw [← hlen]; simp
          have e3 : (es'.all fun e => decide (e.born ≥ last)) = es.all fun e => Nat.ble last e.2.2 := by
            rw [← bornAll last g3, Array.all_toList]
          rw [e1, e2, e3]
          cases h1 : seen.isEmpty <;> cases h2 : es.isEmpty <;> cases h3 : (es.all fun e => Nat.ble last e.2.2) <;> simp_all
        have hleft := leftA_rel seen g3
        have hfilt : (es'.filter fun e => !seen.toArray.contains e.born).toList = es'.toList.filter fun e => !seen.toArray.contains e.born := by simp
        split at e
        · rename_i hl
          simp at e; subst e
          rw [hl] at hleft
          simp only [MRel] at hleft
          have hnil : (es'.filter fun e => !seen.toArray.contains e.born) = #[] := by
            apply Array.ext'
            rw [hfilt]; exact hleft
          refine ⟨.tuple #[.bool false], w, .inl (run_value ?_), by simp [VRel, VRelL], .refl w⟩
          simp only [Instr.next, Nat.zero_add, Sem.run_bind, getObj, Sem.run, h3, Result.andThen_ok, g2]
          simp only [hguard, if_false, hnil]
          simp [Question.forced]
        · rename_i k v n hl
          rw [hl] at hleft
          simp only [MRel] at hleft
          obtain ⟨e0, es'', hes, hk, hv, hn, rfl⟩ := hleft
          cases hlt : Nat.blt n since <;> simp [hlt] at e
          subst e
          have hlt' : e0.born < since := by rw [hn]; simpa [Nat.blt_eq] using hlt
          have hone : (es'.filter fun e => !seen.toArray.contains e.born) = #[e0] := by
            apply Array.ext'
            rw [hfilt]; exact hes
          have hrel : ORel E (.iter (some m) since (seen ++ [n]) c) 0 N (some (.mapIter (some M) since (seen.toArray.push e0.born) c)) := by
            refine ⟨rfl, M, K, hm1, ?_⟩
            simp [hn]
          obtain ⟨r1, r2⟩ := hr.setObj hg hb hrel
          refine ⟨.tuple #[.bool true, e0.key, e0.val], _, E, .inl (run_value ?_), ?_, r1, r2⟩
          · simp only [Instr.next, Nat.zero_add, Sem.run_bind, getObj, Sem.run, h3, Result.andThen_ok, g2]
            simp only [hguard, if_false, hone]
            have f1 : (#[e0].filter fun x => decide (x.born < since)) = #[e0] := by simp [hlt']
            have f2 : (#[e0].filter fun x => decide (x.born ≥ since)) = #[] := by simp; omega
            simp only [f1, f2]
            simp [Question.forced, setObj, Sem.run, h3]
          · simp only [ORes.app, VRel]
            exact ⟨_, rfl, by simp only [VRelL, VRel]; exact ⟨_, _, rfl, rfl, _, _, rfl, hk, _, _, rfl, hv, rfl⟩⟩
        · cases e
      · cases e
    · cases e
  · cases e

/-- The entry at which a range over a map stands. -/
def entryA (h : AH) (x : AV) : Option ORes :=
  match x with
  | .ptr b 0 => match h.m.get b with
    | some (.iter (some m) _ seen stepped) => match mapAt h m, seen.getLast? with
      | some (es, c), some n => bif Nat.beq c stepped then (match es.find? fun e => Nat.beq e.2.2 n with
        | some (k, v, _) => some (.val (.tuple [k, v]))
        | none => none) else none
      | _, _ => none
    | _ => none
  | _ => none
theorem find_rel {E : Env} (n : Nat) : ∀ {es : List AEnt} {es' : List MapEntry} {a : AEnt}, MRel E es es' → (es.find? fun e => Nat.beq e.2.2 n) = some a → ∃ e, (es'.find? fun e => e.born == n) = some e ∧ VRel E a.1 e.key ∧ VRel E a.2.1 e.val
  | [], _, _, _, h => by simp at h
  | (k, v, b) :: es, es', a, m, h => by
    simp only [MRel] at m
    obtain ⟨e0, es'', rfl, h1, h2, h3, h4⟩ := m
    subst h3
    simp only [List.find?_cons] at h ⊢
    have hb : (e0.born == n) = Nat.beq e0.born n := by rw [Bool.eq_iff_iff]; simp
    rw [hb]
    cases hh : Nat.beq e0.born n
    · rw [hh] at h
      exact find_rel n h4 h
    · rw [hh] at h
      simp at h; subst h
      exact ⟨e0, rfl, h1, h2⟩
theorem entryA_ok {E : Env} {h : AH} {w : World} {x : AV} {u : Value} {r : ORes} (hr : HRel E h w) (hx : VRel E x u) (e : entryA h x = some r) :
    ResOK E h w ((do pure (Next.value (← Instr.entry u)) : Sem Next).run P w) r := by
  unfold entryA at e
  split at e
  · rename_i b
    simp only [VRel] at hx
    obtain ⟨B, sh, N, hb, rfl⟩ := hx
    split at e
    · rename_i m since seen stepped hg
      obtain ⟨B', sh', N', h1, h2, M, K, hm1, h3⟩ := hr.obj b _ hg
      rw [hb] at h1
      obtain ⟨rfl, rfl, rfl⟩ : B = B' ∧ sh = sh' ∧ N = N' := by simpa using h1
      subst h2
      split at e
      · rename_i es c n hm hlast
        obtain ⟨hgm, M', N', es', g1, g2, g3⟩ := mapAt_ok hr hm
        rw [hm1] at g1
        obtain ⟨rfl, rfl⟩ : M = M' ∧ K = N' := by simpa using g1
        cases hc : Nat.beq c stepped <;> simp [hc] at e
        have hc' : c = stepped := by simpa using hc
        subst hc'
        split at e
        · rename_i k v bb hf
          simp at e; subst e
          obtain ⟨e0, q1, q2, q3⟩ := find_rel n g3 hf
          have q1' : es'.find? (fun e => e.born == n) = some e0 := by rw [← Array.find?_toList]; exact q1
          have hback : seen.toArray.back? = some n := by simp [hlast]
          refine ⟨.tuple #[e0.key, e0.val], w, .inl (run_value ?_), ?_, .refl w⟩
          · simp [Instr.entry, getObj, Sem.run_bind, Sem.run, h3, g2, hlast, q1']
          · simp only [VRel]
            exact ⟨_, rfl, by simp only [VRelL]; exact ⟨_, _, rfl, q2, _, _, rfl, q3, rfl⟩⟩
        · cases e
      · cases e
    · cases e
  · cases e
end
end Go.Ax
