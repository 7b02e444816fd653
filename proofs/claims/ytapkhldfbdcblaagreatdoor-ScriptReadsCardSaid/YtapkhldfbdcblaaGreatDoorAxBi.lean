/- An abstract executor, thirteenth part: the other built-in functions; entries of maps read and written in one statement. -/
import Derived.Test.YtapkhldfbdcblaaGreatDoorAxApp2
set_option linter.unusedSectionVars false
set_option linter.unnecessarySimpa false
set_option linter.unusedSimpArgs false
set_option linter.unusedVariables false
namespace Go.Ax
noncomputable section
variable {P : Program}

def lenA (P : Program) (h : AH) (t : TypeId) (x : AV) : Option ORes :=
  match x, P.underlying t with
  | .str len _, some .string => some (.val (.int .i64 (.ofNat len)))
  | .nils, some (.slice _) => some (.val (.int .i64 (.ofNat 0)))
  | .slice _ _ len _ _, some (.slice _) => some (.val (.int .i64 (.ofNat len)))
  | .slice0 _ _, some (.slice _) => some (.val (.int .i64 (.ofNat 0)))
  | .nilm, some (.map _ _) => some (.val (.int .i64 (.ofNat 0)))
  | .map b, some (.map _ _) => match mapAt h b with
    | some (es, _) => some (.val (.int .i64 (.ofNat es.length)))
    | none => none
  | _, _ => none
theorem MRel.length {E : Env} : ∀ {es : List AEnt} {es' : List MapEntry}, MRel E es es' → es'.length = es.length
  | [], es', m => by simp only [MRel] at m; simp [m]
  | (k, v, b) :: es, es', m => by
    simp only [MRel] at m
    obtain ⟨e0, es'', rfl, _, _, _, h4⟩ := m
    simp [MRel.length h4]
theorem lenA_ok {E : Env} {h : AH} {w : World} {ts : Array TypeId} {t ty : TypeId} {x : AV} {u : Value} {r : ORes} (hr : HRel E h w) (hx : VRel E x u) (e : lenA P h t x = some r) (h0 : ts[0]? = some t) :
    ResOK E h w ((do pure (Next.value (← Builtin.len_ ts ty #[u])) : Sem Next).run P w) r := by
  have fin : ∀ n : Nat, (Builtin.len_ ts ty #[u]).run P w = .ok (goInt n) w → r = .val (.int .i64 (.ofNat n)) → ResOK E h w ((do pure (Next.value (← Builtin.len_ ts ty #[u])) : Sem Next).run P w) r := by
    intro n h1 h2
    subst h2
    exact ⟨_, w, .inl (run_value h1), by simp only [VRel]; rfl, .refl w⟩
  unfold lenA at e
  split at e
  · rename_i len n hu
    simp only [VRel] at hx; subst hx
    exact fin len (by simp [Builtin.len_, h0, Sem.run_bind, run_underlying hu, unpack_size]) (by simpa using e.symm)
  · rename_i el hu
    simp only [VRel] at hx; subst hx
    exact fin 0 (by simp [Builtin.len_, h0, Sem.run_bind, run_underlying hu]) (by simpa using e.symm)
  · rename_i b o len cap sz el hu
    simp only [VRel] at hx
    obtain ⟨B, sh, N, c, _, rfl, _⟩ := hx
    exact fin len (by simp [Builtin.len_, h0, Sem.run_bind, run_underlying hu]) (by simpa using e.symm)
  · rename_i b sz el hu
    simp only [VRel] at hx
    obtain ⟨B, sh, N, o, c, _, rfl, _⟩ := hx
    exact fin 0 (by simp [Builtin.len_, h0, Sem.run_bind, run_underlying hu]) (by simpa using e.symm)
  · rename_i k el hu
    simp only [VRel] at hx; subst hx
    exact fin 0 (by simp [Builtin.len_, h0, Sem.run_bind, run_underlying hu]) (by simpa using e.symm)
  · rename_i b k el hu
    simp only [VRel] at hx
    obtain ⟨B, N, hb, rfl⟩ := hx
    split at e
    · rename_i es c hm
      obtain ⟨hg, B', N', es', h1, h2, h3⟩ := mapAt_ok hr hm
      rw [hb] at h1
      obtain ⟨rfl, rfl⟩ : B = B' ∧ N = N' := by simpa using h1
      have hl := h3.length
      exact fin es.length (by simp [Builtin.len_, h0, Sem.run_bind, run_underlying hu, run_getMap h2, ← hl]) (by simpa using e.symm)
    · cases e
  · cases e

def capA (P : Program) (t : TypeId) (x : AV) : Option ORes :=
  match x, P.underlying t with
  | .nils, some (.slice _) => some (.val (.int .i64 (.ofNat 0)))
  | .slice _ _ _ (some c) _, some (.slice _) => some (.val (.int .i64 (.ofNat c)))
  | _, _ => none
theorem capA_ok {E : Env} {h : AH} {w : World} {ts : Array TypeId} {t ty : TypeId} {x : AV} {u : Value} {r : ORes} (hx : VRel E x u) (e : capA P t x = some r) (h0 : ts[0]? = some t) :
    ResOK E h w ((do pure (Next.value (← Builtin.cap_ ts ty #[u])) : Sem Next).run P w) r := by
  unfold capA at e
  split at e
  · rename_i el hu
    simp only [VRel] at hx; subst hx; simp at e; subst e
    exact ⟨_, w, .inl (run_value (u := goInt 0) (by simp [Builtin.cap_, h0, Sem.run_bind, run_underlying hu])), by simp only [VRel]; rfl, .refl w⟩
  · rename_i b o len c sz el hu
    simp only [VRel] at hx
    obtain ⟨B, sh, N, c', _, rfl, _, _, hc⟩ := hx
    simp at e; subst e
    have := hc c rfl
    subst this
    exact ⟨_, w, .inl (run_value (u := goInt c') (by simp [Builtin.cap_, h0, Sem.run_bind, run_underlying hu])), by simp only [VRel]; rfl, .refl w⟩
  · cases e

/-! min, max -/
def foldA (f : Int → Int → Bool) : Int → IntKind → List AV → Option Int
  | a, _, [] => some a
  | a, k, .int _ b :: r => foldA f (bif f b a then b else a) k r
  | _, _, _ => none
def minmaxA (f : Int → Int → Bool) : List AV → Option ORes
  | .int k a :: r => match foldA f a k r with
    | some n => some (.val (.int k n))
    | none => none
  | _ => none
theorem minA_ok {E : Env} {h : AH} {w : World} {ts : Array TypeId} {ty : TypeId} {xs : List AV} {us : Array Value} {r : ORes} (hx : VRelL E xs us.toList) (e : minmaxA ltI xs = some r) :
    ResOK E h w ((do pure (Next.value (← Builtin.min_ ts ty us)) : Sem Next).run P w) r := by
  unfold minmaxA at e
  split at e
  · rename_i k a rest
    split at e
    · rename_i n hn
      simp at e; subst e
      simp only [VRelL, VRel] at hx
      obtain ⟨_, us', hus, rfl, hs⟩ := hx
      have key : ∀ {rest : List AV} {vs : List Value} {a n : Int}, foldA ltI a k rest = some n → VRelL E rest vs → (vs.foldlM Builtin.min2 (Value.int k a) : Sem Value).run P w = .ok (.int k n) w := by
        intro rest
        induction rest with
        | nil => intro vs a n he hv; simp only [VRelL] at hv; subst hv; simp [foldA] at he; subst he; simp
        | cons y rest ih =>
          intro vs a n he hv
          cases y <;> simp only [foldA, reduceCtorEq] at he
          rename_i k' b
          simp only [VRelL, VRel] at hv
          obtain ⟨_, vs', rfl, rfl, hv'⟩ := hv
          simp only [List.foldlM_cons, Sem.run_bind, Builtin.min2, Sem.run_pure, Result.andThen_ok]
          have : (if b < a then b else a) = (bif ltI b a then b else a) := by rw [ltI_eq]; by_cases h : b < a <;> simp [h]
          rw [this]
          exact ih he hv'
      refine ⟨.int k n, w, .inl (run_value ?_), by simp only [VRel], .refl w⟩
      simp only [Builtin.min_, hus]
      exact key hn hs
    · cases e
  · cases e
theorem maxA_ok {E : Env} {h : AH} {w : World} {ts : Array TypeId} {ty : TypeId} {xs : List AV} {us : Array Value} {r : ORes} (hx : VRelL E xs us.toList) (e : minmaxA (fun b a => ltI a b) xs = some r) :
    ResOK E h w ((do pure (Next.value (← Builtin.max_ ts ty us)) : Sem Next).run P w) r := by
  unfold minmaxA at e
  split at e
  · rename_i k a rest
    split at e
    · rename_i n hn
      simp at e; subst e
      simp only [VRelL, VRel] at hx
      obtain ⟨_, us', hus, rfl, hs⟩ := hx
      have key : ∀ {rest : List AV} {vs : List Value} {a n : Int}, foldA (fun b a => ltI a b) a k rest = some n → VRelL E rest vs → (vs.foldlM Builtin.max2 (Value.int k a) : Sem Value).run P w = .ok (.int k n) w := by
        intro rest
        induction rest with
        | nil => intro vs a n he hv; simp only [VRelL] at hv; subst hv; simp [foldA] at he; subst he; simp
        | cons y rest ih =>
          intro vs a n he hv
          cases y <;> simp only [foldA, reduceCtorEq] at he
          rename_i k' b
          simp only [VRelL, VRel] at hv
          obtain ⟨_, vs', rfl, rfl, hv'⟩ := hv
          simp only [List.foldlM_cons, Sem.run_bind, Builtin.max2, Sem.run_pure, Result.andThen_ok]
          have : (if b > a then b else a) = (bif ltI a b then b else a) := by rw [ltI_eq]; by_cases h : a < b <;> simp [h]
          rw [this]
          exact ih he hv'
      refine ⟨.int k n, w, .inl (run_value ?_), by simp only [VRel], .refl w⟩
      simp only [Builtin.max_, hus]
      exact key hn hs
    · cases e
  · cases e

/-! copy -/
def lenS : AV → Option Nat
  | .nils => some 0
  | .slice0 _ _ => some 0
  | .slice _ _ len _ _ => some len
  | _ => none
def firstA (h : AH) (sz n : Nat) : AV → Option (List AV)
  | .nils => some []
  | .slice0 _ _ => some []
  | .slice b o _ _ _ => match cellsAt h b with
    | some cs => bif Nat.ble (o + n * sz) cs.length then some ((cs.drop o).take (n * sz)) else none
    | none => none
  | _ => none
def copyA (P : Program) (h : AH) (t : TypeId) (d s : AV) : Option ORes :=
  match P.underlying t with
  | some (.slice el) => match sizeA P el, lenS s, lenS d with
    | some sz, some ls, some ld => match firstA h sz (Nat.min ls ld) s with
      | some new => match d with
        | .slice b o _ _ _ => match cellsAt h b with
          | some cs => bif Nat.ble (o + new.length) cs.length && allCells new then some (.stores b o new (.int .i64 (.ofNat (Nat.min ls ld)))) else none
          | none => none
        | .nils => some (.val (.int .i64 (.ofNat 0)))
        | _ => none
      | none => none
    | _, _, _ => none
  | _ => none
theorem lenS_ok {E : Env} {x : AV} {u : Value} {n : Nat} (hx : VRel E x u) (e : lenS x = some n) (w : World) : (Builtin.lenOf u).run P w = .ok n w ∧ ∃ b c, u = .slice b n c := by
  unfold lenS at e
  split at e
  · simp only [VRel] at hx; subst hx; simp at e; subst e; exact ⟨by simp [Builtin.lenOf], _, _, rfl⟩
  · simp only [VRel] at hx; obtain ⟨_, _, _, _, _, _, rfl, _⟩ := hx; simp at e; subst e; exact ⟨by simp [Builtin.lenOf], _, _, rfl⟩
  · simp only [VRel] at hx; obtain ⟨_, _, _, _, _, rfl, _⟩ := hx; simp at e; subst e; exact ⟨by simp [Builtin.lenOf], _, _, rfl⟩
  · cases e
theorem copyA_ok {E : Env} {h : AH} {w : World} {ts : Array TypeId} {t ty : TypeId} {x y : AV} {u v : Value} {r : ORes} (hr : HRel E h w) (hx : VRel E x u) (hy : VRel E y v) (e : copyA P h t x y = some r) (h0 : ts[0]? = some t) :
    ResOK E h w ((do pure (Next.value (← Builtin.copy_ ts ty #[u, v])) : Sem Next).run P w) r := by
  unfold copyA at e
  split at e
  · rename_i el hu
    split at e
    · rename_i sz ls ld hsz hls hld
      obtain ⟨k1, b1, c1, e1⟩ := lenS_ok (P := P) hy hls w
      obtain ⟨k2, b2, c2, e2⟩ := lenS_ok (P := P) hx hld w
      split at e
      · rename_i new hnew
        have hfirst : ∃ us : List Value, VRelL E new us ∧ (Builtin.firstCells sz (Nat.min ls ld) v).run P w = .ok us.toArray w := by
          unfold firstA at hnew
          split at hnew
          · simp only [VRel] at hy; subst hy; simp at hnew; subst hnew; exact ⟨[], by simp [VRelL], by simp [Builtin.firstCells]⟩
          · simp only [VRel] at hy
            obtain ⟨_, _, _, _, _, _, rfl, _⟩ := hy
            simp [lenS] at hls
            simp at hnew; subst hnew
            subst hls
            exact ⟨[], by simp [VRelL], by simp [Builtin.firstCells, loadCells, loadCellsFrom]⟩
          · rename_i b o len cap s
            simp only [VRel] at hy
            obtain ⟨B, sh, N, c, hb, rfl, _⟩ := hy
            split at hnew
            · rename_i cs hcs
              cases hc : Nat.ble (o + (Nat.min ls ld) * sz) cs.length <;> simp [hc] at hnew
              subst hnew
              obtain ⟨B', sh', N', g1, us, g2, g3, g4⟩ := hr.loads (cellsAt_ok hcs) (Nat.le_of_ble_eq_true hc)
              rw [hb] at g1
              obtain ⟨rfl, rfl, rfl⟩ : B = B' ∧ sh = sh' ∧ N = N' := by simpa using g1
              exact ⟨us, g3, by simp [Builtin.firstCells, g4 P]⟩
            · cases hnew
          · cases hnew
        obtain ⟨us, g1, g2⟩ := hfirst
        split at e
        · rename_i b o len cap s
          simp only [VRel] at hx
          obtain ⟨B, sh, N, c, hb, rfl, _⟩ := hx
          simp [lenS] at hld
          subst hld
          split at e
          · rename_i cs hcs
            cases hc : Nat.ble (o + new.length) cs.length && allCells new <;> simp [hc] at e
            subst e
            simp only [Bool.and_eq_true] at hc
            have hle := Nat.le_of_ble_eq_true hc.1
            obtain ⟨w', m1, m2, m3⟩ := HRel.storesL P new us o 0 h w cs hr hb (cellsAt_ok hcs) (by omega) g1 (allCells_mem hc.2)
            rw [Nat.add_zero] at m2 m3
            have happ : (ORes.stores b o new (.int .i64 ((Nat.min ls len : Nat) : Int))).app h = (.int .i64 ((Nat.min ls len : Nat) : Int), h.set b (.cells (splice o new cs))) := by
              simp [ORes.app, cellsAt_ok hcs]
            refine ⟨goInt (Nat.min ls len), w', E, .inl (run_value ?_), ?_, ?_, ?_⟩
            · simp [Builtin.copy_, h0, Sem.run_bind, run_underlying hu, k1, run_sizeA w hsz, g2, m1]
            · rw [happ]; simp only [VRel]; rfl
            · rw [happ]; exact m2
            · rw [happ]; exact m3
          · cases e
        · simp only [VRel] at hx; subst hx
          simp at e; subst e
          simp [lenS] at hld
          subst hld
          refine ⟨goInt 0, w, .inl (run_value ?_), by simp only [VRel]; rfl, .refl w⟩
          have : Nat.min ls 0 = 0 := by simp
          rw [this] at g2
          simp [Builtin.copy_, h0, Sem.run_bind, run_underlying hu, k1, run_sizeA w hsz, g2]
        · cases e
      · cases e
    · cases e
  · cases e

/-! clear -/
def clearA (P : Program) (h : AH) (t : TypeId) (x : AV) : Option ORes :=
  match x, P.underlying t with
  | .map b, some (.map _ _) => match mapAt h b with
    | some (_, c) => some (.obj b (.map [] c) (.tuple []))
    | none => none
  | .nilm, some (.map _ _) => some (.val (.tuple []))
  | _, _ => none
theorem clearA_ok {E : Env} {h : AH} {w : World} {ts : Array TypeId} {t ty : TypeId} {x : AV} {u : Value} {r : ORes} (hr : HRel E h w) (hx : VRel E x u) (e : clearA P h t x = some r) (h0 : ts[0]? = some t) :
    ResOK E h w ((do pure (Next.value (← Builtin.clear_ ts ty #[u])) : Sem Next).run P w) r := by
  unfold clearA at e
  split at e
  · rename_i b k el hu
    simp only [VRel] at hx
    obtain ⟨B, N, hb, rfl⟩ := hx
    split at e
    · rename_i es c hm
      simp at e; subst e
      obtain ⟨hg, B', N', es', h1, h2, h3⟩ := mapAt_ok hr hm
      rw [hb] at h1
      obtain ⟨rfl, rfl⟩ : B = B' ∧ N = N' := by simpa using h1
      have hrel : ORel E (.map [] c) 0 N (some (.map #[] c)) := ⟨rfl, #[], rfl, by simp [MRel]⟩
      obtain ⟨r1, r2⟩ := hr.setObj hg hb hrel
      refine ⟨.tuple #[], _, E, .inl (run_value ?_), by simp [ORes.app, VRel, VRelL], r1, r2⟩
      simp only [Builtin.clear_, h0, List.getElem?_toArray, List.getElem?_cons_zero, Sem.run_bind, run_underlying hu, Result.andThen_ok, run_getMap h2, run_setObj' (P := P) (o' := .map #[] c) h2 (by simp), Sem.run_pure]
    · cases e
  · rename_i k el hu
    simp only [VRel] at hx; subst hx; simp at e; subst e
    exact ⟨.tuple #[], w, .inl (run_value (by simp [Builtin.clear_, h0, Sem.run_bind, run_underlying hu])), by simp [VRel, VRelL], .refl w⟩
  · cases e

/-! an entry, read and written in one statement -/
def mapEntryA (P : Program) (h : AH) (t : TypeId) (x k : AV) : Option ORes :=
  match x, P.underlying t with
  | .map b, some (.map kt et) => match mapAt h b with
    | some (es, c) => bif keyFits P kt k then (match findA k es 0 with
      | some (some (i, v)) => match es[i]? with
        | some e0 => some (.obj b (.map es c) (.tuple [v, .int .i64 (.ofNat e0.2.2)]))
        | none => none
      | some none => match zeroA P et with
        | some z => some (.obj b (.map (es ++ [(k, z, c)]) (c + 1)) (.tuple [z, .int .i64 (.ofNat c)]))
        | none => none
      | none => none) else none
    | none => none
  | _, _ => none
theorem MRel.get {E : Env} : ∀ {es : List AEnt} {es' : List MapEntry} {i : Nat} {a : AEnt}, MRel E es es' → es[i]? = some a → ∃ e, es'[i]? = some e ∧ VRel E a.1 e.key ∧ VRel E a.2.1 e.val ∧ e.born = a.2.2
  | [], _, _, _, _, h => by simp at h
  | (k, v, b) :: es, es', i, a, m, h => by
    simp only [MRel] at m
    obtain ⟨e0, es'', rfl, h1, h2, h3, h4⟩ := m
    cases i with
    | zero => simp at h; subst h; exact ⟨e0, rfl, h1, h2, h3⟩
    | succ i => simp at h; simpa using MRel.get h4 h
theorem keyBits {E : Env} {k : AV} {z : Value} (hk : VRel E k z) : ∀ {es : List AEnt} {l : List MapEntry} {j : Nat} {q : Nat × AV}, findA k es j = some (some q) → MRel E es l → Instr.sameBits 10000 z z = true
  | [], _, _, _, hq, _ => by simp [findA] at hq
  | (ka, va, ba) :: es, l, j, q, hq, hml => by
    simp only [MRel] at hml
    obtain ⟨e1, l', rfl, m1, _, _, m4⟩ := hml
    simp only [findA] at hq
    split at hq
    · rename_i he; exact (kEq_true he hk m1).2
    · exact keyBits hk hq m4
    · cases hq
theorem modify_same (l : List MapEntry) (i : Nat) (z : Value) (h : ∀ e, l[i]? = some e → e.key = z) : l.modify i (fun e => { e with key := z }) = l := by
  apply List.ext_getElem?
  intro j
  rw [List.getElem?_modify]
  by_cases hij : i = j
  · subst hij
    cases hl : l[i]? with
    | none => simp
    | some e =>
      have := h e hl
      simp
      rw [← this]
  · simp [hij]
theorem mapEntryA_ok {E : Env} {h : AH} {w : World} {t : TypeId} {x k : AV} {u z : Value} {r : ORes} (hr : HRel E h w) (hx : VRel E x u) (hk : VRel E k z) (e : mapEntryA P h t x k = some r) :
    ResOK E h w ((do pure (Next.value (← Instr.mapEntry t u z)) : Sem Next).run P w) r := by
  unfold mapEntryA at e
  split at e
  · rename_i b kt et hu
    simp only [VRel] at hx
    obtain ⟨B, N, hb, rfl⟩ := hx
    split at e
    · rename_i es c hm
      obtain ⟨hg, B', N', es', h1, h2, h3⟩ := mapAt_ok hr hm
      rw [hb] at h1
      obtain ⟨rfl, rfl⟩ : B = B' ∧ N = N' := by simpa using h1
      cases hf : keyFits P kt k
      · simp [hf] at e
      · simp only [hf, cond_true] at e
        have hck := checkKey_ok (P := P) (w := w) false hf hk
        split at e
        · rename_i i av hfind
          obtain ⟨r', k1, k2⟩ := findKey_ok (P := P) (w := w) hf hk hfind h3
          obtain ⟨v', rfl, q2, _, e0, q4, q5, q6⟩ := k2
          simp only [Nat.sub_zero] at q4
          have q4' : es'[i]? = some e0 := by rw [← Array.getElem?_toList]; exact q4
          split at e
          · rename_i a0 ha0
            simp at e; subst e
            obtain ⟨e1, p1, _, _, p4⟩ := h3.get ha0
            rw [q4] at p1
            obtain rfl : e0 = e1 := by simpa using p1
            have hsame : es'.modify i (fun e => { e with key := z }) = es' := by
              apply Array.ext'
              rw [Array.toList_modify]
              exact modify_same _ _ _ fun e2 he2 => by rw [q4] at he2; simp at he2; subst he2; exact q5
            have hrel : ORel E (.map es c) 0 N (some (.map es' c)) := ⟨rfl, _, rfl, h3⟩
            obtain ⟨r1, r2⟩ := hr.setObj hg hb hrel
            refine ⟨.tuple #[v', goInt a0.2.2], _, E, .inl (run_value ?_), ?_, r1, r2⟩
            · have hks : (Instr.keyThatStays e0.key z).run P w = .ok z w := by
                rw [q5]; exact keyStays (keyBits hk hfind h3)
              simp only [Instr.mapEntry, Sem.run_bind, run_underlying hu, Result.andThen_ok, run_getMap h2, hck, k1, hks, hsame, run_setObj' (P := P) (o' := .map es' c) h2 (by simp), Sem.run_pure, q4', Option.map_some, Option.getD_some, p4]
            · simp only [ORes.app, VRel]
              exact ⟨_, rfl, by simp only [VRelL, VRel]; exact ⟨_, _, rfl, q2, _, _, rfl, rfl, rfl⟩⟩
          · cases e
        · rename_i hfind
          split at e
          · rename_i zv hzv
            simp at e; subst e
            obtain ⟨i', zz, hi', hz', hrelz⟩ := zeroA_ok hzv
            obtain ⟨r', k1, k2⟩ := findKey_ok (P := P) (w := w) hf hk hfind h3
            have : r' = none := k2
            subst this
            have hrel : ORel E (.map (es ++ [(k, zv, c)]) (c + 1)) 0 N (some (.map (es'.push { key := z, val := zz, born := c }) (c + 1))) := by
              refine ⟨rfl, _, rfl, ?_⟩
              rw [Array.toList_push]
              exact MRel.snoc hk (hrelz E) h3
            obtain ⟨r1, r2⟩ := hr.setObj hg hb hrel
            refine ⟨.tuple #[zz, goInt c], _, E, .inl (run_value ?_), ?_, r1, r2⟩
            · simp only [Instr.mapEntry, Sem.run_bind, run_underlying hu, Result.andThen_ok, run_getMap h2, hck, k1, run_zero w hi' hz', run_setObj' (P := P) (o' := .map (es'.push { key := z, val := zz, born := c }) (c + 1)) h2 (by simp), Sem.run_pure]
            · simp only [ORes.app, VRel]
              exact ⟨_, rfl, by simp only [VRelL, VRel]; exact ⟨_, _, rfl, hrelz E, _, _, rfl, rfl, rfl⟩⟩
          · cases e
        · cases e
    · cases e
  · cases e

def bornAt (n : Nat) : List AEnt → Nat → Option Nat
  | [], _ => none
  | e :: es, i => bif Nat.beq e.2.2 n then some i else bornAt n es (i + 1)
def entryStoreA (h : AH) (x st v : AV) : Option ORes :=
  match x, natOf st with
  | .map b, some n => match mapAt h b with
    | some (es, c) => match bornAt n es 0 with
      | some i => some (.obj b (.map (setEnt i v es) c) .undef)
      | none => none
    | none => none
  | _, _ => none
theorem bornAt_ok {E : Env} (n : Nat) : ∀ {es : List AEnt} {es' : List MapEntry} {j i : Nat}, bornAt n es j = some i → MRel E es es' → j ≤ i ∧ (es'.findIdx? fun e => (e.born : Int) == (n : Int)) = some (i - j)
  | [], _, _, _, h, _ => by simp [bornAt] at h
  | (k, v, b) :: es, es', j, i, h, m => by
    simp only [MRel] at m
    obtain ⟨e0, es'', rfl, h1, h2, h3, h4⟩ := m
    subst h3
    simp only [bornAt] at h
    have hb : ((e0.born : Int) == (n : Int)) = Nat.beq e0.born n := by rw [Bool.eq_iff_iff]; simp; omega
    simp only [List.findIdx?_cons, hb]
    cases hq : Nat.beq e0.born n
    · simp only [hq, cond_false] at h
      obtain ⟨g1, g2⟩ := bornAt_ok n h h4
      refine ⟨by omega, ?_⟩
      simp only [Bool.false_eq_true, if_false, g2, Option.map_some]
      congr 1; omega
    · simp only [hq, cond_true] at h
      simp at h; subst h
      simp
theorem setEnt_val {E : Env} {v : AV} {u : Value} (hv : VRel E v u) : ∀ {i : Nat} {es : List AEnt} {es' : List MapEntry}, MRel E es es' → MRel E (setEnt i v es) (es'.modify i fun e => { e with val := u })
  | _, [], es', m => by simp only [MRel] at m; subst m; simp [setEnt, MRel]
  | 0, (k, x, b) :: es, es', m => by
    simp only [MRel] at m
    obtain ⟨e0, es'', rfl, h1, h2, h3, h4⟩ := m
    simp only [setEnt, List.modify_zero_cons, MRel]
    exact ⟨_, _, rfl, h1, hv, h3, h4⟩
  | i + 1, (k, x, b) :: es, es', m => by
    simp only [MRel] at m
    obtain ⟨e0, es'', rfl, h1, h2, h3, h4⟩ := m
    simp only [setEnt, List.modify_succ_cons, MRel]
    exact ⟨_, _, rfl, h1, h2, h3, setEnt_val hv h4⟩
theorem entryStoreA_ok {E : Env} {h : AH} {w : World} {t : TypeId} {x st v : AV} {u z y : Value} {r : ORes} (hr : HRel E h w) (hx : VRel E x u) (hst : VRel E st z) (hv : VRel E v y) (e : entryStoreA h x st v = some r) :
    ResOK E h w ((do Instr.entryStore t u z y; pure Next.skip : Sem Next).run P w) r := by
  unfold entryStoreA at e
  split at e
  · rename_i b n hn
    simp only [VRel] at hx
    obtain ⟨B, N, hb, rfl⟩ := hx
    obtain ⟨k, rfl⟩ := natOf_ok hst hn
    split at e
    · rename_i es c hm
      obtain ⟨hg, B', N', es', h1, h2, h3⟩ := mapAt_ok hr hm
      rw [hb] at h1
      obtain ⟨rfl, rfl⟩ : B = B' ∧ N = N' := by simpa using h1
      split at e
      · rename_i i hi
        simp at e; subst e
        obtain ⟨_, g2⟩ := bornAt_ok n hi h3
        have g2' : es'.findIdx? (fun e => (e.born : Int) == (n : Int)) = some i := by
          have h5 : (es'.toList.toArray).findIdx? (fun e => (e.born : Int) == (n : Int)) = es'.toList.findIdx? (fun e => (e.born : Int) == (n : Int)) := List.findIdx?_toArray ..
          rw [Array.toArray_toList] at h5
          rw [h5, g2]; simp
        have hrel : ORel E (.map (setEnt i v es) c) 0 N (some (.map (es'.modify i fun e => { e with val := y }) c)) := by
          refine ⟨rfl, _, rfl, ?_⟩
          rw [Array.toList_modify]
          exact setEnt_val hv h3
        obtain ⟨r1, r2⟩ := hr.setObj hg hb hrel
        refine ⟨undef, _, E, .inr ⟨run_unit ?_, rfl⟩, by simp [ORes.app, AV.undef, VRel, undef, VRelL], r1, r2⟩
        simp only [Instr.entryStore, Sem.run_bind, run_getMap h2, Result.andThen_ok, asInt, asIntOf, Sem.run_pure, g2']
        exact run_setObj' h2 (by simp)
      · cases e
    · cases e
  · cases e
end
end Go.Ax
