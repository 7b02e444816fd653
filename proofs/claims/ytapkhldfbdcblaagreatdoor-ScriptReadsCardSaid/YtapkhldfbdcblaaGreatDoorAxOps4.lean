/- An abstract executor, eighth part: slicing, makes. -/
import Derived.Test.YtapkhldfbdcblaaGreatDoorAxOps3
set_option linter.unusedSectionVars false
set_option linter.unnecessarySimpa false
set_option linter.unusedSimpArgs false
set_option linter.unusedVariables false
namespace Go.Ax
noncomputable section
variable {P : Program}

def capOr (cap : Option Nat) (len : Nat) : Nat := match cap with | some c => c | none => len

/-- Bounds in order: low, high, most. -/
def bounds3 (T : PM AV) (len bound : Nat) (lo hi mx : Option Operand) : Option (Nat × Nat × Option Nat) :=
  match bndA T 0 lo, bndA T len hi with
  | some l, some h => match mx with
    | none => bif Nat.ble l h && (Nat.ble h bound || hi.isNone) then some (l, h, none) else none
    | some m => match bndA T 0 (some m), hi with
      | some q, some _ => bif (Nat.ble l h && Nat.ble h q) && Nat.ble q bound then some (l, h, some q) else none
      | _, _ => none
  | _, _ => none

/-- The bounds, run. -/
theorem bounds3_ok {E : Env} {n : Nat} {T : PM AV} {a : Act} (tr : TRel E n T a.tmps) {len bound cap l h : Nat} {lo hi mx : Option Operand} {q : Option Nat} {w : World} {isS : Bool}
    (e : bounds3 T len bound lo hi mx = some (l, h, q)) (hb : bound ≤ cap) (hlc : len ≤ cap) :
    ∃ m, (Instr.sliceBounds isS len cap (lo.map a.eval) (hi.map a.eval) (mx.map a.eval)).run P w = .ok (l, h, m) w ∧ l ≤ h ∧ h ≤ m ∧ m ≤ cap ∧ (q = none → m = cap) ∧ (∀ q', q = some q' → m = q') := by
  unfold bounds3 at e
  have bnd : ∀ (d r : Nat) (o : Option Operand), bndA T d o = some r → (o.map a.eval = none ∧ r = d) ∨ (∃ k, o.map a.eval = some (.int k (r : Int))) := by
    intro d r o hb
    unfold bndA at hb
    split at hb
    · simp at hb; exact .inl ⟨rfl, hb.symm⟩
    · split at hb
      · rename_i x av hx
        obtain ⟨k, hk⟩ := natOf_ok (evA_rel hx tr) hb
        exact .inr ⟨k, by simp [hk]⟩
      · cases hb
  split at e
  · rename_i l' h' hl hh
    have b1 := bnd 0 l' lo hl
    have b2 := bnd len h' hi hh
    split at e
    · cases hc : (Nat.ble l' h' && (Nat.ble h' bound || hi.isNone)) <;> simp [hc] at e
      obtain ⟨rfl, rfl, rfl⟩ := e
      simp only [Bool.and_eq_true, Bool.or_eq_true] at hc
      have hlh := Nat.le_of_ble_eq_true hc.1
      have hhc : h' ≤ cap := by
        rcases hc.2 with h1 | h1
        · have := Nat.le_of_ble_eq_true h1; omega
        · cases hi with
          | none => simp [bndA] at hh; omega
          | some x => simp at h1
      refine ⟨cap, run_sliceBounds2 ?_ ?_, hlh, hhc, Nat.le_refl _, fun _ => rfl, fun q' h => by cases h⟩
      · rcases b2 with ⟨x, y⟩ | x
        · exact .inl ⟨x, y⟩
        · exact .inr ⟨x, hhc⟩
      · rcases b1 with ⟨x, y⟩ | x
        · exact .inl ⟨x, y⟩
        · exact .inr ⟨x, hlh⟩
    · rename_i mo
      split at e
      · rename_i q' ho hq
        have b3 := bnd 0 q' (some mo) hq
        cases hc : ((Nat.ble l' h' && Nat.ble h' q') && Nat.ble q' bound) <;> simp [hc] at e
        obtain ⟨rfl, rfl, rfl⟩ := e
        simp only [Bool.and_eq_true] at hc
        have h1 := Nat.le_of_ble_eq_true hc.1.1
        have h2 := Nat.le_of_ble_eq_true hc.1.2
        have h3 := Nat.le_of_ble_eq_true hc.2
        obtain ⟨k, hk⟩ := b3.resolve_left (by simp)
        obtain ⟨k2, hk2⟩ := b2.resolve_left (by simp)
        rw [hk, hk2]
        refine ⟨q', run_sliceBounds3 (by omega) h2 ?_, h1, h2, by omega, (fun h => nomatch h), fun q'' h => by simpa using h⟩
        rcases b1 with ⟨x, y⟩ | x
        · exact .inl ⟨x, y⟩
        · exact .inr ⟨x, h1⟩
      · cases e
  · cases e

/-- What slicing leaves of a slice in a block. -/
def cutA (b : Pos) (o l h : Nat) (cap : Option Nat) (q : Option Nat) (sz : Nat) : AV :=
  match q, cap with
  | some m, _ => .slice b (bif Nat.beq m l then o else o + l * sz) (h - l) (some (m - l)) sz
  | none, some c => .slice b (bif Nat.beq c l then o else o + l * sz) (h - l) (some (c - l)) sz
  | none, none => bif Nat.blt l h || Nat.beq l 0 then .slice b (o + l * sz) (h - l) none sz else .slice0 b sz

theorem cutA_rel {E : Env} {b : Pos} {o l h sz B sh N c m : Nat} {cap q : Option Nat} (hb : E.blk b = some (B, sh, N)) (hN : sh + o + c * sz ≤ N) (hlh : l ≤ h) (hhm : h ≤ m) (hmc : m ≤ c)
    (hq : q = none → m = c) (hq' : ∀ q', q = some q' → m = q') (hcap : ∀ c', cap = some c' → c = c') :
    VRel E (cutA b o l h cap q sz) (.slice (if m = l then some ⟨B, sh + o, none⟩ else (some ⟨B, sh + o, none⟩ : Option Addr).map (·.add (l * sz))) (h - l) (m - l)) := by
  have hmul : (m - l) * sz + l * sz = m * sz := by rw [← Nat.add_mul]; congr 1; omega
  have hmul2 : m * sz ≤ c * sz := Nat.mul_le_mul_right _ hmc
  have gen : ∀ (cp : Option Nat), (∀ c', cp = some c' → m - l = c') → VRel E (.slice b (bif Nat.beq m l then o else o + l * sz) (h - l) cp sz) (.slice (if m = l then some ⟨B, sh + o, none⟩ else (some ⟨B, sh + o, none⟩ : Option Addr).map (·.add (l * sz))) (h - l) (m - l)) := by
    intro cp hcp
    simp only [VRel]
    by_cases e : m = l
    · subst e
      have : Nat.beq m m = true := by simp
      rw [this]
      refine ⟨B, sh, N, 0, hb, by simp, by omega, by simp; omega, fun c' hc' => by have := hcp c' hc'; omega⟩
    · have : Nat.beq m l = false := by rw [Bool.eq_false_iff]; intro h; exact e (by simpa using h)
      rw [this]
      refine ⟨B, sh, N, m - l, hb, by simp [e, addr_add, Nat.add_assoc], by omega, ?_, hcp⟩
      simp only [cond_false]
      omega
  unfold cutA
  split
  · rename_i q'
    have := hq' q' rfl
    subst this
    exact gen _ (by simp)
  · rename_i c'
    have h1 := hq rfl
    have h2 := hcap c' rfl
    subst h1 h2
    exact gen _ (by simp)
  · have h1 := hq rfl
    subst h1
    cases hc : Nat.blt l h || Nat.beq l 0
    · simp only [cond_false, VRel]
      simp only [Bool.or_eq_false_iff] at hc
      have h2 : ¬ l < h := by intro hlt; have := blt_true hlt; rw [hc.1] at this; cases this
      have h3 : l = h := by omega
      subst h3
      by_cases e : m = l
      · subst e
        exact ⟨B, sh, N, sh + o, 0, hb, by simp, by simp; omega⟩
      · exact ⟨B, sh, N, sh + o + l * sz, m - l, hb, by simp [e, addr_add], by omega⟩
    · simp only [cond_true]
      have h4 := gen none (by simp)
      by_cases e : m = l
      · subst e
        have hh : h = m := by omega
        subst hh
        simp only [Bool.or_eq_true, Nat.blt_eq, Nat.beq_eq] at hc
        have : h = 0 := by omega
        subst this
        simpa using h4
      · have : Nat.beq m l = false := by rw [Bool.eq_false_iff]; intro h; exact e (by simpa using h)
        rw [this] at h4
        exact h4

def sliceA (P : Program) (H : AH) (T : PM AV) (t : TypeId) (x : AV) (lo hi mx : Option Operand) : Option ORes :=
  match x with
  | .str len n => match P.underlying t, mx with
    | some .string, none => match bounds3 T len len lo hi none with
      | some (l, h, _) => some (.val (.str (h - l) (Nat.mod (Nat.div n (Nat.pow 256 l)) (Nat.pow 256 (h - l)))))
      | none => none
    | _, _ => none
  | .nils => match P.underlying t with
    | some (.slice el) => match bounds3 T 0 0 lo hi mx, sizeA P el with
      | some (_, _, _), some _ => some (.val .nils)
      | _, _ => none
    | _ => none
  | .slice b o len cap sz => match P.underlying t with
    | some (.slice el) => match bounds3 T len (capOr cap len) lo hi mx, sizeA P el with
      | some (l, h, q), some s => bif Nat.beq s sz then some (.val (cutA b o l h cap q sz)) else none
      | _, _ => none
    | _ => none
  | .slice0 b sz => match P.underlying t with
    | some (.slice el) => match bounds3 T 0 0 lo hi mx, sizeA P el with
      | some (l, h, _), some s => bif (Nat.beq s sz && Nat.beq l 0) && Nat.beq h 0 then some (.val (.slice0 b sz)) else none
      | _, _ => none
    | _ => none
  | .ptr b o => match P.underlying t, cellsAt H b with
    | some (.array n el), some cs => match bounds3 T n n lo hi mx, sizeA P el with
      | some (l, h, q), some s => bif Nat.ble (o + n * s) cs.length then some (.val (cutA b o l h (some n) q s)) else none
      | _, _ => none
    | _, _ => none
  | _ => none

theorem unpack_extract {len n l h : Nat} (hlh : l ≤ h) (hh : h ≤ len) : (unpack len n).extract l h = unpack (h - l) (n / 256 ^ l % 256 ^ (h - l)) := by
  apply ByteArray.ext
  rw [ByteArray.data_extract]
  apply Array.ext'
  show ((unpackL len n).toArray.extract l h).toList = unpackL _ _
  rw [List.extract_toArray]
  simp only [List.extract_eq_take_drop]
  rw [unpackL_drop l len n (by omega), unpackL_take _ _ _ (by omega), unpackL_eq_iff]
  rw [Nat.mod_mod]

theorem sliceA_ok {E : Env} {n : Nat} {T : PM AV} {a : Act} {H : AH} {w : World} {t : TypeId} {x : AV} {u : Value} {lo hi mx : Option Operand} {r : ORes} (hr : HRel E H w) (tr : TRel E n T a.tmps) (hx : VRel E x u)
    (e : sliceA P H T t x lo hi mx = some r) :
    ResOK E H w ((do pure (Next.value (← Instr.sliceAt t u (lo.map a.eval) (hi.map a.eval) (mx.map a.eval))) : Sem Next).run P w) r := by
  unfold sliceA at e
  split at e
  · rename_i len n'
    simp only [VRel] at hx; subst hx
    split at e
    · rename_i hu
      split at e
      · rename_i l h q hb
        simp at e; subst e
        obtain ⟨m, k1, k2, k3, k4, k5, k6⟩ := bounds3_ok (P := P) (w := w) (isS := false) tr hb (Nat.le_refl _) (Nat.le_refl _)
        simp only [Option.map_none] at k1 ⊢
        refine ⟨.string ((unpack len n').extract l h), w, .inl (run_value ?_), ?_, .refl w⟩
        · simp [Instr.sliceAt, Sem.run_bind, run_underlying hu, Instr.slice, unpack_size, k1]
        · simp only [VRel]
          rw [unpack_extract k2 (by omega)]
          rfl
      · cases e
    · cases e
  · simp only [VRel] at hx; subst hx
    split at e
    · rename_i el hu
      split at e
      · rename_i l h q s hb hs
        simp at e; subst e
        obtain ⟨m, k1, k2, k3, k4, k5, k6⟩ := bounds3_ok (P := P) (w := w) (isS := true) tr hb (Nat.le_refl _) (Nat.le_refl _)
        obtain ⟨rfl, rfl, rfl⟩ : l = 0 ∧ h = 0 ∧ m = 0 := ⟨by omega, by omega, by omega⟩
        refine ⟨.slice none 0 0, w, .inl (run_value ?_), by simp only [VRel], .refl w⟩
        simp [Instr.sliceAt, Sem.run_bind, run_underlying hu, Instr.slice, k1, run_sizeA w hs]
      · cases e
    · cases e
  · rename_i b o len cap sz
    simp only [VRel] at hx
    obtain ⟨B, sh, N, c, hb, rfl, g1, g2, g3⟩ := hx
    split at e
    · rename_i el hu
      split at e
      · rename_i l h q s hbd hs
        cases hz : Nat.beq s sz <;> simp [hz] at e
        subst e
        obtain rfl : s = sz := by simpa using hz
        have hbound : capOr cap len ≤ c := by
          cases cap with
          | none => exact g1
          | some c' => have := g3 c' rfl; simp only [capOr]; omega
        obtain ⟨m, k1, k2, k3, k4, k5, k6⟩ := bounds3_ok (P := P) (w := w) (isS := true) tr hbd hbound g1
        refine ⟨_, w, .inl (run_value ?_), cutA_rel hb g2 k2 k3 k4 k5 k6 g3, .refl w⟩
        simp [Instr.sliceAt, Sem.run_bind, run_underlying hu, Instr.slice, k1, run_sizeA w hs]
      · cases e
    · cases e
  · rename_i b sz
    simp only [VRel] at hx
    obtain ⟨B, sh, N, o, c, hb, rfl, g2⟩ := hx
    split at e
    · rename_i el hu
      split at e
      · rename_i l h q s hbd hs
        cases hz : (Nat.beq s sz && Nat.beq l 0) && Nat.beq h 0 <;> simp [hz] at e
        subst e
        simp only [Bool.and_eq_true, Nat.beq_eq] at hz
        obtain ⟨⟨rfl, e1⟩, e2⟩ := hz
        have hl0 : l = 0 ∧ h = 0 := ⟨e1, e2⟩
        obtain ⟨m, k1, k2, k3, k4, k5, k6⟩ := bounds3_ok (P := P) (w := w) (isS := true) (cap := c) tr hbd (Nat.zero_le _) (Nat.zero_le _)
        obtain ⟨rfl, rfl⟩ := hl0
        refine ⟨.slice (some ⟨B, o, none⟩) 0 m, w, .inl (run_value ?_), ?_, .refl w⟩
        · simp [Instr.sliceAt, Sem.run_bind, run_underlying hu, Instr.slice, k1, run_sizeA w hs, addr_add]
        · simp only [VRel]
          refine ⟨B, sh, N, o, m, hb, rfl, ?_⟩
          have := Nat.mul_le_mul_right s k4
          omega
      · cases e
    · cases e
  · rename_i b o
    simp only [VRel] at hx
    obtain ⟨B, sh, N, hb, rfl⟩ := hx
    split at e
    · rename_i n' el cs hu hcs
      split at e
      · rename_i l h q s hbd hs
        cases hz : Nat.ble (o + n' * s) cs.length <;> simp [hz] at e
        subst e
        have hle := Nat.le_of_ble_eq_true hz
        obtain ⟨m, k1, k2, k3, k4, k5, k6⟩ := bounds3_ok (P := P) (w := w) (isS := false) tr hbd (Nat.le_refl _) (Nat.le_refl _)
        obtain ⟨B', sh', N', h1, C, el', lo', hi', h2, h3, h4, h5, h6⟩ := hr.obj b _ (cellsAt_ok hcs)
        rw [hb] at h1
        obtain ⟨rfl, rfl, rfl⟩ : B = B' ∧ sh = sh' ∧ N = N' := by simpa using h1
        have hrel := cutA_rel (sz := s) (cap := some n') hb (by omega : sh + o + n' * s ≤ N) k2 k3 k4 k5 k6 (by simp)
        refine ⟨_, w, .inl (run_value ?_), hrel, .refl w⟩
        by_cases em : m = l <;> simp [Instr.sliceAt, Sem.run_bind, run_underlying hu, Instr.sureAddr, k1, run_sizeA w hs, em]
      · cases e
    · cases e
  · cases e

/-! makes -/
def makeSliceA (P : Program) (t : TypeId) (l c : AV) : Option ORes :=
  match P.underlying t, natOf l, natOf c with
  | some (.slice el), some l, some c => match P.info? el, zeroA P el with
    | some i, some z => match z.cellsOf with
      | some zs => bif (((Nat.ble l c && Nat.ble c 65536) && Nat.ble i.bytes 65536) && Nat.blt 0 zs.length) && allCells zs then
          some (.alloc (.cells ((List.range (c * i.size)).map fun j => zs.getD (j % zs.length) .nilp)) (.slice l (some c) i.size)) else none
      | none => none
    | _, _ => none
  | _, _, _ => none
theorem allCells_of {as : List AV} (h : ∀ a ∈ as, a.cell = true) : allCells as = true := by
  induction as with
  | nil => rfl
  | cons a as ih => simp [allCells, h a (by simp), ih fun b hb => h b (by simp [hb])]
theorem makeSliceA_ok {E : Env} {h : AH} {w : World} {t : TypeId} {x y : AV} {u v : Value} {r : ORes} (hx : VRel E x u) (hy : VRel E y v) (e : makeSliceA P t x y = some r) :
    ResOK E h w ((do pure (Next.value (← Instr.makeSlice t u v)) : Sem Next).run P w) r := by
  unfold makeSliceA at e
  split at e
  · rename_i el l c hu hl hc
    obtain ⟨k, rfl⟩ := natOf_ok hx hl
    obtain ⟨k', rfl⟩ := natOf_ok hy hc
    split at e
    · rename_i i z hi hz
      split at e
      · rename_i zs hzs
        cases hg : (((Nat.ble l c && Nat.ble c 65536) && Nat.ble i.bytes 65536) && Nat.blt 0 zs.length) && allCells zs <;> simp [hg] at e
        subst e
        simp only [Bool.and_eq_true, Nat.blt_eq] at hg
        obtain ⟨⟨⟨⟨g1, g2⟩, g3⟩, g4⟩, g5⟩ := hg
        have g1 := Nat.le_of_ble_eq_true g1
        have g2 := Nat.le_of_ble_eq_true g2
        have g3 := Nat.le_of_ble_eq_true g3
        obtain ⟨i', zv, hi', hz', hrel⟩ := zeroA_ok hz
        rw [hi] at hi'
        obtain rfl : i = i' := by simpa using hi'
        have hcells := (hrel E).cells hzs
        have hzl : zv.cells.size = zs.length := by have := hcells.length; simpa using this
        let C : Array Value := (Array.range (c * i.size)).map (zv.cells[· % zv.cells.size]!)
        have hC : C.size = c * i.size := by simp [C]
        have wl : IntKind.i64.wrap (l : Int) = (l : Int) := wrap_pos _ (by omega) (by omega)
        have wc : IntKind.i64.wrap (c : Int) = (c : Int) := wrap_pos _ (by omega) (by omega)
        have hbytes : i.bytes * c ≤ 65536 * 65536 := Nat.mul_le_mul g3 g2
        refine ⟨.slice (some ⟨w.heap.size, 0, none⟩) l c, { w with heap := w.heap.push (.cells C el) }, .cells C el, C.size, .inl (run_value ?_), .refl _, ?_, fun E' p hp => ?_⟩
        · have hnb : ¬ ((i.bytes : Int) * (c : Int) > 2 ^ 48) := by
            rw [(Int.natCast_mul i.bytes c).symm]
            generalize i.bytes * c = z at hbytes ⊢
            omega
          have hc0 : ¬ ((c : Int) < 0) := by omega
          have hl0 : ¬ ((l : Int) < 0) := by omega
          have hlc : ¬ ((l : Int) > (c : Int)) := by omega
          simp only [Instr.makeSlice, Sem.run_bind, run_underlying hu, Result.andThen_ok, asInt, asIntOf, Sem.run_pure, run_typeInfo w hi, wl, wc, hnb, hc0, hl0, hlc, decide_false, Bool.or_false, Bool.false_eq_true, if_false, run_askRoom, Int.toNat_natCast, run_sizeOf w hi]
          have hsz : P.cellsOf el = i.size := by simp [Program.cellsOf, hi]
          rw [hsz]
          by_cases h0 : c * i.size = 0
          · have : C = #[] := by simp [C, h0]
            simp only [h0, if_true, Sem.run_pure, Result.andThen_ok]
            rw [this]
            have e0 : ∀ f : Nat → Value, Array.map f (Array.range 0) = #[] := fun f => by simp
            simp only [e0, run_newRow, Result.andThen_ok]
            rfl
          · simp only [h0, if_false, Sem.run_bind, run_zero w hi hz', Result.andThen_ok, Sem.run_pure, run_newRow]
            rfl
        · refine ORel.row (VRelL.of_get (by simp [hC]) fun j x hj => ?_) (allCells_of fun x hx => ?_)
          · rw [List.getElem?_map, Option.map_eq_some_iff] at hj
            obtain ⟨j', hj1, rfl⟩ := hj
            have hj2 := List.getElem?_eq_some_iff.1 hj1
            obtain ⟨hlt, hje⟩ := hj2
            simp at hje hlt
            subst hje
            have hm : j % zs.length < zs.length := Nat.mod_lt _ g4
            have hg : zs[j % zs.length]? = some (zs.getD (j % zs.length) .nilp) := by simp [List.getD, List.getElem?_eq_getElem hm]
            obtain ⟨q, hq, hqr⟩ := hcells.get hg
            refine ⟨q, ?_, hqr⟩
            have hq' : zv.cells[j % zs.length]? = some q := by simpa using hq
            rw [Array.getElem?_toList]
            simp only [C, Array.getElem?_map, Array.getElem?_range, hlt, if_true, Option.map_some, hzl]
            congr 1
            rw [getElem!_def, hq']
          · simp only [List.mem_map] at hx
            obtain ⟨j, _, rfl⟩ := hx
            have hm : j % zs.length < zs.length := Nat.mod_lt _ g4
            have hg : zs[j % zs.length]? = some (zs.getD (j % zs.length) .nilp) := by simp [List.getD, List.getElem?_eq_getElem hm]
            exact allCells_mem g5 _ (List.mem_of_getElem? hg)
        · simp only [AK.av, VRel]
          exact ⟨_, _, _, c, hp, by simp, g1, by simp [hC], by simp⟩
      · cases e
    · cases e
  · cases e

def makeMapA (reserve : Option Operand) : Option ORes :=
  match reserve with
  | none => some (.alloc (.map [] 0) .map)
  | some _ => none
theorem makeMapA_ok {E : Env} {h : AH} {w : World} {t : TypeId} {res : Option Operand} {ρ : Operand → Value} {r : ORes} (e : makeMapA res = some r) :
    ResOK E h w ((do pure (Next.value (← Instr.makeMap t (res.map ρ))) : Sem Next).run P w) r := by
  unfold makeMapA at e
  split at e
  · simp at e; subst e
    refine ⟨.map (some w.heap.size), { w with heap := w.heap.push (.map #[] 0) }, .map #[] 0, 0, .inl (run_value ?_), .refl _, ⟨rfl, #[], rfl, by simp [MRel]⟩, fun E' p hp => ?_⟩
    · simp [Instr.makeMap, newObj, Sem.run_bind, Sem.run]
    · simp only [AK.av, VRel]; exact ⟨_, _, hp, rfl⟩
  · cases e

def makeFuncA (T : PM AV) (fn : Fn) (first cap : Array Operand) : Option ORes :=
  match evAs T first.toList, evAs T cap.toList with
  | some a, some c => some (.val (.func fn a c))
  | _, _ => none
theorem makeFuncA_ok {E : Env} {n : Nat} {T : PM AV} {a : Act} {h : AH} {w : World} {fn : Fn} {first cap : Array Operand} {r : ORes} (tr : TRel E n T a.tmps) (e : makeFuncA T fn first cap = some r) :
    ResOK E h w ((do pure (Next.value (← Instr.makeFunc fn (first.map a.eval) (cap.map a.eval))) : Sem Next).run P w) r := by
  unfold makeFuncA at e
  split at e
  · rename_i x y hx hy
    simp at e; subst e
    refine ⟨.func fn (first.map a.eval) (cap.map a.eval), w, .inl (run_value (by simp [Instr.makeFunc])), ?_, .refl w⟩
    simp only [VRel]
    exact ⟨_, _, rfl, by simpa using evAs_rel tr hx, by simpa using evAs_rel tr hy⟩
  · cases e
end
end Go.Ax
