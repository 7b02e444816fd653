/- An abstract executor, fifth part: operations on single values and on variables. -/
import Derived.Test.YtapkhldfbdcblaaGreatDoorAxMem
set_option linter.unusedSectionVars false
set_option linter.unnecessarySimpa false
set_option linter.unusedSimpArgs false
set_option linter.unusedVariables false
namespace Go.Ax
noncomputable section
variable {P : Program}

def toAV0 : Value → Option AV
  | .bool b => some (.bool b)
  | .int k n => some (.int k n)
  | .string s => some (.str s.size (packL s.data.toList))
  | .pointer none => some .nilp
  | .slice none 0 0 => some .nils
  | .map none => some .nilm
  | .nilFunc => some .nilFunc
  | .nilIface => some .nilIface
  | _ => none
def toAVs : List Value → Option (List AV)
  | [] => some []
  | v :: vs => match toAV0 v, toAVs vs with
    | some a, some as => some (a :: as)
    | _, _ => none
def toAV : Value → Option AV
  | .agg cs => (toAVs cs.toList).map .agg
  | .tuple cs => (toAVs cs.toList).map .tuple
  | v => toAV0 v
theorem toAV0_rel {E : Env} {v : Value} {a : AV} (h : toAV0 v = some a) : VRel E a v := by
  unfold toAV0 at h
  split at h <;> simp at h <;> subst h <;> simp [VRel, unpack_packL]
theorem toAVs_rel {E : Env} : ∀ {vs : List Value} {as : List AV}, toAVs vs = some as → VRelL E as vs
  | [], as, h => by simp [toAVs] at h; subst h; simp [VRelL]
  | v :: vs, as, h => by
    simp only [toAVs] at h
    split at h
    · rename_i a as' h1 h2
      simp at h; subst h
      simp only [VRelL]
      exact ⟨v, vs, rfl, toAV0_rel h1, toAVs_rel h2⟩
    · cases h
theorem toAV_rel {E : Env} {v : Value} {a : AV} (h : toAV v = some a) : VRel E a v := by
  unfold toAV at h
  split at h
  · simp only [Option.map_eq_some_iff] at h
    obtain ⟨cs, h1, rfl⟩ := h
    simp only [VRel]
    exact ⟨_, rfl, toAVs_rel h1⟩
  · simp only [Option.map_eq_some_iff] at h
    obtain ⟨cs, h1, rfl⟩ := h
    simp only [VRel]
    exact ⟨_, rfl, toAVs_rel h1⟩
  · exact toAV0_rel h

/-- An operand. -/
def evA (T : PM AV) : Operand → Option AV
  | .tmp t => bif Nat.ble t 1000000 then T.get (posOf t) else none
  | .const v => toAV v
  | .func f => some (.func (.func f) [] [])
  | .global _ => none
theorem evA_rel {E : Env} {n : Nat} {T : PM AV} {a : Act} {x : Operand} {v : AV} (h : evA T x = some v) (r : TRel E n T a.tmps) : VRel E v (a.eval x) := by
  cases x with
  | tmp t =>
    simp only [evA] at h
    cases hb : Nat.ble t 1000000
    · simp [hb] at h
    · simp only [hb, cond_true] at h
      have ht : t < 2 ^ 62 := Nat.lt_of_le_of_lt (Nat.le_of_ble_eq_true hb) (by decide)
      obtain ⟨u, hu, hv⟩ := r.2 t v ht h
      have : a.eval (.tmp t) = u := by simp [Act.eval, hu]
      rw [this]; exact hv
  | const c => exact toAV_rel h
  | func f => simp only [evA, Option.some.injEq] at h; subst h; simp only [VRel, Act.eval]; exact ⟨_, _, rfl, by simp [VRelL], by simp [VRelL]⟩
  | global g => simp [evA] at h
def evAs (T : PM AV) : List Operand → Option (List AV)
  | [] => some []
  | x :: xs => match evA T x, evAs T xs with
    | some a, some as => some (a :: as)
    | _, _ => none
theorem evAs_rel {E : Env} {n : Nat} {T : PM AV} {a : Act} (r : TRel E n T a.tmps) : ∀ {xs : List Operand} {as : List AV}, evAs T xs = some as → VRelL E as (xs.map a.eval)
  | [], as, h => by simp [evAs] at h; subst h; simp [VRelL]
  | x :: xs, as, h => by
    simp only [evAs] at h
    split at h
    · rename_i b bs h1 h2
      simp at h; subst h
      simp only [List.map_cons, VRelL]
      exact ⟨_, _, rfl, evA_rel h1 r, evAs_rel r h2⟩
    · cases h

def allCells : List AV → Bool
  | [] => true
  | a :: as => a.cell && allCells as
theorem allCells_mem : ∀ {as : List AV}, allCells as = true → ∀ a ∈ as, a.cell = true
  | [], _, _, h => by simp at h
  | a :: as, h, b, hb => by
    simp only [allCells, Bool.and_eq_true] at h
    rcases List.mem_cons.1 hb with rfl | hb
    · exact h.1
    · exact allCells_mem h.2 b hb

theorem ORel.row {E : Env} {cs : List AV} {C : Array Value} {el : TypeId} (hv : VRelL E cs C.toList) (hc : allCells cs = true) : ORel E (.cells cs) 0 C.size (some (.cells C el)) := by
  refine ⟨C, el, 0, 0, rfl, rfl, ?_, fun i v hi => ?_, fun j _ h => by omega⟩
  · have := hv.length; simp at this; omega
  · obtain ⟨u, hu, hr⟩ := hv.get hi
    exact ⟨allCells_mem hc v (List.mem_of_getElem? hi), u, by simpa using hu, hr⟩

theorem run_value {s : Sem Value} {w w' : World} {u : Value} (h : s.run P w = .ok u w') : (do pure (Next.value (← s)) : Sem Next).run P w = .ok (.value u) w' := by
  simp [Sem.run_bind, h]
theorem run_unit {s : Sem Unit} {w w' : World} (h : s.run P w = .ok () w') : (do s; pure Next.skip : Sem Next).run P w = .ok .skip w' := by
  simp [Sem.run_bind, h]

/-! new variables -/
def boxA (x : AV) : Option ORes :=
  match x.cellsOf with
  | some cs => bif allCells cs then some (.alloc (.cells cs) .ptr) else none
  | none => none
theorem boxA_ok {E : Env} {h : AH} {w : World} {x : AV} {v : Value} {r : ORes} {t : TypeId} {s : Sem Value} (hx : VRel E x v) (hr : boxA x = some r)
    (hs : s.run P w = .ok (.pointer (some ⟨w.heap.size, 0, none⟩)) { w with heap := w.heap.push (.cells v.cells t) }) : ResOK E h w ((do pure (Next.value (← s)) : Sem Next).run P w) r := by
  unfold boxA at hr
  split at hr
  · rename_i cs hcs
    cases hc : allCells cs <;> simp [hc] at hr
    subst hr
    refine ⟨_, _, .cells v.cells t, v.cells.size, .inl (run_value hs), .refl _, ORel.row (hx.cells hcs) hc, fun E' p hp => ?_⟩
    simp only [AK.av, VRel]
    exact ⟨_, _, _, hp, rfl⟩
  · cases hr
theorem run_newRow (w : World) (el : TypeId) (C : Array Value) : (newRow el C).run P w = .ok ⟨w.heap.size, 0, none⟩ { w with heap := w.heap.push (.cells C el) } := by
  simp [newRow, newObj, Sem.run_bind, Sem.run]
theorem run_box (w : World) (el : TypeId) (v : Value) : (Instr.box el v).run P w = .ok (.pointer (some ⟨w.heap.size, 0, none⟩)) { w with heap := w.heap.push (.cells v.cells el) } := by
  simp [Instr.box, newVar, Sem.run_bind, run_newRow]
def zeroA (P : Program) (t : TypeId) : Option AV :=
  match P.info? t with
  | some i => match i.zero with
    | some z => toAV z
    | none => none
  | none => none
theorem zeroA_ok {t : TypeId} {a : AV} (h : zeroA P t = some a) : ∃ i z, P.info? t = some i ∧ i.zero = some z ∧ ∀ E, VRel E a z := by
  unfold zeroA at h
  split at h
  · rename_i i hi
    split at h
    · rename_i z hz
      exact ⟨i, z, hi, hz, fun E => toAV_rel h⟩
    · cases h
  · cases h
theorem run_zero {t : TypeId} {i : TypeInfo} {z : Value} (w : World) (hi : P.info? t = some i) (hz : i.zero = some z) : (zeroValue t).run P w = .ok z w := by
  simp [zeroValue, Sem.run_bind, run_typeInfo w hi, hz]
theorem run_alloc {t : TypeId} {i : TypeInfo} {z : Value} (w : World) (hi : P.info? t = some i) (hz : i.zero = some z) :
    (Instr.alloc t true (.tuple #[])).run P w = .ok (.pointer (some ⟨w.heap.size, 0, none⟩)) { w with heap := w.heap.push (.cells z.cells t) } := by
  simp [Instr.alloc, Sem.run_bind, run_zero w hi hz, newVar, run_newRow]

/-! variables, read and written -/
def aggOf (P : Program) (t : TypeId) : Option Bool :=
  match P.underlying t with
  | some (.struct _) => some true
  | some (.array _ _) => some true
  | some _ => some false
  | none => none
theorem run_aggOf {t : TypeId} {b : Bool} (w : World) (h : aggOf P t = some b) : (isAgg t).run P w = .ok b w := by
  unfold aggOf at h
  cases hd : P.underlying t with
  | none => simp [hd] at h
  | some d =>
    rw [run_isAgg w hd]
    cases d <;> simp [hd] at h <;> subst h <;> rfl
def sizeA (P : Program) (t : TypeId) : Option Nat :=
  match P.info? t with
  | some i => some i.size
  | none => none
theorem run_sizeA {t : TypeId} {n : Nat} (w : World) (h : sizeA P t = some n) : (sizeOf t).run P w = .ok n w := by
  unfold sizeA at h
  split at h <;> simp at h
  subst h
  rename_i i hi
  simp [sizeOf, Sem.run_bind, run_typeInfo w hi]

def cellsAt (h : AH) (b : Pos) : Option (List AV) :=
  match h.m.get b with
  | some (.cells cs) => some cs
  | _ => none
theorem cellsAt_ok {h : AH} {b : Pos} {cs : List AV} (e : cellsAt h b = some cs) : h.m.get b = some (.cells cs) := by
  unfold cellsAt at e
  split at e <;> simp at e
  subst e; assumption

def loadA (P : Program) (h : AH) (t : TypeId) (x : AV) : Option ORes :=
  match x with
  | .ptr b o =>
    match cellsAt h b, aggOf P t with
    | some cs, some false => match cs[o]? with
      | some v => some (.val v)
      | none => none
    | some cs, some true => match sizeA P t with
      | some n => bif Nat.ble (o + n) cs.length then some (.val (.agg ((cs.drop o).take n))) else none
      | none => none
    | _, _ => none
  | _ => none
theorem loadA_ok {E : Env} {h : AH} {w : World} {t : TypeId} {x : AV} {v : Value} {r : ORes} (hr : HRel E h w) (hx : VRel E x v) (e : loadA P h t x = some r) :
    ResOK E h w ((do pure (Next.value (← Instr.loadAt t v)) : Sem Next).run P w) r := by
  unfold loadA at e
  split at e
  · rename_i b o
    simp only [VRel] at hx
    obtain ⟨B, sh, N, hb, rfl⟩ := hx
    split at e
    · rename_i cs hcs hag
      split at e
      · rename_i u hu
        simp at e; subst e
        obtain ⟨B', sh', N', u', g1, g2, _, g4, _⟩ := hr.cell (cellsAt_ok hcs) hu
        rw [hb] at g1
        obtain ⟨rfl, rfl, rfl⟩ : B = B' ∧ sh = sh' ∧ N = N' := by simpa using g1
        exact ⟨u', w, .inl (run_value (by simp [Instr.loadAt, Instr.sureAddr, loadVar, Sem.run_bind, run_aggOf w hag, g2])), g4, .refl w⟩
      · cases e
    · rename_i cs hcs hag
      split at e
      · rename_i n hn
        cases hle : Nat.ble (o + n) cs.length <;> simp [hle] at e
        subst e
        obtain ⟨B', sh', N', g1, us, g2, g3, g4⟩ := hr.loads (cellsAt_ok hcs) (Nat.le_of_ble_eq_true hle)
        rw [hb] at g1
        obtain ⟨rfl, rfl, rfl⟩ : B = B' ∧ sh = sh' ∧ N = N' := by simpa using g1
        refine ⟨.agg us.toArray, w, .inl (run_value ?_), ?_, .refl w⟩
        · simp [Instr.loadAt, Instr.sureAddr, loadVar, Sem.run_bind, run_aggOf w hag, run_sizeA w hn, g4 P]
        · simp only [VRel]; exact ⟨_, rfl, by simpa using g3⟩
      · cases e
    · cases e
  · cases e

def storeA (P : Program) (h : AH) (t : TypeId) (x v : AV) : Option ORes :=
  match x with
  | .ptr b o =>
    match cellsAt h b, v.cellsOf, sizeA P t with
    | some cs, some vs, some n => bif (Nat.beq vs.length n && Nat.ble (o + n) cs.length) && allCells vs then some (.stores b o vs .undef) else none
    | _, _, _ => none
  | _ => none
theorem storeA_ok {E : Env} {h : AH} {w : World} {t : TypeId} {x y : AV} {v u : Value} {r : ORes} (hr : HRel E h w) (hx : VRel E x v) (hy : VRel E y u) (e : storeA P h t x y = some r) :
    ResOK E h w ((do Instr.storeAt t v u; pure Next.skip : Sem Next).run P w) r := by
  unfold storeA at e
  split at e
  · rename_i b o
    simp only [VRel] at hx
    obtain ⟨B, sh, N, hb, rfl⟩ := hx
    split at e
    · rename_i cs vs n hcs hvs hn
      cases hc : (Nat.beq vs.length n && Nat.ble (o + n) cs.length) && allCells vs <;> simp [hc] at e
      subst e
      simp only [Bool.and_eq_true, Nat.beq_eq] at hc
      obtain ⟨⟨h1, h2⟩, h3⟩ := hc
      subst h1
      have hrel := hy.cells hvs
      obtain ⟨w', k1, k2, k3⟩ := HRel.storesL P vs u.cells.toList o 0 h w cs hr hb (cellsAt_ok hcs) (by have := Nat.le_of_ble_eq_true h2; omega) hrel (allCells_mem h3)
      have hsz : u.cells.size = vs.length := by have := hrel.length; simpa using this
      have happ : (ORes.stores b o vs .undef).app h = (.undef, h.set b (.cells (splice o vs cs))) := by
        simp [ORes.app, cellsAt_ok hcs]
      refine ⟨undef, w', E, .inr ⟨run_unit ?_, rfl⟩, ?_, ?_, ?_⟩
      · simp [Instr.storeAt, Instr.sureAddr, storeVar, Sem.run_bind, run_sizeA w hn, hsz, k1]
      · rw [happ]; simp [AV.undef, VRel, undef, VRelL]
      · rw [happ]; exact k2
      · rw [happ]; exact k3
    · cases e
  · cases e

/-! places -/
def fieldAddrA (P : Program) (s : TypeId) (x : AV) (f : Nat) : Option ORes :=
  match x with
  | .ptr b o => match P.underlying s with
    | some (.struct fs) => match fs[f]? with
      | some fl => match sizeA P fl.type with
        | some n => bif Nat.beq n 0 then none else some (.val (.ptr b (o + fl.offset)))
        | none => none
      | none => none
    | _ => none
  | _ => none
theorem fieldAddrA_ok {E : Env} {h : AH} {w : World} {s : TypeId} {x : AV} {f : Nat} {v : Value} {r : ORes} (hx : VRel E x v) (e : fieldAddrA P s x f = some r) :
    ResOK E h w ((do pure (Next.value (← Instr.fieldAt s v f)) : Sem Next).run P w) r := by
  unfold fieldAddrA at e
  split at e
  · rename_i b o
    simp only [VRel] at hx
    obtain ⟨B, sh, N, hb, rfl⟩ := hx
    split at e
    · rename_i fs hu
      split at e
      · rename_i fl hf
        split at e
        · rename_i n hn
          cases hz : Nat.beq n 0 <;> simp [hz] at e
          subst e
          have hn0 : n ≠ 0 := fun h0 => by rw [h0] at hz; simp [Nat.beq] at hz
          refine ⟨.pointer (some ⟨B, sh + (o + fl.offset), none⟩), w, .inl (run_value ?_), ?_, .refl w⟩
          · simp [Instr.fieldAt, Sem.run_bind, run_underlying hu, hf, Instr.sureAddr, fieldPlace, run_sizeA w hn, hn0, addr_add, Nat.add_assoc]
          · simp only [VRel]; exact ⟨B, sh, N, hb, rfl⟩
        · cases e
      · cases e
    · cases e
  · cases e

def partA (P : Program) (t : TypeId) (cs : List AV) (off : Nat) : Option AV :=
  match aggOf P t with
  | some false => cs[off]?
  | some true => match sizeA P t with
    | some n => bif Nat.ble (off + n) cs.length then some (.agg ((cs.drop off).take n)) else none
    | none => none
  | none => none
theorem partA_ok {E : Env} {w : World} {t : TypeId} {cs : List AV} {vs : Array Value} {off : Nat} {a : AV} (hv : VRelL E cs vs.toList) (e : partA P t cs off = some a) :
    ∃ v, (part t vs off).run P w = .ok v w ∧ VRel E a v := by
  unfold partA at e
  split at e
  · rename_i hag
    obtain ⟨u, hu, hr⟩ := hv.get e
    have hu' : vs[off]? = some u := by simpa using hu
    exact ⟨u, by simp [part, Sem.run_bind, run_aggOf w hag, hu'], hr⟩
  · rename_i hag
    split at e
    · rename_i n hn
      cases hle : Nat.ble (off + n) cs.length <;> simp [hle] at e
      subst e
      refine ⟨.agg (vs.extract off (off + n)), by simp [part, Sem.run_bind, run_aggOf w hag, run_sizeA w hn], ?_⟩
      simp only [VRel]
      refine ⟨_, rfl, ?_⟩
      have : (vs.extract off (off + n)).toList = (vs.toList.drop off).take n := by simp [Array.toList_extract, List.extract_eq_take_drop]
      rw [this]
      exact (hv.drop off).take n
    · cases e
  · cases e

def fieldA (P : Program) (t : TypeId) (x : AV) (f : Nat) : Option ORes :=
  match x with
  | .agg cs => match P.underlying t with
    | some (.struct fs) => match fs[f]? with
      | some fl => match partA P fl.type cs fl.offset with
        | some a => some (.val a)
        | none => none
      | none => none
    | _ => none
  | _ => none
theorem fieldA_ok {E : Env} {h : AH} {w : World} {s : TypeId} {x : AV} {f : Nat} {v : Value} {r : ORes} (hx : VRel E x v) (e : fieldA P s x f = some r) :
    ResOK E h w ((do pure (Next.value (← Instr.field s v f)) : Sem Next).run P w) r := by
  unfold fieldA at e
  split at e
  · rename_i cs
    simp only [VRel] at hx
    obtain ⟨vs, rfl, hvs⟩ := hx
    split at e
    · rename_i fs hu
      split at e
      · rename_i fl hf
        split at e
        · rename_i a ha
          simp at e; subst e
          obtain ⟨u, h1, h2⟩ := partA_ok (w := w) hvs ha
          exact ⟨u, w, .inl (run_value (by simp [Instr.field, Sem.run_bind, run_underlying hu, hf, asAgg, h1])), h2, .refl w⟩
        · cases e
      · cases e
    · cases e
  · cases e

def ltN (i : Int) (n : Nat) : Option Nat :=
  match i with
  | .ofNat m => bif Nat.blt m n then some m else none
  | .negSucc _ => none
theorem ltN_ok {i : Int} {n m : Nat} (h : ltN i n = some m) : i = (m : Int) ∧ m < n := by
  unfold ltN at h
  split at h
  · rename_i m'
    cases hb : Nat.blt m' n <;> simp [hb] at h
    subst h
    exact ⟨rfl, by simpa [Nat.blt_eq] using hb⟩
  · cases h

def indexAddrA (P : Program) (t : TypeId) (x ix : AV) : Option ORes :=
  match ix with
  | .int _ i => match x, P.underlying t with
    | .ptr b o, some (.array n el) => match ltN i n, sizeA P el with
      | some m, some s => some (.val (.ptr b (o + m * s)))
      | _, _ => none
    | .slice b o len _ _, some (.slice el) => match ltN i len, sizeA P el with
      | some m, some s => some (.val (.ptr b (o + m * s)))
      | _, _ => none
    | _, _ => none
  | _ => none
theorem indexAddrA_ok {E : Env} {h : AH} {w : World} {t : TypeId} {x y : AV} {v u : Value} {r : ORes} (hx : VRel E x v) (hy : VRel E y u) (e : indexAddrA P t x y = some r) :
    ResOK E h w ((do pure (Next.value (← Instr.indexAt t v u)) : Sem Next).run P w) r := by
  unfold indexAddrA at e
  split at e
  · rename_i k i
    simp only [VRel] at hy
    subst hy
    split at e
    · rename_i b o n el hu
      simp only [VRel] at hx
      obtain ⟨B, sh, N, hb, rfl⟩ := hx
      split at e
      · rename_i m s hm hs
        simp at e; subst e
        obtain ⟨rfl, hlt⟩ := ltN_ok hm
        refine ⟨.pointer (some ⟨B, sh + (o + m * s), none⟩), w, .inl (run_value ?_), ?_, .refl w⟩
        · have hlt' : (m : Int) < (n : Int) := by omega
          simp [Instr.indexAt, Sem.run_bind, run_underlying hu, asIntOf, Instr.sureAddr, run_sizeA w hs, hlt', addr_add, Nat.add_assoc]
          omega
        · simp only [VRel]; exact ⟨B, sh, N, hb, rfl⟩
      · cases e
    · rename_i b o len cap sz el hu
      simp only [VRel] at hx
      obtain ⟨B, sh, N, c, hb, rfl, _⟩ := hx
      split at e
      · rename_i m s hm hs
        simp at e; subst e
        obtain ⟨rfl, hlt⟩ := ltN_ok hm
        refine ⟨.pointer (some ⟨B, sh + (o + m * s), none⟩), w, .inl (run_value ?_), ?_, .refl w⟩
        · have hlt' : (m : Int) < (len : Int) := by omega
          simp [Instr.indexAt, Sem.run_bind, run_underlying hu, asIntOf, run_sizeA w hs, hlt', addr_add, Nat.add_assoc]
          omega
        · simp only [VRel]; exact ⟨B, sh, N, hb, rfl⟩
      · cases e
    · cases e
  · cases e

def indexA (P : Program) (t : TypeId) (x ix : AV) : Option ORes :=
  match ix with
  | .int _ i => match x, P.underlying t with
    | .str len n, some .string => match ltN i len with
      | some m => some (.val (.int .u8 (.ofNat (Nat.mod (Nat.div n (Nat.pow 256 m)) 256))))
      | none => none
    | .agg cs, some (.array n el) => match ltN i n, sizeA P el with
      | some m, some s => match partA P el cs (m * s) with
        | some a => some (.val a)
        | none => none
      | _, _ => none
    | _, _ => none
  | _ => none
theorem unpack_get {len n m : Nat} (h : m < len) : (unpack len n)[m]? = some (UInt8.ofNat (n / 256 ^ m % 256)) := by
  have h1 := unpackL_get m len n h
  have hs : m < (unpack len n).size := by rw [unpack_size]; exact h
  rw [getElem?_pos (unpack len n) m hs]
  have : (unpackL len n).toArray[m]? = some (UInt8.ofNat (n / 256 ^ m % 256)) := by simpa using h1
  have h2 : (unpack len n)[m] = (unpackL len n).toArray[m]'(by simpa [unpackL_length] using h) := rfl
  rw [h2]
  rw [Array.getElem?_eq_getElem (by simpa [unpackL_length] using h)] at this
  exact this
theorem indexA_ok {E : Env} {h : AH} {w : World} {t : TypeId} {x y : AV} {v u : Value} {r : ORes} (hx : VRel E x v) (hy : VRel E y u) (e : indexA P t x y = some r) :
    ResOK E h w ((do pure (Next.value (← Instr.index t v u)) : Sem Next).run P w) r := by
  unfold indexA at e
  split at e
  · rename_i k i
    simp only [VRel] at hy
    subst hy
    split at e
    · rename_i len n hu
      simp only [VRel] at hx
      subst hx
      split at e
      · rename_i m hm
        simp at e; subst e
        obtain ⟨rfl, hlt⟩ := ltN_ok hm
        refine ⟨_, w, .inl (run_value (u := .int .u8 (UInt8.ofNat (n / 256 ^ m % 256)).toNat) ?_), ?_, .refl w⟩
        · have h0 : (0 : Int) ≤ (m : Int) := Int.natCast_nonneg m
          simp only [Instr.index, Sem.run_bind, asIntOf, Sem.run_pure, Result.andThen_ok, run_underlying hu, h0, if_true, Int.toNat_natCast, unpack_get hlt]
        · simp only [VRel]
          congr 1
          congr 1
          show (UInt8.ofNat (n / 256 ^ m % 256)).toNat = n / 256 ^ m % 256
          simp
      · cases e
    · rename_i cs n el hu
      simp only [VRel] at hx
      obtain ⟨vs, rfl, hvs⟩ := hx
      split at e
      · rename_i m s hm hs
        split at e
        · rename_i a ha
          simp at e; subst e
          obtain ⟨rfl, hlt⟩ := ltN_ok hm
          obtain ⟨u, h1, h2⟩ := partA_ok (w := w) hvs ha
          have hlt' : (m : Int) < (n : Int) := by omega
          refine ⟨u, w, .inl (run_value ?_), h2, .refl w⟩
          simp [Instr.index, Sem.run_bind, run_underlying hu, asIntOf, run_sizeA w hs, h1]
          omega
        · cases e
      · cases e
    · cases e
  · cases e
end
end Go.Ax
