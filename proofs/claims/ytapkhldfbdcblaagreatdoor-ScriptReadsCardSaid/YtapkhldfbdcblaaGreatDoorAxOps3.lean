/- An abstract executor, seventh part: conversions, slicing, interfaces, functions, makes. -/
import Derived.Test.YtapkhldfbdcblaaGreatDoorAxOps2
import Derived.Laws.BytesString
set_option linter.unusedSectionVars false
set_option linter.unnecessarySimpa false
set_option linter.unusedSimpArgs false
set_option linter.unusedVariables false
namespace Go.Ax
noncomputable section
variable {P : Program}

def unA (op : UnOp) (x : AV) : Option ORes :=
  match op, x with
  | .not, .bool b => some (.val (.bool (!b)))
  | .neg, .int k n => some (.val (.int k (wrapA k (Int.sub (.ofNat 0) n))))
  | .xor, .int k n => some (.val (.int k (bits .xor k (if k.signed then -1 else k.max) n)))
  | _, _ => none
theorem unA_ok {E : Env} {h : AH} {w : World} {op : UnOp} {x : AV} {u : Value} {r : ORes} (hx : VRel E x u) (e : unA op x = some r) :
    ResOK E h w ((do pure (Next.value (← Op.unary op u)) : Sem Next).run P w) r := by
  unfold unA at e
  split at e
  · simp only [VRel] at hx; subst hx; simp at e; subst e
    exact ⟨.bool _, w, .inl (run_value (u := .bool _) (by simp only [Op.unary]; rfl)), by simp only [VRel], .refl w⟩
  · rename_i k n
    simp only [VRel] at hx; subst hx; simp at e; subst e
    exact ⟨.int k (k.wrap (0 - n)), w, .inl (run_value (by simp [Op.unary, Op.intArith])), by simp only [VRel, wrapA_eq]; rfl, .refl w⟩
  · rename_i k n
    simp only [VRel] at hx; subst hx; simp at e; subst e
    refine ⟨.int k (bits .xor k (if k.signed then -1 else k.max) n), w, .inl (run_value ?_), by simp only [VRel], .refl w⟩
    show (Op.intBits .xor k (if k.signed then -1 else k.max) n).run P w = _
    rw [intBits_xor]; rfl
  · cases e

/-! bytes and texts -/
def bytesA : Nat → Nat → List AV
  | 0, _ => []
  | k + 1, n => .int .u8 (.ofNat (Nat.mod n 256)) :: bytesA k (Nat.div n 256)
theorem bytesA_rel (E : Env) : ∀ (len n : Nat), VRelL E (bytesA len n) ((unpackL len n).map fun b => Value.int .u8 b.toNat)
  | 0, n => by simp [bytesA, unpackL, VRelL]
  | k + 1, n => by
    simp only [bytesA, unpackL, List.map_cons, VRelL]
    refine ⟨_, _, rfl, ?_, bytesA_rel E k (n / 256)⟩
    simp only [VRel]
    congr 1
    show ((UInt8.ofNat (n % 256)).toNat : Int) = ((n % 256 : Nat) : Int)
    congr 1
    simp
theorem bytesA_cells : ∀ (len n : Nat), allCells (bytesA len n) = true
  | 0, _ => rfl
  | k + 1, n => by simp only [bytesA, allCells, AV.cell, Bool.true_and]; exact bytesA_cells k _
theorem bytesA_length : ∀ (len n : Nat), (bytesA len n).length = len
  | 0, _ => rfl
  | k + 1, n => by simp [bytesA, bytesA_length k]
def packA : List AV → Option Nat
  | [] => some 0
  | .int .u8 (.ofNat b) :: r => match packA r with
    | some m => bif Nat.blt b 256 then some (Nat.add b (Nat.mul 256 m)) else none
    | none => none
  | _ => none
theorem packA_ok {E : Env} : ∀ {as : List AV} {vs : List Value} {m : Nat}, packA as = some m → VRelL E as vs →
    ∃ ns : List Int, vs = ns.map (Value.int .u8) ∧ ns.length = as.length ∧ (ns.map fun n => UInt8.ofNat n.toNat) = unpackL as.length m
  | [], vs, m, e, r => by simp only [VRelL] at r; subst r; exact ⟨[], rfl, rfl, rfl⟩
  | a :: as, vs, m, e, r => by
    unfold packA at e
    split at e
    · cases ‹_ :: _ = []›
    · rename_i b r' heq
      simp only [List.cons.injEq] at heq
      obtain ⟨rfl, rfl⟩ := heq
      simp only [VRelL] at r
      obtain ⟨v, vs', rfl, hv, hs⟩ := r
      split at e
      · rename_i m' hm
        cases hb : Nat.blt b 256 <;> simp [hb] at e
        subst e
        have hb' : b < 256 := by simpa [Nat.blt_eq] using hb
        obtain ⟨ns, rfl, hl, hp⟩ := packA_ok hm hs
        simp only [VRel] at hv
        subst hv
        refine ⟨(b : Int) :: ns, rfl, by simp [hl], ?_⟩
        simp only [List.map_cons, List.length_cons, unpackL, Int.toNat_natCast]
        have h1 : (b + 256 * m') % 256 = b := by omega
        have h2 : (b + 256 * m') / 256 = m' := by omega
        show UInt8.ofNat b :: _ = UInt8.ofNat ((b + 256 * m') % 256) :: unpackL as.length ((b + 256 * m') / 256)
        rw [h1, h2, hp]
      · cases e
    · cases e
theorem push_fold : ∀ (ns : List Int) (s : ByteArray), (ns.foldl (fun r n => r.push (UInt8.ofNat n.toNat)) s).data.toList = s.data.toList ++ ns.map fun n => UInt8.ofNat n.toNat
  | [], s => by simp
  | n :: ns, s => by
    rw [List.foldl_cons, push_fold ns]
    simp [ByteArray.data_push]
theorem freeze_last (w : World) (C : Array Value) (el : TypeId) :
    (({ w with heap := w.heap.push (.cells C el) } : World).freeze ⟨w.heap.size, C.size, none⟩ 1).heap = w.heap.push (.cells C el (C.size, C.size + 1)) := by
  simp only [World.freeze, Nat.one_ne_zero, if_false]
  apply Array.ext
  · simp
  · intro i h1 h2
    simp only [Array.size_modify, Array.size_push] at h1
    rw [Array.getElem_modify]
    by_cases e : w.heap.size = i
    · subst e
      simp
    · rw [if_neg e]
      have : i < w.heap.size := by omega
      simp [Array.getElem_push, this]

def byteElem (P : Program) (e : TypeId) : Bool := match P.underlying e with | some (.int .u8) => true | _ => false
theorem byteElem_ok {e : TypeId} (h : byteElem P e = true) : P.underlying e = some (.int .u8) := by
  unfold byteElem at h; split at h <;> first | assumption | cases h

def convA (P : Program) (h : AH) (src dst : TypeId) (x : AV) : Option ORes :=
  match x with
  | .int _ n => match P.underlying src, P.underlying dst with
    | some _, some (.int k) => some (.val (.int k (wrapA k n)))
    | _, _ => none
  | .str len n => match P.underlying src, P.underlying dst with
    | some .string, some .string => some (.val (.str len n))
    | some .string, some (.slice e) => bif byteElem P e then some (.alloc (.cells (bytesA len n)) (.slice len none 1)) else none
    | _, _ => none
  | .nils => match P.underlying src, P.underlying dst with
    | some (.slice e), some .string => bif byteElem P e then some (.val (.str 0 0)) else none
    | _, _ => none
  | .slice b o len _ _ => match P.underlying src, P.underlying dst, cellsAt h b with
    | some (.slice e), some .string, some cs => bif byteElem P e && Nat.ble (o + len) cs.length then (match packA ((cs.drop o).take len) with
      | some m => some (.val (.str len m))
      | none => none) else none
    | _, _, _ => none
  | .slice0 b _ => match P.underlying src, P.underlying dst with
    | some (.slice e), some .string => bif byteElem P e then some (.val (.str 0 0)) else none
    | _, _ => none
  | _ => none
theorem convA_ok {E : Env} {h : AH} {w : World} {src dst : TypeId} {x : AV} {u : Value} {r : ORes} (hr : HRel E h w) (hx : VRel E x u) (e : convA P h src dst x = some r) :
    ResOK E h w ((do pure (Next.value (← convert src dst u)) : Sem Next).run P w) r := by
  unfold convA at e
  split at e
  · rename_i k0 n
    simp only [VRel] at hx; subst hx
    split at e
    · rename_i d0 k hs hd
      simp at e; subst e
      refine ⟨.int k (k.wrap n), w, .inl (run_value ?_), by simp only [VRel, wrapA_eq], .refl w⟩
      simp [convert, run_underlying hs, run_underlying hd, Conv.intToInt]
    · cases e
  · rename_i len n
    simp only [VRel] at hx; subst hx
    split at e
    · rename_i hs hd
      simp at e; subst e
      refine ⟨.string (unpack len n), w, .inl (run_value ?_), by simp only [VRel], .refl w⟩
      simp [convert, run_underlying hs, run_underlying hd]
    · rename_i el hs hd
      cases hb : byteElem P el <;> simp [hb] at e
      subst e
      have he := byteElem_ok hb
      generalize hc : (Question.appendCap len 0 el).cut (w.tape w.drawn (.appendCap len 0 el)) = c
      have hlc : len ≤ c := by rw [← hc]; simp [Question.cut]
      let C : Array Value := ((unpack len n).data.map fun b => Value.int .u8 b.toNat) ++ Array.replicate (c - len) (.int .u8 0)
      have hC : C.size = c := by
        have : (unpack len n).data.size = len := unpack_size len n
        simp [C, this]; omega
      have hz : (unpack len n).size = len := unpack_size len n
      let w1 : World := { w with drawn := w.drawn + 1 }
      refine ⟨.slice (some ⟨w.heap.size, 0, none⟩) len c, ({ w1 with heap := w1.heap.push (.cells C el) } : World).freeze ⟨w1.heap.size, C.size, none⟩ 1, .cells C el (C.size, C.size + 1), C.size, .inl (run_value ?_), ⟨freeze_last w1 C el, ?_, ?_, ?_⟩, ?_, fun E' p hp => ?_⟩
      · simp only [convert, run_underlying hs, run_underlying hd, run_underlying he, Sem.run_bind, Result.andThen_ok, Conv.stringToBytes, run_choose, Question.forced, Bool.false_eq_true, if_false, hz, hc]
        have : (newRow el (((unpack len n).data.map fun b => Value.int .u8 b.toNat) ++ Array.replicate (c - len) (.int .u8 0))).run P w1 = .ok ⟨w1.heap.size, 0, none⟩ { w1 with heap := w1.heap.push (.cells C el) } := run_newRow w1 el C
        rw [this]
        simp only [Result.andThen_ok, markStringish, Sem.run_bind, run_shape, World.shape?]
        simp [w1]
      · simp [World.freeze, w1]
      · simp [World.freeze, w1]
      · simp [World.freeze, w1]
      · refine ⟨C, el, C.size, C.size + 1, rfl, rfl, ?_, fun i v hi => ?_, fun j hj h => by omega⟩
        · rw [bytesA_length]; omega
        · have hi' := hi
          have hlt : i < len := by
            have := (List.getElem?_eq_some_iff.1 hi).1
            rwa [bytesA_length] at this
          obtain ⟨u, hu, hv⟩ := (bytesA_rel E len n).get hi
          refine ⟨allCells_mem (bytesA_cells len n) v (List.mem_of_getElem? hi'), u, ?_, hv⟩
          have hsz : i < ((unpack len n).data.map fun b => Value.int .u8 b.toNat).size := by
            have : (unpack len n).data.size = len := unpack_size len n
            simp [this, hlt]
          rw [Nat.zero_add, Array.getElem?_append_left hsz]
          rw [← hu]
          simp [unpack]
      · simp only [AK.av, VRel]
        exact ⟨_, _, _, c, hp, by simp, hlc, by simp [hC], by simp⟩
    · cases e
  · simp only [VRel] at hx; subst hx
    split at e
    · rename_i el hs hd
      cases hb : byteElem P el <;> simp [hb] at e
      subst e
      have he := byteElem_ok hb
      refine ⟨.string (unpack 0 0), w, .inl (run_value ?_), by simp only [VRel], .refl w⟩
      rw [run_convert_bytes_string w src dst el none 0 0 hs he hd]
      simp [Conv.bytesToString]
      rfl
    · cases e
  · rename_i b o len cap sz
    simp only [VRel] at hx
    obtain ⟨B, sh, N, c, hb, rfl, _⟩ := hx
    split at e
    · rename_i el cs hs hd hcs
      cases hc : byteElem P el && Nat.ble (o + len) cs.length
      · simp [hc] at e
      · simp only [hc, cond_true] at e
        simp only [Bool.and_eq_true] at hc
        have he := byteElem_ok hc.1
        have hle := Nat.le_of_ble_eq_true hc.2
        split at e
        · rename_i m hm
          simp at e; subst e
          obtain ⟨B', sh', N', g1, us, g2, g3, g4⟩ := hr.loads (cellsAt_ok hcs) hle
          rw [hb] at g1
          obtain ⟨rfl, rfl, rfl⟩ : B = B' ∧ sh = sh' ∧ N = N' := by simpa using g1
          obtain ⟨ns, rfl, hl, hp⟩ := packA_ok hm g3
          have hlen : ((cs.drop o).take len).length = len := by simp; omega
          refine ⟨.string (ns.foldl (fun r n => r.push (UInt8.ofNat n.toNat)) ByteArray.empty), w, .inl (run_value ?_), ?_, .refl w⟩
          · rw [run_convert_bytes_string w src dst el _ _ _ hs he hd]
            exact run_bytesToString w _ len c ns (g4 P)
          · simp only [VRel]
            congr 1
            apply ByteArray.ext
            apply Array.ext'
            rw [push_fold, hp, hlen]
            rfl
        · cases e
    · cases e
  · rename_i b sz
    simp only [VRel] at hx
    obtain ⟨B, sh, N, o, c, hb, rfl, _⟩ := hx
    split at e
    · rename_i el hs hd
      cases hb : byteElem P el <;> simp [hb] at e
      subst e
      have he := byteElem_ok hb
      refine ⟨.string (unpack 0 0), w, .inl (run_value ?_), by simp only [VRel], .refl w⟩
      rw [run_convert_bytes_string w src dst el _ 0 c hs he hd]
      rw [run_bytesToString w _ 0 c [] (by simp [loadCells, loadCellsFrom])]
      rfl
    · cases e
  · cases e

/-! interfaces, functions, tuples -/
def ifaceOf (P : Program) (t : TypeId) : Bool := match P.underlying t with | some (.interface _) => true | some _ => false | none => true
def mkIfaceA (P : Program) (t : TypeId) (x : AV) : Option ORes := bif ifaceOf P t then none else some (.val (.iface t x))
theorem mkIfaceA_ok {E : Env} {h : AH} {w : World} {t : TypeId} {x : AV} {u : Value} {r : ORes} (hx : VRel E x u) (e : mkIfaceA P t x = some r) :
    ResOK E h w ((do pure (Next.value (← Instr.makeInterface t u)) : Sem Next).run P w) r := by
  unfold mkIfaceA at e
  cases hi : ifaceOf P t <;> simp [hi] at e
  subst e
  unfold ifaceOf at hi
  cases hu : P.underlying t with
  | none => simp [hu] at hi
  | some d =>
    refine ⟨.iface t u, w, .inl (run_value ?_), by simp only [VRel]; exact ⟨u, rfl, hx⟩, .refl w⟩
    cases d <;> simp [hu] at hi <;> simp [Instr.makeInterface, Sem.run_bind, run_underlying hu]

def extractA (x : AV) (i : Nat) : Option ORes :=
  match x with
  | .tuple vs => match vs[i]? with | some a => some (.val a) | none => none
  | _ => none
theorem extractA_ok {E : Env} {h : AH} {w : World} {i : Nat} {x : AV} {u : Value} {r : ORes} (hx : VRel E x u) (e : extractA x i = some r) :
    ResOK E h w ((do pure (Next.value (← Instr.extract u i)) : Sem Next).run P w) r := by
  unfold extractA at e
  split at e
  · rename_i vs
    simp only [VRel] at hx
    obtain ⟨us, rfl, hs⟩ := hx
    split at e
    · rename_i a ha
      simp at e; subst e
      obtain ⟨v, hv, hr⟩ := hs.get ha
      have hv' : us[i]? = some v := by simpa using hv
      exact ⟨v, w, .inl (run_value (by simp [Instr.extract, hv'])), hr, .refl w⟩
    · cases e
  · cases e

def assertA (P : Program) (x : AV) (asserted : TypeId) (commaOk : Bool) : Option ORes :=
  match x with
  | .iface t v => bif Nat.beq t asserted && !ifaceOf P asserted then some (.val (bif commaOk then .tuple [v, .bool true] else v)) else none
  | _ => none
theorem assertA_ok {E : Env} {h : AH} {w : World} {xt t : TypeId} {c : Bool} {x : AV} {u : Value} {r : ORes} (hx : VRel E x u) (e : assertA P x t c = some r) :
    ResOK E h w ((do pure (Next.value (← Instr.typeAssert u xt t c)) : Sem Next).run P w) r := by
  unfold assertA at e
  split at e
  · rename_i t' v
    simp only [VRel] at hx
    obtain ⟨y, rfl, hy⟩ := hx
    cases hc : Nat.beq t' t && !ifaceOf P t <;> simp [hc] at e
    subst e
    simp only [Bool.and_eq_true, Nat.beq_eq, Bool.not_eq_true'] at hc
    obtain ⟨rfl, hi⟩ := hc
    unfold ifaceOf at hi
    cases hu : P.underlying t' with
    | none => simp [hu] at hi
    | some d =>
      refine ⟨if c then .tuple #[y, .bool true] else y, w, .inl (run_value ?_), ?_, .refl w⟩
      · cases d <;> simp [hu] at hi <;> cases c <;> simp [Instr.typeAssert, Sem.run_bind, run_underlying hu]
      · cases c
        · exact hy
        · simp only [cond_true, VRel, if_true]
          exact ⟨_, rfl, by simp only [VRelL]; exact ⟨y, _, rfl, hy, _, _, rfl, by simp only [VRel], rfl⟩⟩
  · cases e

/-! slices of slices, texts, arrays -/
def natOf : AV → Option Nat
  | .int _ (.ofNat n) => some n
  | _ => none
theorem natOf_ok {E : Env} {a : AV} {u : Value} {n : Nat} (h : VRel E a u) (e : natOf a = some n) : ∃ k, u = .int k (n : Int) := by
  unfold natOf at e
  split at e
  · simp only [VRel] at h; simp at e; subst e; exact ⟨_, h⟩
  · cases e
/-- A bound: given, or not. -/
def bndA (T : PM AV) (d : Nat) : Option Operand → Option Nat
  | none => some d
  | some x => match evA T x with
    | some a => natOf a
    | none => none

theorem run_sliceBound {w : World} {k : IntKind} {n y : Nat} {c : BoundsCode} (h : n ≤ y) : (Instr.sliceBound (.int k (n : Int)) y c).run P w = .ok n w := by
  have h1 : (0 : Int) ≤ (n : Int) ∧ (n : Int) ≤ (y : Int) := by omega
  simp [Instr.sliceBound, Sem.run_bind, asIntOf, h1]
theorem run_sliceBounds2 {w : World} {isS : Bool} {len cap l h : Nat} {lo hi : Option Value} (hh : (hi = none ∧ h = len) ∨ (∃ k, hi = some (.int k (h : Int))) ∧ h ≤ cap)
    (hl : (lo = none ∧ l = 0) ∨ (∃ k, lo = some (.int k (l : Int))) ∧ l ≤ h) : (Instr.sliceBounds isS len cap lo hi none).run P w = .ok (l, h, cap) w := by
  rcases hh with ⟨rfl, rfl⟩ | ⟨⟨k, rfl⟩, hle⟩ <;> rcases hl with ⟨rfl, rfl⟩ | ⟨⟨k', rfl⟩, hle'⟩ <;> simp [Instr.sliceBounds, Sem.run_bind, run_sliceBound, *]
theorem run_sliceBounds3 {w : World} {isS : Bool} {len cap l h m : Nat} {lo : Option Value} {k k'' : IntKind} (hm : m ≤ cap) (hh : h ≤ m)
    (hl : (lo = none ∧ l = 0) ∨ (∃ k, lo = some (.int k (l : Int))) ∧ l ≤ h) : (Instr.sliceBounds isS len cap lo (some (.int k (h : Int))) (some (.int k'' (m : Int)))).run P w = .ok (l, h, m) w := by
  rcases hl with ⟨rfl, rfl⟩ | ⟨⟨k', rfl⟩, hle'⟩ <;> simp [Instr.sliceBounds, Sem.run_bind, run_sliceBound, *]
end
end Go.Ax
