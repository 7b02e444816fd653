/- An abstract executor, twelfth part: append, copy, len, min, max, clear. -/
import Derived.Test.YtapkhldfbdcblaaGreatDoorAxApp
set_option linter.unusedSectionVars false
set_option linter.unnecessarySimpa false
set_option linter.unusedSimpArgs false
set_option linter.unusedVariables false
namespace Go.Ax
noncomputable section
variable {P : Program}

theorem run_room {w w' : World} {ts : Array TypeId} {t xt el ty : TypeId} {i : TypeInfo} (h0 : ts[0]? = some t) (h1 : ts[1]? = some xt) (hu : P.underlying t = some (.slice el)) (hi : P.info? el = some i)
    (hx : ∃ d, P.underlying xt = some d ∧ ∀ k, d ≠ .int k) {base : Option Addr} {len cap n : Nat} {x : Value} (hn : (Builtin.lenOf x).run P w = .ok n w)
    {new : List Value} (hnew : (Builtin.firstCells i.size n x).run P w = .ok new.toArray w) (hcap : len + n ≤ cap)
    (hst : match base with | some a => (storeCells (a.add (len * i.size)) new).run P w = .ok () w' | none => w' = w) :
    (Builtin.append_ ts ty #[.slice base len cap, x]).run P w = .ok (.slice base (len + n) cap) w' := by
  obtain ⟨d, hd, hd'⟩ := hx
  have hsz : P.cellsOf el = i.size := by simp [Program.cellsOf, hi]
  simp only [Builtin.append_, h0, h1, List.getElem?_toArray, List.getElem?_cons_zero, List.getElem?_cons_succ, Sem.run_bind, run_underlying hu, Result.andThen_ok, run_sizeOf w hi, hsz, run_underlying hd, Sem.run_pure]
  simp only [Bool.false_eq_true, if_false, hn, Result.andThen_ok, hcap, if_true, Sem.run_bind, Bool.not_false, hnew]
  cases base with
  | none => simp only at hst; subst hst; simp
  | some a => simp only at hst; simp [hst]

def notIntT (P : Program) (t : TypeId) : Bool := match P.underlying t with | some (.int _) => false | some _ => true | none => false
theorem notIntT_ok {t : TypeId} (h : notIntT P t = true) : ∃ d, P.underlying t = some d ∧ ∀ k, d ≠ .int k := by
  unfold notIntT at h
  cases hd : P.underlying t with
  | none => simp [hd] at h
  | some d => exact ⟨d, rfl, fun k e => by subst e; simp [hd] at h⟩

def zeroLen (P : Program) (el : TypeId) (sz : Nat) : Bool :=
  match zeroA P el with
  | some z => match z.cellsOf with
    | some zs => Nat.beq zs.length sz
    | none => false
  | none => false
theorem zeroLen_ok {el : TypeId} {i : TypeInfo} {sz : Nat} (hi : P.info? el = some i) (h : zeroLen P el sz = true) (E : Env) : ∃ zv, i.zero = some zv ∧ zv.cells.size = sz := by
  unfold zeroLen at h
  split at h
  · rename_i z hz
    split at h
    · rename_i zs hzs
      obtain ⟨i', zv, hi', hz', hrel⟩ := zeroA_ok hz
      rw [hi] at hi'
      obtain rfl : i = i' := by simpa using hi'
      have := ((hrel E).cells hzs).length
      refine ⟨zv, hz', ?_⟩
      have h2 : zs.length = sz := by simpa using h
      simp at this; omega
    · cases h
  · cases h

def appendA (P : Program) (h : AH) (t xt : TypeId) (s x : AV) : Option ORes :=
  match P.underlying t with
  | some (.slice el) => match P.info? el with
    | some i => match addedA P h el i.size x with
      | some (n, new) => bif notIntT P xt && Nat.ble i.bytes 4096 && zeroLen P el i.size then (match s with
        | .nils => bif Nat.beq n 0 then some (.val .nils) else bif Nat.ble n 1048576 then some (.alloc (.cells new) (.slice n none i.size)) else none
        | .slice b o len cap sz => match cellsAt h b with
          | some cs => bif ((Nat.beq sz i.size && Nat.ble (o + len * sz) cs.length) && Nat.ble (len + n) 1048576) then
              (match cap with
              | some c => bif Nat.ble (len + n) c then (bif Nat.ble (o + len * sz + new.length) cs.length then some (.stores b (o + len * sz) new (.slice b o (len + n) (some c) sz)) else none)
                else some (.alloc (.cells ((cs.drop o).take (len * sz) ++ new)) (.slice (len + n) none sz))
              | none => bif Nat.beq n 0 then some (.val (.slice b o len none sz)) else some (.renew b ((cs.drop o).take (len * sz) ++ new) (.slice (len + n) none sz))) else none
          | none => none
        | .slice0 b sz => match cellsAt h b with
          | some cs => bif (Nat.beq sz i.size && Nat.ble n 1048576) then (bif Nat.beq n 0 then some (.val (.slice0 b sz)) else some (.renew b new (.slice n none sz))) else none
          | none => none
        | _ => none) else none
      | none => none
    | none => none
  | _ => none

theorem VRelL.cellsList {E : Env} {as : List AV} {us : List Value} (h : VRelL E as us) (C : Array Value) (off : Nat) (hC : ∀ j, j < us.length → C[off + j]? = us[j]?) (hc : allCells as = true) :
    ∀ (i : Nat) (v : AV), as[i]? = some v → v.cell = true ∧ ∃ u, C[off + i]? = some u ∧ VRel E v u := by
  intro i v hi
  obtain ⟨u, hu, hr⟩ := h.get hi
  have hlt : i < us.length := (List.getElem?_eq_some_iff.1 hu).1
  exact ⟨allCells_mem hc v (List.mem_of_getElem? hi), u, by rw [hC i hlt]; exact hu, hr⟩
theorem allCells_append {a b : List AV} (ha : allCells a = true) (hb : allCells b = true) : allCells (a ++ b) = true :=
  allCells_of fun x hx => by
    rcases List.mem_append.1 hx with h | h
    · exact allCells_mem ha x h
    · exact allCells_mem hb x h

/-- A new row that holds these cells first. -/
theorem ORel.grown {E : Env} {cs : List AV} {us : List Value} {C : Array Value} {el : TypeId} (h : VRelL E cs us) (hc : allCells cs = true) (hC : ∀ j, j < us.length → C[j]? = us[j]?) (hl : us.length ≤ C.size) :
    ORel E (.cells cs) 0 C.size (some (.cells C el)) := by
  refine ⟨C, el, 0, 0, rfl, rfl, by have := h.length; omega, fun i v hi => ?_, fun j _ h => by omega⟩
  have := h.cellsList C 0 (fun j hj => by rw [Nat.zero_add]; exact hC j hj) hc i v hi
  exact this

theorem grownRow {old new : List Value} {z : Array Value} {m j : Nat} (hj : j < (old ++ new).length) : (old.toArray ++ new.toArray ++ Builtin.zeroCells z m)[j]? = (old ++ new)[j]? := by
  rw [Array.getElem?_append_left (by simpa using hj)]
  simp

theorem appendA_ok {E : Env} {h : AH} {w : World} {ts : Array TypeId} {t xt ty : TypeId} {s x : AV} {u v : Value} {r : ORes} (hr : HRel E h w) (hs : VRel E s u) (hx : VRel E x v) (e : appendA P h t xt s x = some r)
    (h0 : ts[0]? = some t) (h1 : ts[1]? = some xt) : ResOK E h w ((do pure (Next.value (← Builtin.append_ ts ty #[u, v])) : Sem Next).run P w) r := by
  unfold appendA at e
  split at e
  · rename_i el hu
    split at e
    · rename_i i hi
      split at e
      · rename_i n new hadd
        cases hg : notIntT P xt && Nat.ble i.bytes 4096 && zeroLen P el i.size
        · simp [hg] at e
        · simp only [hg, cond_true] at e
          simp only [Bool.and_eq_true] at hg
          obtain ⟨⟨g1, g2⟩, g3⟩ := hg
          have hxt := notIntT_ok g1
          have hby := Nat.le_of_ble_eq_true g2
          obtain ⟨zv, hz, hzs⟩ := zeroLen_ok hi g3 E
          obtain ⟨a1, a2, a3, us, a4, a5⟩ := addedA_ok (P := P) hr hx hadd
          have hrd : HRel E h { w with drawn := w.drawn + 1 } := hr.congr rfl
          obtain ⟨_, _, _, us', a4', a5'⟩ := addedA_ok (P := P) hrd hx hadd
          have husl := a4.length
          have husl' := a4'.length
          split at e
          · -- nil
            simp only [VRel] at hs; subst hs
            cases hn0 : Nat.beq n 0
            · simp only [hn0, cond_false] at e
              cases hnb : Nat.ble n 1048576 <;> simp [hnb] at e
              subst e
              have hn1 : n ≠ 0 := fun h => by rw [h] at hn0; simp [Nat.beq] at hn0
              obtain ⟨c, c1, c2⟩ := run_grow (ty := ty) (base := none) (cap := 0) (len := 0) h0 h1 hu hi hz hxt a3 (old := []) (by simp [Builtin.firstCells]) a5' (by omega) (by have := Nat.le_of_ble_eq_true hnb; omega) hby
              rw [Nat.zero_add] at c1 c2
              have hsize : (([] : List Value).toArray ++ us'.toArray ++ Builtin.zeroCells zv.cells (c - n)).size = c * i.size := by
                simp [Builtin.zeroCells, hzs, husl', a1]
                rw [← Nat.add_mul]; congr 1; omega
              refine ⟨_, _, .cells (([] : List Value).toArray ++ us'.toArray ++ Builtin.zeroCells zv.cells (c - n)) el, c * i.size, .inl (run_value c2), ⟨rfl, rfl, rfl, rfl⟩, ?_, fun E' p hp => ?_⟩
              · rw [← hsize]
                exact ORel.grown a4' a2 (fun j hj => by have := grownRow (old := []) (new := us') (z := zv.cells) (m := c - n) (j := j) (by simpa using hj); simpa using this) (by rw [hsize, husl', a1]; exact Nat.mul_le_mul_right _ c1)
              · simp only [AK.av, VRel]
                exact ⟨_, _, _, c, hp, by simp, c1, by simp, by simp⟩
            · simp only [hn0, cond_true] at e
              simp at e; subst e
              have hn1 : n = 0 := by simpa using hn0
              subst hn1
              refine ⟨_, w, .inl (run_value (run_room (w' := w) (base := none) (len := 0) (cap := 0) h0 h1 hu hi hxt a3 a5 (by omega) rfl)), by simp [VRel], .refl w⟩
          · rename_i b o len cap sz
            simp only [VRel] at hs
            obtain ⟨B, sh, N, c, hb, rfl, q1, q2, q3⟩ := hs
            split at e
            · rename_i cs hcs
              cases hg2 : ((Nat.beq sz i.size && Nat.ble (o + len * sz) cs.length) && Nat.ble (len + n) 1048576)
              · simp [hg2] at e
              · simp only [hg2, cond_true] at e
                simp only [Bool.and_eq_true, Nat.beq_eq] at hg2
                obtain ⟨⟨rfl, p1⟩, p2⟩ := hg2
                have p1 := Nat.le_of_ble_eq_true p1
                have p2 := Nat.le_of_ble_eq_true p2
                obtain ⟨B', sh', N', r1, os, r2, r3, r4⟩ := hrd.loads (cellsAt_ok hcs) p1
                rw [hb] at r1
                obtain ⟨rfl, rfl, rfl⟩ : B = B' ∧ sh = sh' ∧ N = N' := by simpa using r1
                have hold : (Builtin.firstCells i.size len (.slice (some ⟨B, sh + o, none⟩) len c)).run P { w with drawn := w.drawn + 1 } = .ok os.toArray { w with drawn := w.drawn + 1 } := r4 P
                obtain ⟨_, _, _, s1, C, el', lo, hi', s2, s3, s4, s5, s6⟩ := hr.obj b _ (cellsAt_ok hcs)
                rw [hb] at s1
                obtain ⟨rfl, rfl, rfl⟩ := by simpa using s1
                have hoc : allCells ((cs.drop o).take (len * i.size)) = true := allCells_of fun a ha => by
                  have ha' : a ∈ cs := List.mem_of_mem_drop (List.mem_of_mem_take ha)
                  obtain ⟨j, hj⟩ := List.getElem?_of_mem ha'
                  exact (s5 j a hj).1
                have hall := allCells_append hoc a2
                have hrel := VRelL.append r3 a4'
                have hol : os.length = len * i.size := r2
                -- a new row
                have grow : ¬ len + n ≤ c → ∃ c' w', (Builtin.append_ ts ty #[.slice (some ⟨B, sh + o, none⟩) len c, v]).run P w = .ok (.slice (some ⟨w.heap.size, 0, none⟩) (len + n) c') w' ∧ len + n ≤ c' ∧
                    ∃ O, Kept { w with heap := w.heap.push O } w' ∧ ORel E (.cells ((cs.drop o).take (len * i.size) ++ new)) 0 (c' * i.size) (some O) := by
                  intro hc
                  obtain ⟨c', c1, c2⟩ := run_grow (ty := ty) h0 h1 hu hi hz hxt a3 hold a5' hc p2 hby
                  refine ⟨c', _, c2, c1, _, ⟨rfl, rfl, rfl, rfl⟩, ?_⟩
                  have hsize : (os.toArray ++ us'.toArray ++ Builtin.zeroCells zv.cells (c' - (len + n))).size = c' * i.size := by
                    simp [Builtin.zeroCells, hzs, husl', a1, hol]
                    rw [← Nat.add_mul, ← Nat.add_mul]; congr 1; omega
                  rw [← hsize]
                  refine ORel.grown hrel hall (fun j hj => grownRow hj) ?_
                  rw [hsize, List.length_append, hol, husl', a1, ← Nat.add_mul]
                  exact Nat.mul_le_mul_right _ c1
                split at e
                · rename_i c'
                  have hcc := q3 c' rfl
                  subst hcc
                  cases hroom : Nat.ble (len + n) c
                  · simp only [hroom, cond_false] at e
                    simp at e; subst e
                    have hno : ¬ len + n ≤ c := fun h => by rw [Nat.ble_eq_true_of_le h] at hroom; cases hroom
                    obtain ⟨c', w', k1, k2, O, k3, k4⟩ := grow hno
                    refine ⟨_, w', O, c' * i.size, .inl (run_value k1), k3, k4, fun E' p hp => ?_⟩
                    simp only [AK.av, VRel]
                    exact ⟨_, _, _, c', hp, by simp, k2, by simp, by simp⟩
                  · simp only [hroom, cond_true] at e
                    cases hfit : Nat.ble (o + len * i.size + new.length) cs.length <;> simp [hfit] at e
                    subst e
                    have hfit := Nat.le_of_ble_eq_true hfit
                    have hroom := Nat.le_of_ble_eq_true hroom
                    obtain ⟨w', k1, k2, k3⟩ := HRel.storesL P new us (o + len * i.size) 0 h w cs hr hb (cellsAt_ok hcs) (by omega) a4 (allCells_mem a2)
                    rw [Nat.add_zero] at k2 k3
                    have happ : (ORes.stores b (o + len * i.size) new (.slice b o (len + n) (some c) i.size)).app h = (.slice b o (len + n) (some c) i.size, h.set b (.cells (splice (o + len * i.size) new cs))) := by
                      simp [ORes.app, cellsAt_ok hcs]
                    refine ⟨_, w', E, .inl (run_value (run_room (w' := w') h0 h1 hu hi hxt a3 a5 hroom ?_)), ?_, ?_, ?_⟩
                    · simp only [addr_add]
                      rw [show sh + o + len * i.size = sh + (o + len * i.size) by omega]
                      exact k1
                    · rw [happ]; simp only [VRel]; exact ⟨B, sh, N, c, hb, rfl, hroom, q2, by simp⟩
                    · rw [happ]; exact k2
                    · rw [happ]; exact k3
                · cases hn0 : Nat.beq n 0
                  · simp only [hn0, cond_false] at e
                    simp at e; subst e
                    have hlive : h.live b := by unfold AH.live; rw [cellsAt_ok hcs]; rfl
                    by_cases hroom : len + n ≤ c
                    · -- in place
                      have hmul : (len + n) * i.size ≤ c * i.size := Nat.mul_le_mul_right _ hroom
                      rw [Nat.add_mul] at hmul
                      obtain ⟨w', C', k1, k2, k3, k4, k5, k6, k7, k8, k9⟩ := run_storeRow P us (sh + o + len * i.size) 0 w C s2 (by omega) (by rw [s3]; exact s6) (a4.oneCells a2)
                      have ho : ORel E (.cells ((cs.drop o).take (len * i.size) ++ new)) (sh + o) N w'.heap[B]? := by
                        rw [k2]
                        refine ⟨C', el', lo, hi', rfl, by omega, ?_, ?_, s6⟩
                        · simp; omega
                        · have hos : VRelL E ((cs.drop o).take (len * i.size)) ((C.toList.drop (sh + o)).take (len * i.size)) := by
                            refine VRelL.of_get (by simp; omega) fun j a ha => ?_
                            rw [List.getElem?_take] at ha
                            by_cases hj : j < len * i.size
                            · simp only [hj, if_true, List.getElem?_drop] at ha
                              obtain ⟨_, u, hu, hv⟩ := s5 (o + j) a ha
                              refine ⟨u, ?_, hv⟩
                              rw [List.getElem?_take]
                              simp only [hj, if_true, List.getElem?_drop]
                              rw [← hu, ← Array.getElem?_toList]
                              congr 1
                              omega
                            · simp [hj] at ha
                          refine (VRelL.append hos a4).cellsList C' (sh + o) (fun j hj => ?_) hall
                          rw [k4]
                          have hlen1 : ((C.toList.drop (sh + o)).take (len * i.size)).length = len * i.size := by simp; omega
                          rw [List.length_append, hlen1] at hj
                          by_cases hj2 : j < len * i.size
                          · rw [if_neg (by omega), List.getElem?_append_left (by rw [hlen1]; exact hj2), List.getElem?_take]
                            simp [hj2]
                          · rw [if_pos (by omega), List.getElem?_append_right (by rw [hlen1]; omega), hlen1]
                            congr 1; omega
                      obtain ⟨z1, z2⟩ := hr.renew (sh' := sh + o) hlive hb (w' := w') k5 k6 k7 k8 k9 ho
                      refine ⟨.slice (some ⟨B, sh + o, none⟩) (len + n) c, w', _, .inl (run_value (run_room (w' := w') h0 h1 hu hi hxt a3 a5 hroom ?_)), ?_, z1, z2⟩
                      · simp only [addr_add]; exact k1
                      · simp only [ORes.app, AK.av, VRel]
                        exact ⟨B, sh + o, N, c, by simp [Env.set], by simp, hroom, by omega, by simp⟩
                    · obtain ⟨c', w', k1, k2, O, k3, k4⟩ := grow hroom
                      obtain ⟨d1, d2⟩ := hr.drop b
                      obtain ⟨z1, z2⟩ := d1.push k4
                      refine ⟨_, w', _, .inl (run_value k1), ?_, z1.congr k3.heap, d2.trans (z2.congr k3.heap k3.os k3.tape k3.output)⟩
                      simp only [ORes.app, AK.av, VRel]
                      exact ⟨w.heap.size, 0, c' * i.size, c', by simp [Env.set, AH.drop], by simp, k2, by simp, by simp⟩
                  · simp only [hn0, cond_true] at e
                    simp at e; subst e
                    have hn1 : n = 0 := by simpa using hn0
                    subst hn1
                    have : us = [] := by
                      have : us.length = 0 := by rw [husl, a1]; simp
                      simpa using this
                    subst this
                    refine ⟨_, w, .inl (run_value (run_room (w' := w) h0 h1 hu hi hxt a3 a5 (by omega) (by simp [storeCells]))), ?_, .refl w⟩
                    simp only [VRel, Nat.add_zero]
                    exact ⟨B, sh, N, c, hb, rfl, q1, q2, by simp⟩
            · cases e
          · rename_i b sz
            simp only [VRel] at hs
            obtain ⟨B, sh, N, o, c, hb, rfl, q2⟩ := hs
            split at e
            · rename_i cs hcs
              cases hg2 : (Nat.beq sz i.size && Nat.ble n 1048576)
              · simp [hg2] at e
              · simp only [hg2, cond_true] at e
                simp only [Bool.and_eq_true, Nat.beq_eq] at hg2
                obtain ⟨rfl, p2⟩ := hg2
                have p2 := Nat.le_of_ble_eq_true p2
                obtain ⟨_, _, _, s1, C, el', lo, hi', s2, s3, s4, s5, s6⟩ := hr.obj b _ (cellsAt_ok hcs)
                rw [hb] at s1
                obtain ⟨rfl, rfl, rfl⟩ := by simpa using s1
                have hlive : h.live b := by unfold AH.live; rw [cellsAt_ok hcs]; rfl
                cases hn0 : Nat.beq n 0
                · simp only [hn0, cond_false] at e
                  simp at e; subst e
                  by_cases hroom : n ≤ c
                  · have hmul : n * i.size ≤ c * i.size := Nat.mul_le_mul_right _ hroom
                    obtain ⟨w', C', k1, k2, k3, k4, k5, k6, k7, k8, k9⟩ := run_storeRow P us o 0 w C s2 (by omega) (by rw [s3]; exact s6) (a4.oneCells a2)
                    have ho : ORel E (.cells new) o N w'.heap[B]? := by
                      rw [k2]
                      refine ⟨C', el', lo, hi', rfl, by omega, by omega, ?_, s6⟩
                      refine a4.cellsList C' o (fun j hj => ?_) a2
                      rw [k4, if_pos (by omega)]
                      congr 1; omega
                    obtain ⟨z1, z2⟩ := hr.renew (sh' := o) hlive hb (w' := w') k5 k6 k7 k8 k9 ho
                    refine ⟨.slice (some ⟨B, o, none⟩) (0 + n) c, w', _, .inl (run_value (run_room (w' := w') h0 h1 hu hi hxt a3 a5 (by omega) ?_)), ?_, z1, z2⟩
                    · simp only [addr_add, Nat.zero_mul, Nat.add_zero]; exact k1
                    · simp only [ORes.app, AK.av, VRel, Nat.zero_add]
                      exact ⟨B, o, N, c, by simp [Env.set], by simp, hroom, by omega, by simp⟩
                  · obtain ⟨c', c1, c2⟩ := run_grow (ty := ty) (base := some ⟨B, o, none⟩) (len := 0) (cap := c) h0 h1 hu hi hz hxt a3 (old := []) (by simp [Builtin.firstCells, loadCells, loadCellsFrom]) a5' (by omega) (by omega) hby
                    rw [Nat.zero_add] at c1 c2
                    have hsize : (([] : List Value).toArray ++ us'.toArray ++ Builtin.zeroCells zv.cells (c' - n)).size = c' * i.size := by
                      simp [Builtin.zeroCells, hzs, husl', a1]
                      rw [← Nat.add_mul]; congr 1; omega
                    have ho : ORel E (.cells new) 0 (c' * i.size) (some (.cells (([] : List Value).toArray ++ us'.toArray ++ Builtin.zeroCells zv.cells (c' - n)) el)) := by
                      rw [← hsize]
                      exact ORel.grown a4' a2 (fun j hj => by have := grownRow (old := []) (new := us') (z := zv.cells) (m := c' - n) (j := j) (by simpa using hj); simpa using this) (by rw [hsize, husl', a1]; exact Nat.mul_le_mul_right _ c1)
                    obtain ⟨d1, d2⟩ := hr.drop b
                    obtain ⟨z1, z2⟩ := d1.push ho
                    refine ⟨_, _, _, .inl (run_value c2), ?_, z1.congr rfl, d2.trans (z2.congr rfl rfl rfl rfl)⟩
                    simp only [ORes.app, AK.av, VRel]
                    exact ⟨w.heap.size, 0, c' * i.size, c', by simp [Env.set, AH.drop], by simp, c1, by simp, by simp⟩
                · simp only [hn0, cond_true] at e
                  simp at e; subst e
                  have hn1 : n = 0 := by simpa using hn0
                  subst hn1
                  have : us = [] := by
                    have : us.length = 0 := by rw [husl, a1]; simp
                    simpa using this
                  subst this
                  refine ⟨_, w, .inl (run_value (run_room (w' := w) h0 h1 hu hi hxt a3 a5 (by omega) (by simp [storeCells]))), ?_, .refl w⟩
                  simp only [VRel, Nat.add_zero]
                  exact ⟨B, sh, N, o, c, hb, rfl, q2⟩
            · cases e
          · cases e
      · cases e
    · cases e
  · cases e
end
end Go.Ax
