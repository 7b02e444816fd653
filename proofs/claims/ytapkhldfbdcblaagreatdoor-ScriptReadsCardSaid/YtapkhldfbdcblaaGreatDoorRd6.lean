/- Steps as bytes. -/
import Derived.Test.YtapkhldfbdcblaaGreatDoorRdA
import Derived.Deep.RegionHeld3
import Derived.Deep.DrawnRows
import Derived.Deep.Cut
import Derived.Deep.CutRange
set_option linter.unusedSimpArgs false
set_option linter.unusedSectionVars false
set_option linter.unnecessarySimpa false
namespace Go.Proofs.YtapkhldfbdcblaaGreatDoor
open Go Go.RowKit Go.Proofs
set_option maxRecDepth 100000
set_option linter.unusedVariables false
set_option maxHeartbeats 4000000
attribute [local go_sem ↓] Go.wp_at_zero Go.wp_at_succ

/-- A step's six cells. -/
def stepCells (s : Scr.Step) (t : ByteArray) (F : Option Addr) (c : Nat) : Array Value := #[.int .i64 s.kind, .int .i64 s.who, .int .i64 s.n, .int .i64 s.m, .string t, .slice F s.fates.length c]
/-- A step lies in six cells from here on; what it points to lies below. -/
def StepAt (B : Nat) (w : World) (g o : Nat) (s : Scr.Step) : Prop := ∃ t F c, t.data.toList = s.text ∧ Fates w F s.fates ∧ (∀ a, F = some a → a.block < B) ∧ ∀ j, j < 6 → w.cell? ⟨g, o + j, none⟩ = (stepCells s t F c)[j]?
def Steps (B : Nat) (w : World) (A : Option Addr) (L : List Scr.Step) : Prop := 0 < L.length → ∃ g, g < B ∧ A = some ⟨g, 0, none⟩ ∧ ∀ i s, L[i]? = some s → StepAt B w g (i * 6) s

theorem fates_keep {w w' : World} {F : Option Addr} {l : List Nat} (h : Fates w F l) (hk : ∀ a : Addr, (∃ b, F = some b ∧ b.block = a.block) → w'.cell? a = w.cell? a) : Fates w' F l := fun hl => by
  obtain ⟨g, e, hc⟩ := h hl
  exact ⟨g, e, fun j hj => (hk ⟨g, j, none⟩ ⟨_, e, rfl⟩).trans (hc j hj)⟩
def ws (L : List Scr.Step) : List UInt8 := L.flatMap Scr.wstep
theorem wstep_len (s : Scr.Step) (h : s.right) : (Scr.wstep s).length ≤ 1200 := by
  obtain ⟨h0, h1, h2, h3, h4, h5, h6, _⟩ := h
  have e : (s.fates.flatMap Scr.wnum).length = 6 * s.fates.length := wn_len s.fates
  simp only [Scr.wstep, Scr.wtext, List.length_append, e, Scr.wnum, Scr.be_length]
  omega
theorem ws_take (L : List Scr.Step) (k : Nat) (h : k < L.length) : ws (L.take (k + 1)) = ws (L.take k) ++ Scr.wstep (L[k]'h) := by
  unfold ws
  rw [List.take_succ_eq_append_getElem h, List.flatMap_append]
  simp only [List.flatMap_cons, List.flatMap_nil, List.append_nil]
theorem ws_len (L : List Scr.Step) (h : ∀ s ∈ L, s.right) (k : Nat) (hk : k ≤ L.length) : (ws (L.take k)).length ≤ 1200 * k := by
  induction k with
  | zero => simp [ws]
  | succ k ih =>
    have h1 := ih (by omega)
    have h2 := wstep_len _ (h _ (List.getElem_mem (show k < L.length by omega)))
    rw [ws_take L k (by omega), List.length_append]
    omega
def BytesPost (w : World) (L : List Scr.Step) (e : Ending) (w' : World) : Prop := ∃ S : ByteArray, e = .returned (.tuple #[.string S, .int .i64 0]) ∧ S.data.toList = Scr.write L ∧ Below w.heap.size w w'

theorem step_ws (s : Scr.Step) (t : ByteArray) (ht : t.data.toList = s.text) : wn [s.kind, s.who, s.n, s.m] ++ (wts [t] ++ (wn [s.fates.length] ++ wn s.fates)) = Scr.wstep s := by
  simp [wn, wts, Scr.wstep, ht, List.append_assoc]
theorem len1 {α : Type} (a : α) : [a].length = 1 := rfl
theorem len4 {α : Type} (a b c d : α) : [a, b, c, d].length = 4 := rfl
theorem s6 {w' : World} {D : Nat} {s : Scr.Step} {t : ByteArray} {F : Option Addr} {c : Nat} (h : Blk w' D 33 (stepCells s t F c)) :
    w'.cell? ⟨D, 0, none⟩ = some (.int .i64 s.kind) ∧ w'.cell? ⟨D, 1, none⟩ = some (.int .i64 s.who) ∧ w'.cell? ⟨D, 2, none⟩ = some (.int .i64 s.n) ∧ w'.cell? ⟨D, 3, none⟩ = some (.int .i64 s.m) ∧ w'.cell? ⟨D, 4, none⟩ = some (.string t) ∧ w'.cell? ⟨D, 5, none⟩ = some (.slice F s.fates.length c) :=
  ⟨h.cell 0, h.cell 1, h.cell 2, h.cell 3, h.cell 4, h.cell 5⟩
theorem fold_push (l : List UInt8) : ∀ s : ByteArray, (l.map fun c => (c.toNat : Int)).foldl (fun r n => r.push (UInt8.ofNat n.toNat)) s = ⟨s.data ++ l.toArray⟩ := by
  induction l with
  | nil => intro s; simp
  | cons a l ih =>
    intro s
    simp only [List.map_cons, List.foldl_cons, Int.toNat_natCast]
    rw [ih]
    have : UInt8.ofNat a.toNat = a := by simp
    rw [this]
    simp [ByteArray.push]
theorem run_conv (w : World) (v : Value) (base : Nat) (xs : List UInt8) (h : w.ownsRow base 5 1 v xs.length (bv xs)) : (convert 70 9 v).run Tryz.prog w = .ok (.string ⟨xs.toArray⟩) w := by
  rcases h.2 with ⟨rfl, h0⟩ | ⟨g, cap, cur, rfl, _⟩
  · have : xs = [] := List.eq_nil_of_length_eq_zero h0
    subst this
    rw [run_convert_bytes_string w 70 9 5 none 0 0 Tryz.underlying70 Tryz.underlying5 Tryz.underlying9]
    rfl
  · rw [run_convert_bytes_string w 70 9 5 _ _ _ Tryz.underlying70 Tryz.underlying5 Tryz.underlying9]
    have hl := run_loadCells_list (P := Tryz.prog) (w := w) ⟨g, 0, none⟩ (bv xs) (h.cells (g := g) rfl)
    rw [bv_len] at hl
    rw [run_bytesToString w ⟨g, 0, none⟩ xs.length cap (xs.map fun c => (c.toNat : Int)) (by rw [hl]; simp [bv])]
    rw [fold_push]
    show Result.ok (Value.string ⟨(#[] : Array UInt8) ++ xs.toArray⟩) w = _
    rw [Array.empty_append]
theorem bytes_any (w : World) (A : Option Addr) (L : List Scr.Step) (cap : Nat) (h : Steps w.heap.size w A L) (hr : ∀ s ∈ L, s.right) (hn : L.length ≤ 500) : Calls Tryz.prog 8 #[.slice A L.length cap] w (BytesPost w L) := by
  obtain ⟨N, hN⟩ : ∃ N, N = L.length := ⟨_, rfl⟩
  obtain ⟨B, hB⟩ : ∃ B, B = w.heap.size := ⟨_, rfl⟩
  have hown0 : w.ownsRow B 5 1 (.slice none 0 0) ([] : List UInt8).length (bv []) := World.ownsRow_nil _ _ _ _
  rw [← hB] at h
  rw [← hN] at hn ⊢
  have HN := Lib.hid hN
  have HB := Lib.hid hB
  have HR := Lib.hid hr
  have HS := Lib.hid h
  clear hN hr h hB
  go_enter Tryz.func8, Tryz.ntmps8
  go_wp2_with (first
    | (go_at_call 31
       refine (num_gr _ B (.slice none 0 0) [] w.heap.size [N] 1 (hown0.alloc _) (by rw [HB.out]; simp) (Blk.new _ _ _) (by simp; omega) (by simp)).mono ?_
       rintro e w1 ⟨v1, rfl, hg1⟩))
  have hg : Gr B w w1 v1 (Scr.wnum N ++ ws (L.take 0)) := by
    have h1 := ((Gr.refl hown0 (by rw [HB.out]; exact Nat.le_refl _)).alloc (.cells #[.int .i64 N] 3)).trans hg1
    simpa [wn, ws] using h1
  have HG := Lib.hid hg
  clear hg hg1 hown0
  go_loopw [4, 18] (fun v i wr => ∃ k : Nat, k ≤ N ∧ i = .int .i64 k ∧ Gr B w wr v (Scr.wnum N ++ ws (L.take k))) (fun _ i _ => N - (intOf i).toNat)
  case atStart => exact ⟨0, Nat.zero_le _, rfl, HG.out⟩
  case round =>
    obtain ⟨k, hk, rfl, hgr⟩ := hrel
    have HGr := Lib.hid hgr
    clear hgr HG
    by_cases hlt : k < N
    · have hkl : k < L.length := by have := HN.out; omega
      obtain ⟨g, hgB, hA, hst⟩ := HS.out (by omega)
      obtain ⟨s, hs⟩ : ∃ s, L[k]? = some s := ⟨_, List.getElem?_eq_getElem hkl⟩
      obtain ⟨t, F, c, ht, hF, hFB, hc⟩ := hst k s hs
      have hsr : s.right := HR.out s (List.mem_of_getElem? hs)
      have HX := Lib.hid hs
      subst hA
      have hw : ∀ o, wr.cell? ⟨g, o, none⟩ = w.cell? ⟨g, o, none⟩ := fun o => HGr.out.below.cell (p := ⟨g, o, none⟩) hgB
      have c0 := (hw _).trans (hc 0 (by omega))
      have c1 := (hw _).trans (hc 1 (by omega))
      have c2 := (hw _).trans (hc 2 (by omega))
      have c3 := (hw _).trans (hc 3 (by omega))
      have c4 := (hw _).trans (hc 4 (by omega))
      have c5 := (hw _).trans (hc 5 (by omega))
      simp only [stepCells, Nat.add_zero, List.getElem?_toArray, List.getElem?_cons_zero, List.getElem?_cons_succ] at c0 c1 c2 c3 c4 c5
      have hF2 : Fates wr F s.fates := fates_keep hF fun a ⟨b, e, hb⟩ => HGr.out.below.cell (p := a) (by rw [← hb]; exact hFB b e)
      have hB2 : B ≤ wr.heap.size := by rw [HB.out]; exact HGr.out.below.size
      obtain ⟨D, hD⟩ : ∃ D, D = wr.heap.size := ⟨_, rfl⟩
      have HK := Lib.hid (fun W => fun (hW : ∀ a : Addr, a.block < B → W.cell? a = wr.cell? a) => right_yes W s t F c hsr ht (fates_keep hF2 fun a ⟨b, e, hb⟩ => hW a (by rw [← hb]; exact hFB b e)))
      have HSR := Lib.hid hsr
      have HT := Lib.hid ht
      have HFw := Lib.hid hF
      clear hw hst hc hs ht hF hsr
      have HF := Lib.hid hF2
      have HFB := Lib.hid hFB
      clear hF2 hFB
      go_wp2_with (first
        | (go_at_call 29
           refine (HK.out _ (fun a ha => World.cell?_alloc_lt _ _ _ (by omega))).mono ?_
           rintro e w2 ⟨rfl, hg2⟩))
      have hD2 : Blk w2 wr.heap.size 33 (stepCells s t F c) := Blk.grown (Blk.new wr 33 (stepCells s t F c)) hg2 (by simp)
      have hgr2 : Gr B w w2 u4 (Scr.wnum N ++ ws (L.take k)) := (HGr.out.alloc _).none_ hg2
      obtain ⟨D, hD⟩ : ∃ D, D = wr.heap.size := ⟨_, rfl⟩
      obtain ⟨ys, hys⟩ : ∃ ys, ys = Scr.wnum N ++ ws (L.take k) := ⟨_, rfl⟩
      rw [← hD] at hD2 ⊢
      rw [← hys] at hgr2
      have HY := Lib.hid hys
      have HD := Lib.hid hD
      clear hD hys hg2
      have Hg2 := Lib.hid hgr2
      have hq : Gr B w2 w2 u4 ys := Gr.refl hgr2.own hgr2.le
      have HB2 := Lib.hid hD2
      clear hgr2 c0 c1 c2 c3 c4 c5
      have HL : Hid (ys.length ≤ 700000) := by
        have h1 := HY.out
        have h2 := ws_len L HR.out k (by omega)
        show ys.length ≤ 700000
        rw [h1, List.length_append]
        simp only [Scr.wnum, Scr.be_length]; omega
      have HN4 : Hid (∀ n ∈ [s.kind, s.who, s.n, s.m], n ≤ 281474976710655) := by
        obtain ⟨h0, h1, h2, h3, h4, _⟩ := HSR.out
        intro n hn
        simp only [List.mem_cons, List.not_mem_nil, or_false] at hn
        omega
      have HT4 : Hid (∀ x ∈ [t], x.size ≤ 500) := by
        obtain ⟨h0, h1, h2, h3, h4, h5, _⟩ := HSR.out
        intro x hx
        simp only [List.mem_cons, List.not_mem_nil, or_false] at hx
        subst hx
        rw [← HT.out] at h5; simpa using h5
      have HN5 : Hid (∀ n ∈ [s.fates.length], n ≤ 281474976710655) := by
        obtain ⟨h0, h1, h2, h3, h4, h5, h6, _⟩ := HSR.out
        intro n hn
        simp only [List.mem_cons, List.not_mem_nil, or_false] at hn
        omega
      have HL1 : Hid (ys.length + 6 * [s.kind, s.who, s.n, s.m].length ≤ 1000000) := by
        have := HL.out
        show ys.length + 6 * [s.kind, s.who, s.n, s.m].length ≤ 1000000
        simp only [List.length_cons, List.length_nil]; omega
      have HL2 : Hid ((ys ++ wn [s.kind, s.who, s.n, s.m]).length + 502 * [t].length ≤ 1000000) := by
        have := HL.out
        show (ys ++ wn [s.kind, s.who, s.n, s.m]).length + 502 * [t].length ≤ 1000000
        simp only [List.length_append, wn_len, List.length_cons, List.length_nil]; omega
      have HL3 : Hid ((ys ++ wn [s.kind, s.who, s.n, s.m] ++ wts [t]).length + 6 * [s.fates.length].length ≤ 1000000) := by
        have := HL.out
        have h2 := wts_len [t] HT4.out 1 (by simp)
        show (ys ++ wn [s.kind, s.who, s.n, s.m] ++ wts [t]).length + 6 * [s.fates.length].length ≤ 1000000
        simp only [List.take_succ_cons, List.take_zero] at h2
        simp only [List.length_append, wn_len, List.length_cons, List.length_nil]; omega
      go_cut [4] from 25 to 44 (fun v4 wx => Gr B w2 wx v4 (ys ++ wn [s.kind, s.who, s.n, s.m] ++ wts [t] ++ wn [s.fates.length]))
      case first =>
        go_region_held3 (fun w' => w'.cell? ⟨D, 0, none⟩ = some (.int .i64 s.kind) ∧ w'.cell? ⟨D, 1, none⟩ = some (.int .i64 s.who) ∧ w'.cell? ⟨D, 2, none⟩ = some (.int .i64 s.n) ∧ w'.cell? ⟨D, 3, none⟩ = some (.int .i64 s.m) ∧ w'.cell? ⟨D, 4, none⟩ = some (.string t) ∧ w'.cell? ⟨D, 5, none⟩ = some (.slice F s.fates.length c))
          ((refine s6 ?_; (repeat (first | with_reducible exact HB2.out | (with_reducible refine Blk.alloc ?_ _) | (with_reducible refine Blk.drew ?_) | with_reducible refine hh5.other _ _ _ (by decide) ?_ | with_reducible refine hh4.other _ _ _ (by decide) ?_ | with_reducible refine hh3.other _ _ _ (by decide) ?_))))
          (first
            | (go_at_call 31
               (with_reducible refine (num_go w2 _ B u4 ys _ [s.kind, s.who, s.n, s.m] 4 4 _ (len4 _ _ _ _) (cs4 _ _ _ _) (by repeat (first | with_reducible exact hq | with_reducible refine Gr.alloc ?_ _ | with_reducible refine Gr.drew ?_)) (by repeat (first | with_reducible exact Blk.new _ _ _ | with_reducible exact Blk.new1 _ _ _ _ | with_reducible exact Blk.new2 _ _ _ _ _ | with_reducible refine Blk.alloc ?_ _ | with_reducible refine Blk.drew ?_ | with_reducible refine hh4.other _ _ _ (by decide) ?_ | with_reducible refine hh3.other _ _ _ (by decide) ?_)) HN4.out HL1.out).mono ?_)
               rintro e w3 ⟨v3, rfl, hg3, hh3⟩)
            | (go_at_call 32
               (with_reducible refine (text_go w2 _ B v3 _ _ [t] 1 1 _ (len1 _) (ct1 _) (by repeat (first | with_reducible exact hg3 | with_reducible refine Gr.alloc ?_ _ | with_reducible refine Gr.drew ?_)) (by repeat (first | with_reducible exact Blk.new _ _ _ | with_reducible exact Blk.new1 _ _ _ _ | with_reducible exact Blk.new2 _ _ _ _ _ | with_reducible refine Blk.alloc ?_ _ | with_reducible refine Blk.drew ?_ | with_reducible refine hh4.other _ _ _ (by decide) ?_ | with_reducible refine hh3.other _ _ _ (by decide) ?_)) HT4.out HL2.out).mono ?_)
               rintro e w4 ⟨v4, rfl, hg4, hh4⟩)
            | (go_at_call 31
               (with_reducible refine (num_go w2 _ B v4 _ _ [s.fates.length] 1 1 _ (len1 _) (cs1 _) (by repeat (first | with_reducible exact hg4 | with_reducible refine Gr.alloc ?_ _ | with_reducible refine Gr.drew ?_)) (by repeat (first | with_reducible exact Blk.new _ _ _ | with_reducible exact Blk.new1 _ _ _ _ | with_reducible exact Blk.new2 _ _ _ _ _ | with_reducible refine Blk.alloc ?_ _ | with_reducible refine Blk.drew ?_ | with_reducible refine hh4.other _ _ _ (by decide) ?_ | with_reducible refine hh3.other _ _ _ (by decide) ?_)) HN5.out HL3.out).mono ?_)
               rintro e w5 ⟨v5, rfl, hg5, hh5⟩))
        all_goals (try go_wp2_with fail)
        all_goals go_meet
        all_goals exact hg5
      case rest =>
        have hgc := Hg2.out.trans hcut
        have HC := Lib.hid hgc
        have hDc : Blk wc D 33 (stepCells s t F c) := hcut.other _ _ _ (by decide) HB2.out
        have c5 := hDc.cell 5
        simp only [stepCells, List.getElem?_toArray, List.getElem?_cons_zero, List.getElem?_cons_succ] at c5
        clear hcut hgc hDc hq
        obtain ⟨zs, hzs⟩ : ∃ zs, zs = ys ++ wn [s.kind, s.who, s.n, s.m] ++ wts [t] ++ wn [s.fates.length] := ⟨_, rfl⟩
        rw [← hzs] at HC
        have HZ := Lib.hid hzs
        clear hzs
        obtain ⟨M, hM⟩ : ∃ M, M = s.fates.length := ⟨_, rfl⟩
        have hM1 : M ≤ 100 := by obtain ⟨h0, h1, h2, h3, h4, h5, h6, _⟩ := HSR.out; omega
        have HM := Lib.hid hM
        rw [← hM] at c5 ⊢
        clear hM
        go_wp2_with fail
        go_loopw [4, 48] (fun v i wx => ∃ j : Nat, j ≤ M ∧ i = .int .i64 j ∧ Gr B w wx v (zs ++ wn (s.fates.take j))) (fun _ i _ => M - (intOf i).toNat)
        case atStart => exact ⟨0, Nat.zero_le _, rfl, by simpa [wn] using HC.out⟩
        case round =>
          obtain ⟨j, hj, rfl, hgr3⟩ := hrel
          have HGr3 := Lib.hid hgr3
          clear hgr3 c5
          by_cases hjM : j < M
          · have hjl : j < s.fates.length := by have := HM.out; omega
            obtain ⟨gF, hFe, hcF⟩ := HFw.out (by omega)
            have hbF : gF < B := HFB.out _ hFe
            have cF : wr.cell? ⟨gF, j, none⟩ = some (.int .i64 (s.fates.getD j 0 : Nat)) := (HGr3.out.below.cell (p := ⟨gF, j, none⟩) hbF).trans (hcF j hjl)
            obtain ⟨f, hf⟩ : ∃ f, f = s.fates.getD j 0 := ⟨_, rfl⟩
            rw [← hf] at cF
            subst hFe
            have hlen : (zs ++ wn (s.fates.take j)).length + 6 ≤ 1000000 := by
              have h1 := HL.out
              have h2 := HZ.out
              have h3 := HM.out
              have h4 := wts_len [t] HT4.out 1 (by simp)
              simp only [List.take_succ_cons, List.take_zero] at h4
              simp only [List.length_append, wn_len, List.length_cons, List.length_nil, h2, List.length_take]; omega
            have hff : f ≤ 281474976710655 := by
              obtain ⟨h0, h1, h2, h3, h4, h5, h6, h7⟩ := HSR.out
              have e : s.fates.getD j 0 = s.fates[j]'hjl := by simp [List.getD, List.getElem?_eq_getElem hjl]
              rw [hf, e]; have := h7 _ (List.getElem_mem hjl); omega
            have HFf := Lib.hid hf
            clear hcF hf
            go_wp2_with (first
              | (go_at_call 31
                 (with_reducible refine (num_go w _ B u4 (zs ++ wn (s.fates.take j)) _ [f] 1 1 _ (len1 _) (cs1 _) (by exact HGr3.out.alloc _) (by exact Blk.new _ _ _) (by simpa using hff) (by simpa using hlen)).mono ?_)
                 rintro e w6 ⟨v6, rfl, hg6, hh6⟩))
            go_roundw
            case rel => exact ⟨j + 1, by omega, by go_num, by rw [wn_take _ _ hjl, ← HFf.out, ← List.append_assoc]; simpa [wn, Scr.wnum] using hg6⟩
            case measure => simp [intOf]; omega
          · obtain rfl : j = M := by omega
            have hfin : Gr B w wr u4 (Scr.wnum N ++ ws (L.take (k + 1))) := by
              have h1 := HGr3.out
              have h2 := HM.out
              have h3 := HZ.out
              have h4 := HY.out
              have h5 : L[k]'hkl = s := by have := HX.out; rw [List.getElem?_eq_getElem hkl] at this; injection this
              rw [List.take_of_length_le (by omega), h3, h4] at h1
              rw [ws_take L k hkl, h5, ← step_ws s t HT.out]
              simpa only [List.append_assoc] using h1
            have HFin := Lib.hid hfin
            clear hfin
            go_wp2
            go_roundw
            case rel => exact ⟨k + 1, by omega, by go_num, HFin.out⟩
            case measure => simp [intOf]; omega
    · obtain rfl : k = N := by omega
      have hfin : Gr B w wr u4 (Scr.write L) := by
        have h1 := HGr.out
        have h2 := HN.out
        rw [h2, List.take_length] at h1
        exact h1
      have HFin := Lib.hid hfin
      clear hfin
      go_wp2
      rw [run_conv wr u4 B (Scr.write L) HFin.out.own]
      simp only [Result.andThen]
      rw [Oper.upon_value]
      go_wp2
      go_ret2
      exact ⟨_, rfl, by simp, by have := HFin.out.below; rw [HB.out] at this; exact this⟩
#print axioms bytes_any
end Go.Proofs.YtapkhldfbdcblaaGreatDoor
