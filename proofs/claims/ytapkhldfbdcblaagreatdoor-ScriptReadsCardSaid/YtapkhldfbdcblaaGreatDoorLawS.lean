/- ScriptReads: the law's body, walked: true at every text, if the head is. -/
import Derived.Test.YtapkhldfbdcblaaGreatDoorRd6
import Derived.Test.YtapkhldfbdcblaaGreatDoorRdB
set_option linter.unusedSimpArgs false
set_option linter.unusedSectionVars false
set_option linter.unnecessarySimpa false
namespace Go.Proofs.YtapkhldfbdcblaaGreatDoor
open Go Go.RowKit Go.Proofs
set_option maxRecDepth 100000
set_option linter.unusedVariables false
set_option maxHeartbeats 1000000
def TruePost (w : World) (e : Ending) (w' : World) : Prop := e = .returned (.bool true) ∧ Below w.heap.size w w'
theorem steps_of {w : World} {B0 : Nat} {v : Value} {cells : List Value} {L : List Scr.Step} (ho : w.ownsRow B0 33 6 v L.length cells) (hg : Got w B0 cells L) : ∃ A cap, v = .slice A L.length cap ∧ Steps w.heap.size w A L := by
  have key : 0 < L.length → ∃ g cap, v = .slice (some ⟨g, 0, none⟩) L.length cap ∧ g < w.heap.size ∧ ∀ i s, L[i]? = some s → StepAt w.heap.size w g (i * 6) s := fun hL => by
    obtain ⟨g, cap, hv, _, hlt⟩ := ho.form hL
    refine ⟨g, cap, hv, hlt, fun i s hi => ?_⟩
    obtain ⟨t, F, c, h1, h2, h3⟩ := hg i s hi
    refine ⟨t, F, c, h1, fates_of h2, fun a ha => ?_, fun j hj => ?_⟩
    · have := h2.lt a.block (by rw [ha]; rfl)
      exact this.2
    · have h4 := h3 j hj
      obtain ⟨u, hu⟩ : ∃ u, (sCells s.kind s.who s.n s.m t (.slice F s.fates.length c))[j]? = some u := ⟨_, Array.getElem?_eq_getElem (show j < 6 from hj)⟩
      rw [hu] at h4
      have h5 := ho.cells (g := g) (by rw [hv]; rfl) (i * 6 + j) u h4
      rw [show ((⟨g, 0, none⟩ : Addr).add (i * 6 + j)) = ⟨g, i * 6 + j, none⟩ by unfold Addr.add; split <;> simp_all] at h5
      rw [h5]; exact hu.symm
  rcases ho.2 with ⟨hv, h0⟩ | ⟨g, cap, cur, hv, _⟩
  · refine ⟨none, 0, by rw [hv, h0], fun hL => by omega⟩
  · refine ⟨some ⟨g, 0, none⟩, cap, hv, fun hL => ?_⟩
    obtain ⟨g', cap', hv', hlt, hs⟩ := key hL
    rw [hv] at hv'
    injection hv' with e1 e2 e3
    injection e1 with e1
    injection e1 with e1
    subst e1
    exact ⟨g, hlt, rfl, hs⟩

def NonePost (w : World) (e : Ending) (w' : World) : Prop := e = .returned (.tuple #[.slice none 0 0, .int .i64 2]) ∧ Below w.heap.size w w'
def SomePost (L : List Scr.Step) (w : World) (e : Ending) (w' : World) : Prop := ∃ A cap, e = .returned (.tuple #[.slice A L.length cap, .int .i64 0]) ∧ Below w.heap.size w w' ∧ Steps w'.heap.size w' A L
theorem parse_none (w : World) (s : ByteArray) (hs : s.size ≤ 9223372036854775807) (h : Scr.parse s.data.toList = none) : Calls Tryz.prog 7 #[.string s] w (NonePost w) :=
  (parse_any w s hs).mono fun e w' ⟨hb, hk⟩ => by
    rcases hk with ⟨_, he⟩ | ⟨L, v, cells, h1, _⟩
    · exact ⟨he, hb⟩
    · rw [h] at h1; cases h1
theorem parse_ok (w : World) (s : ByteArray) (hs : s.size ≤ 9223372036854775807) {L : List Scr.Step} (h : Scr.parse s.data.toList = some L) : Calls Tryz.prog 7 #[.string s] w (SomePost L w) :=
  (parse_any w s hs).mono fun e w' ⟨hb, hk⟩ => by
    rcases hk with ⟨h1, _⟩ | ⟨L', v, cells, h1, he, ho, hg⟩
    · rw [h] at h1; cases h1
    · rw [h] at h1
      injection h1 with h1
      subst h1
      obtain ⟨A, cap, hv, hst⟩ := steps_of ho hg
      subst hv
      exact ⟨A, cap, he, hb, hst⟩
theorem reads_any (HH : ∀ w, Calls Tryz.prog 6 #[] w (TruePost w)) (w : World) (s : ByteArray) (hs : s.size ≤ 9223372036854775807) : Calls Tryz.prog 3 #[.string s] w (TruePost w) := by
  have HHH := Lib.hid HH
  clear HH
  by_cases hl : s.size ≤ 3000
  · cases hp : Scr.parse s.data.toList with
    | none =>
      have HP : Hid (∀ w, Calls Tryz.prog 7 #[.string s] w (NonePost w)) := fun w => parse_none w s hs hp
      clear hp
      go_enter Tryz.func3, Tryz.ntmps3
      go_wp2_with (first
        | (go_at_call 6; (with_reducible refine (HHH.out _).mono ?_); rintro e w1 ⟨rfl, hb1⟩)
        | (go_at_call 7; (with_reducible refine (HP.out _).mono ?_); rintro e w2 ⟨rfl, hb2⟩))
      go_ret
      exact ⟨rfl, hb1.trans (hb2.mono hb1.size)⟩
    | some L =>
      have HP : Hid (∀ w, Calls Tryz.prog 7 #[.string s] w (SomePost L w)) := fun w => parse_ok w s hs hp
      obtain ⟨hw, hl5, hr⟩ := Scr.parse_some hp
      have HB : Hid (∀ w A cap, Steps w.heap.size w A L → Calls Tryz.prog 8 #[.slice A L.length cap] w (fun e w' => e = .returned (.tuple #[.string s, .int .i64 0]) ∧ Below w.heap.size w w')) := fun w A cap h =>
        (bytes_any w A L cap h hr hl5).mono fun e w' ⟨S, he, hS, hb⟩ => by
          have : S = s := by apply ByteArray.ext; rw [← Array.toList_inj, hS, hw]
          subst this
          exact ⟨he, hb⟩
      clear hp hw hl5 hr
      go_enter Tryz.func3, Tryz.ntmps3
      go_wp2_with (first
        | (go_at_call 6; (with_reducible refine (HHH.out _).mono ?_); rintro e w1 ⟨rfl, hb1⟩)
        | (go_at_call 7; (with_reducible refine (HP.out _).mono ?_); rintro e w2 ⟨A, cap, rfl, hb2, hst⟩
           have HS := Lib.hid hst
           clear hst)
        | (go_at_call 8; (with_reducible refine (HB.out _ _ _ HS.out).mono ?_); rintro e w3 ⟨rfl, hb3⟩))
      go_ret
      exact ⟨rfl, hb1.trans ((hb2.mono hb1.size).trans (hb3.mono (Nat.le_trans hb1.size hb2.size)))⟩
  · have hl2 : 3000 < s.size := by omega
    clear hl
    go_enter Tryz.func3, Tryz.ntmps3
    go_wp2_with (first
      | (go_at_call 6; (with_reducible refine (HHH.out _).mono ?_); rintro e w1 ⟨rfl, hb1⟩))
    go_ret
    exact ⟨rfl, hb1⟩
#print axioms reads_any
end Go.Proofs.YtapkhldfbdcblaaGreatDoor
