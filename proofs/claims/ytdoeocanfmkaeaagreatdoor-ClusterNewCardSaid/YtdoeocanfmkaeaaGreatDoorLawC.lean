/- ClusterNew: the law's body: true at every two numbers. -/
import Derived.Test.YtdoeocanfmkaeaaGreatDoorLawR
import Derived.CallsIn
set_option linter.unusedVariables false
set_option linter.unusedSimpArgs false
set_option linter.unusedSectionVars false
set_option linter.unnecessarySimpa false
namespace Go.Ax
open Go.Proofs Go.RowKit W
set_option maxRecDepth 100000
set_option maxHeartbeats 16000000
section
theorem TRel.recast {E : Env} {n : Nat} {t k : Nat} {ts : List (Nat × AV)} {tmps : Array Value} {z : Int} (r : TRel E n (tmpsOf ((t, .opq k) :: ts)) tmps) (hk : E.opq k = .int .i64 z) : TRel E n (tmpsOf ((t, .int .i64 z) :: ts)) tmps := by
  refine ⟨r.1, fun s v hs hg => ?_⟩
  have r2 := r.2 s
  simp only [tmpsOf, PM.get_put] at r2 hg
  by_cases e : posOf t = posOf s
  · rw [if_pos e] at hg
    injection hg with hg
    subst hg
    obtain ⟨u, h1, h2⟩ := r2 _ hs (by rw [if_pos e])
    simp only [VRel] at h2
    exact ⟨u, h1, by simp only [VRel]; rw [h2, hk]⟩
  · rw [if_neg e] at hg
    exact r2 v hs (by rw [if_neg e]; exact hg)
theorem all16 {f : Nat → Bool} (h : ((List.range 16).all f) = true) {r : Nat} (hr : r ≤ 15) : f r = true := List.all_eq_true.1 h r (List.mem_range.2 (by omega))
theorem all32 {f : Nat → Bool} (h : ((List.range 32).all f) = true) {r : Nat} (hr : r ≤ 31) : f r = true := List.all_eq_true.1 h r (List.mem_range.2 (by omega))
theorem mem {l : List Nat} {f : Nat → Bool} (h : (l.all f) = true) {r : Nat} (hr : r ∈ l) : f r = true := List.all_eq_true.1 h r hr

theorem runs (r c : Nat) (hr : r ≤ 15) (hc : c ≤ 31) : ∃ hk, HookOK Tryz.prog hk ∧ okC hk r c = true := by
  have part : ∀ {n : Nat} {hk : Hook}, ([0, 1, 2, 3, 21, 22, 23, 24, 25, 26, 27, 28, 29, 30, 31].all fun c => okC hk n c) = true → ([4, 5, 6, 7, 8, 9].all fun c => okC hk n c) = true → ([10, 11, 12, 13, 14, 15].all fun c => okC hk n c) = true → ([16, 17, 18, 19, 20].all fun c => okC hk n c) = true → okC hk n c = true := by
    intro n hk ho ha hb hd
    have : c ∈ [0, 1, 2, 3, 21, 22, 23, 24, 25, 26, 27, 28, 29, 30, 31] ∨ c ∈ [4, 5, 6, 7, 8, 9] ∨ c ∈ [10, 11, 12, 13, 14, 15] ∨ c ∈ [16, 17, 18, 19, 20] := by simp; omega
    rcases this with h | h | h | h
    · exact mem ho h
    · exact mem ha h
    · exact mem hb h
    · exact mem hd h
  have : r ∈ [0, 1, 2, 3] ∨ r ∈ [4, 6, 8, 10] ∨ r ∈ [11, 12, 13, 14, 15] ∨ r = 5 ∨ r = 7 ∨ r = 9 := by simp; omega
  rcases this with h | h | h | rfl | rfl | rfl
  · exact ⟨noHook, noHook_ok, all32 (mem run0a h) hc⟩
  · exact ⟨noHook, noHook_ok, all32 (mem run0b h) hc⟩
  · exact ⟨noHook, noHook_ok, all32 (mem run0c h) hc⟩
  · exact ⟨hk3, hk3_ok, part run3o run3a run3b run3c⟩
  · exact ⟨hk5, hk5_ok, part run5o run5a run5b run5c⟩
  · exact ⟨hk7, hk7_ok, part run7o run7a run7b run7c⟩

def P4 (w : World) (e : Ending) (w' : World) : Prop := e = .returned (.bool true) ∧ Below w.heap.size w w'
theorem len3a : s3a.ops.length = 1 := by kernel_rfl
theorem len3b (r : Nat) : (s3b r).ops.length = 2 := by kernel_rfl
theorem len4a (r : Nat) : (s4a r).ops.length = 1 := by kernel_rfl
theorem len4b (r c : Nat) : (s4b r c).ops.length = 2 := by kernel_rfl
theorem range4 : List.range' 0 4 = List.range' 0 1 ++ (1 :: List.range' 2 2) := rfl
theorem size3 : List.range ops3.size = List.range' 0 4 := by rw [show ops3.size = 4 by kernel_rfl]; rfl
theorem size4 : List.range ops4.size = List.range' 0 4 := by rw [show ops4.size = 4 by kernel_rfl]; rfl

theorem law_any (w : World) (z0 z1 : Int) : Calls Tryz.prog 4 #[.int .i64 z0, .int .i64 z1] w (P4 w) := by
  refine (callsIn_wide (n := 0)).1 ?_
  show CallsIn (FW none) 0 Tryz.prog 4 [Value.int .i64 z0, Value.int .i64 z1].toArray w (P4 w)
  let q : Nat → Value := fun k => [Value.int .i64 z0, Value.int .i64 z1].getD k (.bool false)
  have hq : ∀ i, (∀ cs, q i ≠ .agg cs) ∧ (∀ cs, q i ≠ .tuple cs) := by
    intro i
    show (∀ cs, [Value.int .i64 z0, Value.int .i64 z1].getD i (.bool false) ≠ .agg cs) ∧ (∀ cs, [Value.int .i64 z0, Value.int .i64 z1].getD i (.bool false) ≠ .tuple cs)
    rcases i with _ | _ | i <;> simp
  refine callsIn_body (fn := Tryz.f4) Tryz.func4 body4_eq (args := [.opq 0, .opq 1]) (by rw [ntm]; decide) (by rw [ntm]; decide) (ts := t01) (by decide +kernel) (E := E₀ q hq) ?_ ?_
  · simp only [VRelL, VRel]
    exact ⟨_, _, rfl, rfl, _, _, rfl, rfl, rfl⟩
  intro a tr hd
  rw [ntm] at tr
  have st := St.start w q hq 1
  refine wpIn_seq (pieceK_ok follows noHook_ok (by decide) pR0_run (E₀ q hq) 0 a w _ tr (HRel.start w q hq 1) hd fun E1 a1 w1 f1 tr1 hr1 hd1 => ?_)
  have st1 := st.step f1
  refine wpIn_seq (pieceK_ok follows hkH_ok (by decide) pB_run E1 0 a1 w1 _ tr1 hr1 hd1 fun E2 a2 w2 f2 tr2 hr2 hd2 => ?_)
  have st2 := st1.step f2
  clear tr hd st f1 tr1 hr1 hd1 st1 f2
  refine wpIn_seq (wpIn_region ?_)
  rw [size3, range4]
  have h0 := segK_ok follows noHook_ok (by decide) 0 (cut_all ops3 0 1) s3a_run
  rw [len3a] at h0
  refine h0 _ E2 0 a2 w2 _ tr2 hr2 fun E3 a3 w3 f3 tr3 hr3 hd3 => ?_
  have st3 := st2.step f3
  rw [hd2] at hd3
  clear tr2 hr2 st2 f3 h0 hd2
  obtain ⟨o, ho, hop, hdst, hgu⟩ := o3_is
  obtain ⟨r, hr, hbits⟩ := and_low z0 15 (by decide)
  have tr3' := TRel.recast (z := z0) tr3 (by rw [st3.2.2]; rfl)
  refine ops_do ho (wantedA_ok (b := true) tr3 (by unfold wantedA; rw [hgu])) ?_
  refine and_go hop (by rfl) E3 none 0 a3 w3 _ _ tr3' hr3 fun E4 u w4 f4 hr4 hu => ?_
  have st4 := st3.step f4
  rw [hbits] at hu
  have tr4 : TRel E4 170 (tmpsOf (s3b r).ts) (a3.put o.dst u).tmps := by
    rw [hdst]
    exact put_ok (ts := s3a.ts') (v := i r) (by decide) (all16 put14_run hr) (tr3.mono f4.le) hu
  have hd4 : (a3.put o.dst u).defers = [] := by rw [put_defers]; exact hd3
  clear tr3 tr3' hr3 st3 f4 hu hd3 hbits
  have hB := segK_ok follows noHook_ok (by decide) 2 (cut_all ops3 2 2) (all16 s3b_run hr)
  rw [len3b] at hB
  rw [← List.append_nil (List.range' 2 2)]
  refine hB [] E4 0 _ w4 _ tr4 hr4 fun E5 a5 w5 f5 tr5 hr5 hd5 => ?_
  have st5 := st4.step f5
  rw [hd4] at hd5
  clear tr4 hr4 st4 f5 hB hd4 hop hdst hgu ho
  refine wpIn_seq (wpIn_region ?_)
  rw [size4, range4]
  have h0 := segK_ok follows noHook_ok (by decide) 0 (cut_all ops4 0 1) (all16 s4a_run hr)
  rw [len4a] at h0
  refine h0 _ E5 0 a5 w5 _ tr5 hr5 fun E6 a6 w6 f6 tr6 hr6 hd6 => ?_
  have st6 := st5.step f6
  rw [hd5] at hd6
  clear tr5 hr5 st5 f6 h0 hd5
  obtain ⟨o, ho, hop, hdst, hgu⟩ := o4_is
  obtain ⟨c, hc, hbits⟩ := and_low z1 31 (by decide)
  have tr6' := TRel.recast (z := z1) tr6 (by rw [st6.2.2]; rfl)
  refine ops_do ho (wantedA_ok (b := true) tr6 (by unfold wantedA; rw [hgu])) ?_
  refine and_go hop (by rfl) E6 none 0 a6 w6 _ _ tr6' hr6 fun E7 u w7 f7 hr7 hu => ?_
  have st7 := st6.step f7
  rw [hbits] at hu
  have tr7 : TRel E7 170 (tmpsOf (s4b r c).ts) (a6.put o.dst u).tmps := by
    rw [hdst]
    exact put_ok (ts := (s4a r).ts') (v := i c) (by decide) (all32 (all16 put17_run hr) hc) (tr6.mono f7.le) hu
  have hd7 : (a6.put o.dst u).defers = [] := by rw [put_defers]; exact hd6
  clear tr6 tr6' hr6 st6 f7 hu hd6 hbits
  have hB := segK_ok follows noHook_ok (by decide) 2 (cut_all ops4 2 2) (all32 (all16 s4b_run hr) hc)
  rw [len4b] at hB
  rw [← List.append_nil (List.range' 2 2)]
  refine hB [] E7 0 _ w7 _ tr7 hr7 fun E8 a8 w8 f8 tr8 hr8 hd8 => ?_
  have st8 := st7.step f8
  rw [hd7] at hd8
  clear tr7 hr7 st7 f8 hB hd7 hop hdst hgu ho
  obtain ⟨hk, hh, hrun⟩ := runs r c hr hc
  refine endK_ok follows hh (by decide) hrun ntm res4 tr8 hr8 hd8 fun E' h' u w' f hu => ?_
  refine ⟨?_, (st8.step f).1⟩
  simp only [t, VRel] at hu
  rw [hu]
#print axioms law_any
end
end Go.Ax
