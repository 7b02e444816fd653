/- ClusterLossy: the law's body: true at every two numbers. -/
import Derived.Test.YtdoeocanfmkaeaaGreatDoorLawM01
import Derived.Test.YtdoeocanfmkaeaaGreatDoorLawM23
import Derived.CallsIn
set_option linter.unusedVariables false
set_option linter.unusedSimpArgs false
set_option linter.unusedSectionVars false
set_option linter.unnecessarySimpa false
namespace Go.Ax
open Go.Proofs Go.RowKit W
set_option maxRecDepth 100000
set_option maxHeartbeats 16000000
section
theorem all8 {f : Nat → Bool} (h : ((List.range 8).all f) = true) {r : Nat} (hr : r ≤ 7) : f r = true := List.all_eq_true.1 h r (List.mem_range.2 (by omega))
theorem runsL (r : Nat) (hr : r ≤ 7) : okL r = true := by
  have : r = 0 ∨ r = 1 ∨ r = 2 ∨ r = 3 ∨ r = 4 ∨ r = 5 ∨ r = 6 ∨ r = 7 := by omega
  rcases this with rfl | rfl | rfl | rfl | rfl | rfl | rfl | rfl
  · exact okL0
  · exact okL1
  · exact okL2
  · exact okL3
  · exact okL4
  · exact okL5
  · exact okL6
  · exact okL7
def P3 (w : World) (e : Ending) (w' : World) : Prop := e = .returned (.bool true) ∧ Below w.heap.size w w'
theorem len3a : s3a.ops.length = 1 := by kernel_rfl
theorem len3b (r : Nat) : (s3b r).ops.length = 1 := by kernel_rfl
theorem len4a (r : Nat) : (s4a r).ops.length = 1 := by kernel_rfl
theorem len4b (r : Nat) : (s4b r).ops.length = 1 := by kernel_rfl
theorem range3 : List.range' 0 3 = List.range' 0 1 ++ (1 :: List.range' 2 1) := rfl
theorem size3 : List.range ops3.size = List.range' 0 3 := by rw [show ops3.size = 3 by kernel_rfl]; rfl
theorem size4 : List.range ops4.size = List.range' 0 3 := by rw [show ops4.size = 3 by kernel_rfl]; rfl
theorem TRel.recast {E : Env} {n : Nat} {t k : Nat} {ts : List (Nat × AV)} {tmps : Array Value} {z : Int} (r : TRel E n (tmpsOf ((t, .opq k) :: ts)) tmps) (hk : E.opq k = .int .i64 z) : TRel E n (tmpsOf ((t, .int .i64 z) :: ts)) tmps := by
  refine ⟨r.1, fun s v hs hg => ?_⟩
  have r2 := r.2 s
  simp only [tmpsOf, PM.get_put] at r2 hg
  by_cases e : posOf t = posOf s
  · rw [if_pos e] at hg
    injection hg with hg
    subst hg
    obtain ⟨u, h1, h2⟩ := r2 _ hs (by rw [if_pos e])
    simp only [VRel] at h2
    exact ⟨u, h1, by simp only [VRel]; rw [h2, hk]⟩
  · rw [if_neg e] at hg
    exact r2 v hs (by rw [if_neg e]; exact hg)

theorem law_any (w : World) (z0 z1 : Int) : Calls Tryz.prog 3 #[.int .i64 z0, .int .i64 z1] w (P3 w) := by
  refine (callsIn_wide (n := 0)).1 ?_
  show CallsIn (FW none) 0 Tryz.prog 3 [Value.int .i64 z0, Value.int .i64 z1].toArray w (P3 w)
  obtain ⟨r, hr, hbr⟩ := and_low z0 7 (by decide)
  obtain ⟨c, hc, hbc⟩ := and_low z1 31 (by decide)
  let q : Nat → Value := fun k => [Value.int .i64 z0, Value.int .i64 z1, Value.int .i64 (.ofNat c)].getD k (.bool false)
  have hq : ∀ i, (∀ cs, q i ≠ .agg cs) ∧ (∀ cs, q i ≠ .tuple cs) := by
    intro i
    show (∀ cs, [Value.int .i64 z0, Value.int .i64 z1, Value.int .i64 (.ofNat c)].getD i (.bool false) ≠ .agg cs) ∧ (∀ cs, [Value.int .i64 z0, Value.int .i64 z1, Value.int .i64 (.ofNat c)].getD i (.bool false) ≠ .tuple cs)
    rcases i with _ | _ | _ | i <;> simp
  refine callsIn_body (fn := Tryz.f3) Tryz.func3 body3_eq (args := [.opq 0, .opq 1]) (by rw [ntm3]; decide) (by rw [ntm3]; decide) (ts := t01) (by decide +kernel) (E := E₀ q hq) ?_ ?_
  · simp only [VRelL, VRel]
    exact ⟨_, _, rfl, rfl, _, _, rfl, rfl, rfl⟩
  intro a tr hd
  rw [ntm3] at tr
  have st := St.start w q hq 1
  refine wpIn_seq (pieceK_ok follows noHook_ok (by decide) pR0_run (E₀ q hq) 0 a w _ tr (HRel.start w q hq 1) hd fun E1 a1 w1 f1 tr1 hr1 hd1 => ?_)
  have st1 := st.step f1
  refine wpIn_seq (pieceK_ok follows hkH_ok (by decide) pB_run E1 0 a1 w1 _ tr1 hr1 hd1 fun E2 a2 w2 f2 tr2 hr2 hd2 => ?_)
  have st2 := st1.step f2
  clear tr hd st f1 tr1 hr1 hd1 st1 f2
  refine wpIn_seq (wpIn_region ?_)
  rw [size3, range3]
  have h0 := segK_ok follows noHook_ok (by decide) 0 (cut_all ops3 0 1) s3a_run
  rw [len3a] at h0
  refine h0 _ E2 0 a2 w2 _ tr2 hr2 fun E3 a3 w3 f3 tr3 hr3 hd3 => ?_
  have st3 := st2.step f3
  rw [hd2] at hd3
  clear tr2 hr2 st2 f3 h0 hd2
  obtain ⟨o, ho, hop, hdst, hgu⟩ := o3_is
  have tr3' := TRel.recast (z := z0) tr3 (by rw [st3.2.2]; rfl)
  refine ops_do ho (wantedA_ok (b := true) tr3 (by unfold wantedA; rw [hgu])) ?_
  refine and_go hop (by rfl) E3 none 0 a3 w3 _ _ tr3' hr3 fun E4 u w4 f4 hr4 hu => ?_
  have st4 := st3.step f4
  rw [hbr] at hu
  have tr4 : TRel E4 68 (tmpsOf (s3b r).ts) (a3.put o.dst u).tmps := by
    rw [hdst]
    exact put_ok (ts := s3a.ts') (v := i r) (by decide) (all8 put16_run hr) (tr3.mono f4.le) hu
  have hd4 : (a3.put o.dst u).defers = [] := by rw [put_defers]; exact hd3
  clear tr3 tr3' hr3 st3 f4 hu hd3
  have hB := segK_ok follows noHook_ok (by decide) 2 (cut_all ops3 2 1) (all8 s3b_run hr)
  rw [len3b] at hB
  rw [← List.append_nil (List.range' 2 1)]
  refine hB [] E4 0 _ w4 _ tr4 hr4 fun E5 a5 w5 f5 tr5 hr5 hd5 => ?_
  have st5 := st4.step f5
  rw [hd4] at hd5
  clear tr4 hr4 st4 f5 hB hd4 hop hdst hgu ho
  refine wpIn_seq (wpIn_region ?_)
  rw [size4, range3]
  have h0 := segK_ok follows noHook_ok (by decide) 0 (cut_all ops4 0 1) (all8 s4a_run hr)
  rw [len4a] at h0
  refine h0 _ E5 0 a5 w5 _ tr5 hr5 fun E6 a6 w6 f6 tr6 hr6 hd6 => ?_
  have st6 := st5.step f6
  rw [hd5] at hd6
  clear tr5 hr5 st5 f6 h0 hd5
  obtain ⟨o, ho, hop, hdst, hgu⟩ := o4_is
  have tr6' := TRel.recast (z := z1) tr6 (by rw [st6.2.2]; rfl)
  refine ops_do ho (wantedA_ok (b := true) tr6 (by unfold wantedA; rw [hgu])) ?_
  refine and_go hop (by rfl) E6 none 0 a6 w6 _ _ tr6' hr6 fun E7 u w7 f7 hr7 hu => ?_
  have st7 := st6.step f7
  rw [hbc] at hu
  have hu2 : VRel E7 (.opq 2) u := by
    simp only [VRel] at hu ⊢
    rw [hu, st7.2.2]
    rfl
  have tr7 : TRel E7 68 (tmpsOf (s4b r).ts) (a6.put o.dst u).tmps := by
    rw [hdst]
    exact put_ok (ts := (s4a r).ts') (v := .opq 2) (by decide) (all8 put18_run hr) (tr6.mono f7.le) hu2
  have hd7 : (a6.put o.dst u).defers = [] := by rw [put_defers]; exact hd6
  clear tr6 tr6' hr6 st6 f7 hu hd6
  have hB := segK_ok follows noHook_ok (by decide) 2 (cut_all ops4 2 1) (all8 s4b_run hr)
  rw [len4b] at hB
  rw [← List.append_nil (List.range' 2 1)]
  refine hB [] E7 0 _ w7 _ tr7 hr7 fun E8 a8 w8 f8 tr8 hr8 hd8 => ?_
  have st8 := st7.step f8
  rw [hd7] at hd8
  clear tr7 hr7 st7 f8 hB hd7 hop hdst hgu ho
  have run := runsL r hr
  unfold okL at run
  rw [fTs_eq, fNat_eq] at run
  have fin : ∀ (E : Env) (u : Value) (w' : World), VRel E t u → Below w.heap.size w w' → P3 w (.returned u) w' := fun E u w' hu hb => ⟨by simp only [t, VRel] at hu; rw [hu], hb⟩
  have hq2 : q 2 = .int .i64 (.ofNat c) := rfl
  have key : WpT Tryz.prog 68 w q (.seq cR5 (.seq cR6 (.seq cC7 (.seq cR9 (.seq cR10 (.seq (.seq cR11 (.block 0 (.loop cLp))) cRest)))))) (bodyPostM (FW none) 0 Tryz.prog Tryz.f3 (P3 w)) (tmpsOf [(0, i r), (1, .opq 2)]) ⟨.nil, (1 : Nat)⟩ :=
    goK_seq follows hkT_ok (by decide) run fun T h e => goK_seq follows hkT_ok (by decide) e fun T h e => goK_seq follows hkT_ok (by decide) e fun T h e => goK_seq follows hkT_ok (by decide) e fun T h e =>
    goK_seq follows hkT_ok (by decide) e fun T h e => fun E a w' st tr hr hd => wpIn_seq (wpIn_seq (goK_wp follows hkT_ok (by decide) e (fun T h e E a w' st tr hr hd => heads_wp follows hkT_ok (by decide) lp_ok hq2 ntm3 res3 fin hc e E a w' st tr hr hd) E a w' st tr hr hd))
  exact key E8 a8 w8 st8 tr8 hr8 hd8
#print axioms law_any
end
end Go.Ax
