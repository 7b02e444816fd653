/- ClientWaits: the law's body, walked: the head, the two looks whether there is little, the rest. -/
import Derived.Test.YtgooflapblbjnaaGreatDoorAxLaw
import Derived.Test.YtgooflapblbjnaaGreatDoorHdA4
import Derived.Test.YtgooflapblbjnaaGreatDoorFewW
import Derived.CallsIn
set_option linter.unusedVariables false
set_option linter.unusedSimpArgs false
set_option linter.unusedSectionVars false
namespace Go.Ax
open Go.Proofs Go.RowKit W
open Go.Proofs.YtgooflapblbjnaaGreatDoor (SomeBool)
set_option maxRecDepth 100000
section

noncomputable def body3 : Code := match Tryz.f3.body with | some c => c | none => .skip
noncomputable def cR0 : Code := seqL body3
noncomputable def cB : Code := seqL (seqR body3)
noncomputable def cD : Code := seqL (seqR (seqR body3))
noncomputable def cRest : Code := seqR (seqR (seqR body3))
noncomputable def cR3 : Code := seqL cD
noncomputable def cC2 : Code := seqR cD
noncomputable def ops3 : Array Oper := opsOf cR3
theorem body3_eq : Tryz.f3.body = some (.seq cR0 (.seq cB (.seq (.seq (.region 3 ops3 false) cC2) cRest))) := by kernel_rfl

def ca : List AV := [.opq 0, .opq 1, .opq 2, .opq 3, .opq 4, .opq 5, .opq 6, .opq 7]
def cb : List AV := [.opq 8, .opq 9, .opq 10, .opq 11, .opq 12, .opq 13, .opq 14, .opq 15]
noncomputable def boxes : Lit := [x 1 ca, x 2 cb]
def t23 : List (Nat × AV) := [(2, p 1 0), (3, p 2 0)]

noncomputable def hkH : Hook := stayK k13.f true
theorem hkH_ok : HookOK Tryz.prog hkH := stayK_ok k13_ok rfl rfl rfl
noncomputable def hkN : Hook := addK k3
theorem hkN_ok : HookOK Tryz.prog hkN := addK_ok k3_ok rfl (by decide +kernel)

noncomputable def pR0 : Piece := { c := cR0, ts := [(0, g ca), (1, g cb)], nx := 1, pre := [], x := .normal, ts' := t23, nx' := 3, post := boxes }
theorem pR0_run : pieceK Tryz.prog noHook 5 93 pR0 = true := by decide +kernel
noncomputable def pB : Piece := { c := cB, ts := t23, nx := 3, pre := boxes, x := .normal, ts' := t23, nx' := 3, post := boxes }
theorem pB_run : pieceK Tryz.prog hkH 5 93 pB = true := by decide +kernel
noncomputable def pT : Piece := { c := cC2, ts := (23, t) :: t23, nx := 3, pre := boxes, x := .ret, ts' := [(4, t)], nx' := 3, post := boxes }
theorem pT_run : pieceK Tryz.prog noHook 5 93 pT = true := by decide +kernel
noncomputable def pF : Piece := { c := cC2, ts := (23, f) :: t23, nx := 3, pre := boxes, x := .normal, ts' := t23, nx' := 3, post := boxes }
theorem pF_run : pieceK Tryz.prog noHook 5 93 pF = true := by decide +kernel
noncomputable def pRest : Piece := { c := cRest, ts := t23, nx := 3, pre := boxes, x := .ret, ts' := [(4, t)], nx' := 9083, post := [] }
theorem pRest_run : pieceK Tryz.prog hkN 60 93 pRest = true := by decide +kernel

noncomputable def o3 (i n : Nat) : List Oper := (ops3.toList.drop i).take n
noncomputable def s0 : Seg := { ops := o3 0 1, ts := t23, nx := 3, pre := boxes, ts' := (16, g ca) :: t23, nx' := 3, post := boxes }
theorem s0_run : segK Tryz.prog noHook 5 93 ops3 s0 = true := by decide +kernel
noncomputable def sN : Seg := { ops := o3 2 6, ts := (17, f) :: t23, nx := 3, pre := boxes, ts' := (23, t) :: t23, nx' := 3, post := boxes }
theorem sN_run : segK Tryz.prog noHook 5 93 ops3 sN = true := by decide +kernel
noncomputable def sY : Seg := { ops := o3 2 3, ts := (17, t) :: t23, nx := 3, pre := boxes, ts' := (19, f) :: (20, g cb) :: t23, nx' := 3, post := boxes }
theorem sY_run : segK Tryz.prog noHook 5 93 ops3 sY = true := by decide +kernel
noncomputable def sE (b : Bool) : Seg := { ops := o3 6 2, ts := (21, .bool b) :: (19, f) :: t23, nx := 3, pre := boxes, ts' := (23, .bool !b) :: t23, nx' := 3, post := boxes }
theorem sE_run : ∀ b, segK Tryz.prog noHook 5 93 ops3 (sE b) = true := by
  intro b; cases b
  · decide +kernel
  · decide +kernel
theorem o1_is : ∃ o c, ops3[1]? = some o ∧ o.op = .call c ∧ c.callee = .value (.func 5) ∧ c.args = #[.tmp 16] ∧ o.dst = some 17 ∧ o.guard = none := ⟨_, _, rfl, rfl, rfl, rfl, rfl, rfl⟩
theorem o5_is : ∃ o c, ops3[5]? = some o ∧ o.op = .call c ∧ c.callee = .value (.func 5) ∧ c.args = #[.tmp 20] ∧ o.dst = some 21 ∧ o.guard = some (3, false) := ⟨_, _, rfl, rfl, rfl, rfl, rfl, rfl⟩
theorem call5 : Callable Tryz.prog 5 := ⟨Tryz.f5, match Tryz.f5.body with | some c => c | none => .skip, Tryz.func5, by kernel_rfl, by kernel_rfl⟩
theorem range8 : List.range ops3.size = List.range' 0 1 ++ (1 :: List.range' 2 6) := by
  rw [show ops3.size = 8 by kernel_rfl]; rfl
theorem len0 : s0.ops.length = 1 := by kernel_rfl
theorem lenN : sN.ops.length = 6 := by kernel_rfl
theorem lenY : sY.ops.length = 3 := by kernel_rfl
theorem lenE (b : Bool) : (sE b).ops.length = 2 := by kernel_rfl
theorem range26 : List.range' 2 6 = List.range' 2 3 ++ (5 :: List.range' 6 2) := rfl
theorem ntm : Tryz.f3.ntmps = 93 := by kernel_rfl
theorem res3 (h : AH) : resultA Tryz.prog h (tmpsOf [(4, t)]) Tryz.f3.results.toList = some (.bool true) := by
  rw [show Tryz.f3.results.toList = [.tmp 4] by kernel_rfl]; rfl

def P3 (w : World) (e : Ending) (w' : World) : Prop := e = .returned (.bool true) ∧ Below w.heap.size w w'

theorem law_any (w : World) (q : Nat → Value) (hq : ∀ i, (∀ cs, q i ≠ .agg cs) ∧ (∀ cs, q i ≠ .tuple cs))
    (F0 : ∀ w', Below w.heap.size w w' → Calls Tryz.prog 5 #[.agg #[q 0, q 1, q 2, q 3, q 4, q 5, q 6, q 7]] w' (SomeBool w'))
    (F1 : ∀ w', Below w.heap.size w w' → Calls Tryz.prog 5 #[.agg #[q 8, q 9, q 10, q 11, q 12, q 13, q 14, q 15]] w' (SomeBool w')) :
    Calls Tryz.prog 3 #[.agg #[q 0, q 1, q 2, q 3, q 4, q 5, q 6, q 7], .agg #[q 8, q 9, q 10, q 11, q 12, q 13, q 14, q 15]] w (P3 w) := by
  refine (callsIn_wide (n := 0)).1 ?_
  show CallsIn (FW none) 0 Tryz.prog 3 [Value.agg #[q 0, q 1, q 2, q 3, q 4, q 5, q 6, q 7], Value.agg #[q 8, q 9, q 10, q 11, q 12, q 13, q 14, q 15]].toArray w (P3 w)
  refine callsIn_body (fn := Tryz.f3) Tryz.func3 body3_eq (args := [g ca, g cb]) (by rw [ntm]; decide) (by rw [ntm]; decide) (ts := pR0.ts) (by decide +kernel) (E := E₀ q hq) ?_ ?_
  · simp only [VRelL]
    exact ⟨_, _, rfl, opqs_VRel [0, 1, 2, 3, 4, 5, 6, 7], _, _, rfl, opqs_VRel [8, 9, 10, 11, 12, 13, 14, 15], rfl⟩
  intro a tr hd
  rw [ntm] at tr
  have st := St.start w q hq 1
  refine wpIn_seq (pieceK_ok follows noHook_ok (by decide) pR0_run (E₀ q hq) 0 a w _ tr (HRel.start w q hq 1) hd fun E1 a1 w1 f1 tr1 hr1 hd1 => ?_)
  have st1 := st.step f1
  refine wpIn_seq (pieceK_ok follows hkH_ok (by decide) pB_run E1 0 a1 w1 _ tr1 hr1 hd1 fun E2 a2 w2 f2 tr2 hr2 hd2 => ?_)
  have st2 := st1.step f2
  clear tr hd st f1 tr1 hr1 hd1 st1 f2
  refine wpIn_seq (wpIn_seq (wpIn_region ?_))
  rw [range8]
  have h0 := segK_ok follows noHook_ok (by decide) 0 (cut_all ops3 0 1) s0_run
  rw [len0] at h0
  refine h0 _ E2 0 a2 w2 _ tr2 hr2 fun E3 a3 w3 f3 tr3 hr3 hd3 => ?_
  have st3 := st2.step f3
  rw [hd2] at hd3
  clear tr2 hr2 st2 f3 h0 hd2
  obtain ⟨o, c, ho, hop, hcal, hargs, hdst, hgu⟩ := o1_is
  refine ops_do ho (wantedA_ok (b := true) tr3 (by unfold wantedA; rw [hgu])) ?_
  have hv : a3.eval (.tmp 16) = .agg #[q 0, q 1, q 2, q 3, q 4, q 5, q 6, q 7] := by
    have h1 : VRel E3 (g ca) (a3.eval (.tmp 16)) := evA_rel (by kernel_rfl) tr3
    have h2 := VRel_opqs (is := [0, 1, 2, 3, 4, 5, 6, 7]) h1
    rw [st3.2.2] at h2
    exact h2
  refine call_go hop hcal call5 (us := [.agg #[q 0, q 1, q 2, q 3, q 4, q 5, q 6, q 7]]) (by rw [hargs]; simp [hv]) ((callsIn_wide (n := 0 - 1)).2 (F0 w3 st3.1)) ?_
  rintro e w4 ⟨b, rfl, hb4⟩
  refine ⟨_, rfl, ?_⟩
  obtain ⟨hr4, f4⟩ := hr3.kept hb4
  have st4 := st3.step f4
  rw [hdst]
  clear o c ho hop hcal hargs hdst hgu hv hr3 st3 f4 hb4
  have fin : ∀ (E : Env) (h : AH) (a : Act) (w' : World), TRel E 93 (tmpsOf [(4, t)]) a.tmps → HRel E h w' → a.defers = [] → Below w.heap.size w w' → bodyPostM (FW none) 0 Tryz.prog Tryz.f3 (P3 w) .ret a w' := fun E h a w' tr hr hd hb =>
    body_ret .ret (.inr rfl) hd (by rw [ntm]; exact tr) hr (res3 h) fun u hu => ⟨by simp only [VRel] at hu; rw [hu], hb⟩
  have hd4 : (a3.put (some 17) (.bool b)).defers = [] := by rw [put_defers]; exact hd3
  cases b
  · have tr4 := put_ok (n := 93) (ts := s0.ts') (ts' := sN.ts) (d := 17) (v := f) (by decide) (by decide +kernel) tr3 (u := .bool false) (by simp only [f, VRel])
    have hN := segK_ok follows noHook_ok (by decide) 2 (cut_all ops3 2 6) sN_run
    rw [lenN] at hN
    rw [← List.append_nil (List.range' 2 6)]
    refine hN [] E3 0 _ w4 _ tr4 hr4 fun E5 a5 w5 f5 tr5 hr5 hd5 => ?_
    have st5 := st4.step f5
    rw [hd4] at hd5
    refine pieceK_ok follows noHook_ok (by decide) pT_run E5 0 a5 w5 _ tr5 hr5 hd5 fun E6 a6 w6 f6 tr6 hr6 hd6 => ?_
    exact fin E6 _ a6 w6 tr6 hr6 hd6 (st5.step f6).1
  · have tr4 := put_ok (n := 93) (ts := s0.ts') (ts' := sY.ts) (d := 17) (v := t) (by decide) (by decide +kernel) tr3 (u := .bool true) (by simp only [t, VRel])
    have hY := segK_ok follows noHook_ok (by decide) 2 (cut_all ops3 2 3) sY_run
    rw [lenY] at hY
    rw [range26]
    refine hY _ E3 0 _ w4 _ tr4 hr4 fun E5 a5 w5 f5 tr5 hr5 hd5 => ?_
    have st5 := st4.step f5
    rw [hd4] at hd5
    clear tr4 hY f5 hr4 st4 hd4 tr3 hd3
    obtain ⟨o, c, ho, hop, hcal, hargs, hdst, hgu⟩ := o5_is
    refine ops_do ho (wantedA_ok (b := true) tr5 (by unfold wantedA; rw [hgu]; kernel_rfl)) ?_
    have hv : a5.eval (.tmp 20) = .agg #[q 8, q 9, q 10, q 11, q 12, q 13, q 14, q 15] := by
      have h1 : VRel E5 (g cb) (a5.eval (.tmp 20)) := evA_rel (by kernel_rfl) tr5
      have h2 := VRel_opqs (is := [8, 9, 10, 11, 12, 13, 14, 15]) h1
      rw [st5.2.2] at h2
      exact h2
    refine call_go hop hcal call5 (us := [.agg #[q 8, q 9, q 10, q 11, q 12, q 13, q 14, q 15]]) (by rw [hargs]; simp [hv]) ((callsIn_wide (n := 0 - 1)).2 (F1 w5 st5.1)) ?_
    rintro e w6 ⟨b, rfl, hb6⟩
    refine ⟨_, rfl, ?_⟩
    obtain ⟨hr6, f6⟩ := hr5.kept hb6
    have st6 := st5.step f6
    rw [hdst]
    clear o c ho hop hcal hargs hdst hgu hv hr5 st5 f6 hb6
    have hd6 : (a5.put (some 21) (.bool b)).defers = [] := by rw [put_defers]; exact hd5
    have tr6 : TRel E5 93 (tmpsOf (sE b).ts) (a5.put (some 21) (.bool b)).tmps := by
      cases b
      · exact put_ok (n := 93) (ts := sY.ts') (ts' := (sE false).ts) (d := 21) (v := f) (by decide) (by decide +kernel) tr5 (u := .bool false) (by simp only [f, VRel])
      · exact put_ok (n := 93) (ts := sY.ts') (ts' := (sE true).ts) (d := 21) (v := t) (by decide) (by decide +kernel) tr5 (u := .bool true) (by simp only [t, VRel])
    have hE := segK_ok follows noHook_ok (by decide) 6 (cut_all ops3 6 2) (sE_run b)
    rw [lenE] at hE
    rw [← List.append_nil (List.range' 6 2)]
    refine hE [] E5 0 _ w6 _ tr6 hr6 fun E7 a7 w7 f7 tr7 hr7 hd7 => ?_
    have st7 := st6.step f7
    rw [hd6] at hd7
    cases b
    · refine pieceK_ok follows noHook_ok (by decide) pT_run E7 0 a7 w7 _ tr7 hr7 hd7 fun E8 a8 w8 f8 tr8 hr8 hd8 => ?_
      exact fin E8 _ a8 w8 tr8 hr8 hd8 (st7.step f8).1
    · refine pieceK_ok follows noHook_ok (by decide) pF_run E7 0 a7 w7 _ tr7 hr7 hd7 fun E8 a8 w8 f8 tr8 hr8 hd8 => ?_
      have st8 := st7.step f8
      refine pieceK_ok follows hkN_ok (by decide) pRest_run E8 0 a8 w8 _ tr8 hr8 hd8 fun E9 a9 w9 f9 tr9 hr9 hd9 => ?_
      exact fin E9 _ a9 w9 tr9 hr9 hd9 (st8.step f9).1
#print axioms law_any
end
end Go.Ax
