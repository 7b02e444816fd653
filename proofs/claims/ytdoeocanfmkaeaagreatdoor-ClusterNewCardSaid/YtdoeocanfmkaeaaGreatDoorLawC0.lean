/- ClusterNew: the law's body in parts, the parts ahead of the cluster, and what is to be shown of the rest. -/
import Derived.Test.YtdoeocanfmkaeaaGreatDoorHdB7
import Derived.Test.YtdoeocanfmkaeaaGreatDoorCnO1
import Derived.Test.YtdoeocanfmkaeaaGreatDoorCnO2
import Derived.Test.YtdoeocanfmkaeaaGreatDoorCnO3
import Derived.Test.YtdoeocanfmkaeaaGreatDoorCnO4
set_option linter.unusedVariables false
set_option linter.unusedSimpArgs false
set_option linter.unusedSectionVars false
set_option linter.unnecessarySimpa false
namespace Go.Ax
open Go.Proofs Go.RowKit W
set_option maxRecDepth 100000
set_option maxHeartbeats 16000000
section
noncomputable def body4 : Code := match Tryz.f4.body with | some c => c | none => .skip
noncomputable def cR0 : Code := seqL body4
noncomputable def cB : Code := seqL (seqR body4)
noncomputable def cR3 : Code := seqL (seqR (seqR body4))
noncomputable def cR4 : Code := seqL (seqR (seqR (seqR body4)))
noncomputable def cRest : Code := seqR (seqR (seqR (seqR body4)))
noncomputable def ops3 : Array Oper := opsOf cR3
noncomputable def ops4 : Array Oper := opsOf cR4
theorem body4_eq : Tryz.f4.body = some (.seq cR0 (.seq cB (.seq (.region 3 ops3 false) (.seq (.region 4 ops4 false) cRest)))) := by kernel_rfl
theorem ntm : Tryz.f4.ntmps = 170 := by kernel_rfl
theorem res4 : Tryz.f4.results.toList = [.tmp 4] := by kernel_rfl

noncomputable def t01 : List (Nat × AV) := [(0, .opq 0), (1, .opq 1)]
/-- A number, less another one. -/
noncomputable def nv (k s : Nat) : AV := bif Nat.ble s k then i (k - s) else j (s - k - 1)
noncomputable def tsC (r c : Nat) : List (Nat × AV) := [(0, nv r 2), (1, nv c 4)]

noncomputable def hkH : Hook := stayK HdBk73.f true
theorem hkH_ok : HookOK Tryz.prog hkH := stayK_ok HdBk73_ok rfl rfl rfl
noncomputable def pR0 : Piece := { c := cR0, ts := t01, nx := 1, pre := [], x := .normal, ts' := t01, nx' := 1, post := [] }
theorem pR0_run : pieceK Tryz.prog noHook 5 170 pR0 = true := by decide +kernel
noncomputable def pB : Piece := { c := cB, ts := t01, nx := 1, pre := [], x := .normal, ts' := t01, nx' := 1, post := [] }
theorem pB_run : pieceK Tryz.prog hkH 5 170 pB = true := by decide +kernel
noncomputable def cut (ops : Array Oper) (k n : Nat) : List Oper := (ops.toList.drop k).take n
noncomputable def s3a : Seg := { ops := cut ops3 0 1, ts := t01, nx := 1, pre := [], ts' := (13, .opq 0) :: [(1, .opq 1)], nx' := 1, post := [] }
theorem s3a_run : segK Tryz.prog noHook 5 170 ops3 s3a = true := by decide +kernel
noncomputable def s3b (r : Nat) : Seg := { ops := cut ops3 2 2, ts := (14, i r) :: [(1, .opq 1)], nx := 1, pre := [], ts' := [(0, nv r 2), (1, .opq 1)], nx' := 1, post := [] }
theorem s3b_run : ((List.range 16).all fun r => segK Tryz.prog noHook 5 170 ops3 (s3b r)) = true := by decide +kernel
noncomputable def s4a (r : Nat) : Seg := { ops := cut ops4 0 1, ts := [(0, nv r 2), (1, .opq 1)], nx := 1, pre := [], ts' := (16, .opq 1) :: [(0, nv r 2)], nx' := 1, post := [] }
theorem s4a_run : ((List.range 16).all fun r => segK Tryz.prog noHook 5 170 ops4 (s4a r)) = true := by decide +kernel
noncomputable def s4b (r c : Nat) : Seg := { ops := cut ops4 2 2, ts := (17, i c) :: [(0, nv r 2)], nx := 1, pre := [], ts' := tsC r c, nx' := 1, post := [] }
theorem s4b_run : ((List.range 16).all fun r => (List.range 32).all fun c => segK Tryz.prog noHook 5 170 ops4 (s4b r c)) = true := by decide +kernel
noncomputable def put14 (r : Nat) : Bool := tputK 170 (tmpsOf [(13, .opq 0), (1, .opq 1)]) (some 14) (i r) fun T => hasT [(14, i r), (1, .opq 1)] T
theorem put14_run : ((List.range 16).all fun r => put14 r) = true := by decide +kernel
noncomputable def put17 (r c : Nat) : Bool := tputK 170 (tmpsOf [(16, .opq 1), (0, nv r 2)]) (some 17) (i c) fun T => hasT [(17, i c), (0, nv r 2)] T
theorem put17_run : ((List.range 16).all fun r => (List.range 32).all fun c => put17 r c) = true := by decide +kernel
theorem o3_is : ∃ o, ops3[1]? = some o ∧ o.op = .binOp .and 3 (.tmp 13) (.const (.int .i64 (.ofNat 15))) 3 ∧ o.dst = some 14 ∧ o.guard = none := ⟨_, rfl, rfl, rfl, rfl⟩
theorem o4_is : ∃ o, ops4[1]? = some o ∧ o.op = .binOp .and 3 (.tmp 16) (.const (.int .i64 (.ofNat 31))) 3 ∧ o.dst = some 17 ∧ o.guard = none := ⟨_, rfl, rfl, rfl, rfl⟩

/-- The rest, for two numbers. -/
noncomputable def okC (hk : Hook) (r c : Nat) : Bool := endK Tryz.prog hk 60 170 cRest (tsC r c) 1 [] [.tmp 4] t
noncomputable def hk3 : Hook := orK (midK CnOm0) (orK (midK CnOm1) (orK (midK CnOm2) (orK (midK CnOm3) (orK (midK CnOm4) (midK CnOm5)))))
theorem hk3_ok : HookOK Tryz.prog hk3 := orK_ok (midK_ok CnOm0_ok CnOm0_fit) (orK_ok (midK_ok CnOm1_ok CnOm1_fit) (orK_ok (midK_ok CnOm2_ok CnOm2_fit) (orK_ok (midK_ok CnOm3_ok CnOm3_fit) (orK_ok (midK_ok CnOm4_ok CnOm4_fit) (midK_ok CnOm5_ok CnOm5_fit)))))
noncomputable def hk5 : Hook := orK (midK CnOm6) (orK (midK CnOm7) (orK (midK CnOm8) (orK (midK CnOm9) (orK (midK CnOm10) (orK (midK CnOm11) (orK (midK CnOm12) (orK (midK CnOm13) (orK (midK CnOm14) (midK CnOm15)))))))))
theorem hk5_ok : HookOK Tryz.prog hk5 := orK_ok (midK_ok CnOm6_ok CnOm6_fit) (orK_ok (midK_ok CnOm7_ok CnOm7_fit) (orK_ok (midK_ok CnOm8_ok CnOm8_fit) (orK_ok (midK_ok CnOm9_ok CnOm9_fit) (orK_ok (midK_ok CnOm10_ok CnOm10_fit) (orK_ok (midK_ok CnOm11_ok CnOm11_fit) (orK_ok (midK_ok CnOm12_ok CnOm12_fit) (orK_ok (midK_ok CnOm13_ok CnOm13_fit) (orK_ok (midK_ok CnOm14_ok CnOm14_fit) (midK_ok CnOm15_ok CnOm15_fit)))))))))
noncomputable def hk7 : Hook := orK (midK CnOm16) (orK (midK CnOm17) (orK (midK CnOm18) (orK (midK CnOm19) (orK (midK CnOm20) (orK (midK CnOm21) (orK (midK CnOm22) (orK (midK CnOm23) (orK (midK CnOm24) (orK (midK CnOm25) (orK (midK CnOm26) (orK (midK CnOm27) (orK (midK CnOm28) (midK CnOm29)))))))))))))
theorem hk7_ok : HookOK Tryz.prog hk7 := orK_ok (midK_ok CnOm16_ok CnOm16_fit) (orK_ok (midK_ok CnOm17_ok CnOm17_fit) (orK_ok (midK_ok CnOm18_ok CnOm18_fit) (orK_ok (midK_ok CnOm19_ok CnOm19_fit) (orK_ok (midK_ok CnOm20_ok CnOm20_fit) (orK_ok (midK_ok CnOm21_ok CnOm21_fit) (orK_ok (midK_ok CnOm22_ok CnOm22_fit) (orK_ok (midK_ok CnOm23_ok CnOm23_fit) (orK_ok (midK_ok CnOm24_ok CnOm24_fit) (orK_ok (midK_ok CnOm25_ok CnOm25_fit) (orK_ok (midK_ok CnOm26_ok CnOm26_fit) (orK_ok (midK_ok CnOm27_ok CnOm27_fit) (orK_ok (midK_ok CnOm28_ok CnOm28_fit) (midK_ok CnOm29_ok CnOm29_fit)))))))))))))
end
end Go.Ax
