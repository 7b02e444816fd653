/- ClusterLossy: the law's body in parts, and what is to be shown of it for each share that is lost. -/
import Derived.Test.YtdoeocanfmkaeaaGreatDoorHdB7
import Derived.Test.YtdoeocanfmkaeaaGreatDoorAxRun
import Derived.Test.YtdoeocanfmkaeaaGreatDoorClTa
import Derived.Test.YtdoeocanfmkaeaaGreatDoorClTb
import Derived.Test.YtdoeocanfmkaeaaGreatDoorClTc
set_option linter.unusedVariables false
set_option linter.unusedSimpArgs false
set_option linter.unusedSectionVars false
set_option linter.unnecessarySimpa false
namespace Go.Ax
open Go.Proofs Go.RowKit W
set_option maxRecDepth 100000
set_option maxHeartbeats 16000000
section
noncomputable def body3 : Code := match Tryz.f3.body with | some c => c | none => .skip
noncomputable def tl (k : Nat) : Code := Nat.rec body3 (fun _ c => seqR c) k
noncomputable def cR0 : Code := seqL (tl 0)
noncomputable def cB : Code := seqL (tl 1)
noncomputable def ops3 : Array Oper := opsOf (seqL (tl 2))
noncomputable def ops4 : Array Oper := opsOf (seqL (tl 3))
noncomputable def cR5 : Code := seqL (tl 4)
noncomputable def cR6 : Code := seqL (tl 5)
noncomputable def cC7 : Code := seqL (tl 6)
noncomputable def cR9 : Code := seqL (tl 7)
noncomputable def cR10 : Code := seqL (tl 8)
noncomputable def cR11 : Code := seqL (seqL (tl 9))
noncomputable def cBlk : Code := seqR (seqL (tl 9))
noncomputable def cRest : Code := tl 10
noncomputable def blkOf : Code → Code
  | .block _ c => c
  | c => c
noncomputable def lpOf : Code → Code
  | .loop c => c
  | c => c
noncomputable def cLp : Code := lpOf (blkOf cBlk)
noncomputable def ops12 : Array Oper := opsOf (seqL (seqL cLp))
noncomputable def o12 : Oper := (ops12[2]?).getD { dst := none, op := .move (.tmp 0), type := 0, pos := "", after := #[], guard := none }
noncomputable def lp : Lp := { ops := ops12, pre := ops12.toList.take 2, x := 36, y := 37, z := 38, o := o12, body := seqR cLp, rest := cRest }
theorem body3_eq : Tryz.f3.body = some (.seq cR0 (.seq cB (.seq (.region 3 ops3 false) (.seq (.region 4 ops4 false) (.seq cR5 (.seq cR6 (.seq cC7 (.seq cR9 (.seq cR10 (.seq (.seq cR11 (.block 0 (.loop cLp))) cRest)))))))))) := by kernel_rfl
theorem lp_ok : lp.OK 12 0 cLp where
  code := by kernel_rfl
  ops := by kernel_rfl
  cmp := ⟨3, 3, by kernel_rfl⟩
  dst := by kernel_rfl
  guard := by kernel_rfl
  zle := by decide
theorem ntm3 : Tryz.f3.ntmps = 68 := by kernel_rfl
theorem res3 : Tryz.f3.results.toList = [.tmp 4] := by kernel_rfl

noncomputable def t01 : List (Nat × AV) := [(0, .opq 0), (1, .opq 1)]
noncomputable def hkH : Hook := stayK HdBk73.f true
theorem hkH_ok : HookOK Tryz.prog hkH := stayK_ok HdBk73_ok rfl rfl rfl
noncomputable def pR0 : Piece := { c := cR0, ts := t01, nx := 1, pre := [], x := .normal, ts' := t01, nx' := 1, post := [] }
theorem pR0_run : pieceK Tryz.prog noHook 5 68 pR0 = true := by decide +kernel
noncomputable def pB : Piece := { c := cB, ts := t01, nx := 1, pre := [], x := .normal, ts' := t01, nx' := 1, post := [] }
theorem pB_run : pieceK Tryz.prog hkH 5 68 pB = true := by decide +kernel
noncomputable def cut (ops : Array Oper) (k n : Nat) : List Oper := (ops.toList.drop k).take n
noncomputable def s3a : Seg := { ops := cut ops3 0 1, ts := t01, nx := 1, pre := [], ts' := (15, .opq 0) :: [(1, .opq 1)], nx' := 1, post := [] }
theorem s3a_run : segK Tryz.prog noHook 5 68 ops3 s3a = true := by decide +kernel
noncomputable def s3b (r : Nat) : Seg := { ops := cut ops3 2 1, ts := (16, i r) :: [(1, .opq 1)], nx := 1, pre := [], ts' := [(0, i r), (1, .opq 1)], nx' := 1, post := [] }
theorem s3b_run : ((List.range 8).all fun r => segK Tryz.prog noHook 5 68 ops3 (s3b r)) = true := by decide +kernel
noncomputable def s4a (r : Nat) : Seg := { ops := cut ops4 0 1, ts := [(0, i r), (1, .opq 1)], nx := 1, pre := [], ts' := (17, .opq 1) :: [(0, i r)], nx' := 1, post := [] }
theorem s4a_run : ((List.range 8).all fun r => segK Tryz.prog noHook 5 68 ops4 (s4a r)) = true := by decide +kernel
noncomputable def s4b (r : Nat) : Seg := { ops := cut ops4 2 1, ts := (18, .opq 2) :: [(0, i r)], nx := 1, pre := [], ts' := [(0, i r), (1, .opq 2)], nx' := 1, post := [] }
theorem s4b_run : ((List.range 8).all fun r => segK Tryz.prog noHook 5 68 ops4 (s4b r)) = true := by decide +kernel
noncomputable def put16 (r : Nat) : Bool := tputK 68 (tmpsOf [(15, .opq 0), (1, .opq 1)]) (some 16) (i r) fun T => hasT [(16, i r), (1, .opq 1)] T
theorem put16_run : ((List.range 8).all fun r => put16 r) = true := by decide +kernel
noncomputable def put18 (r : Nat) : Bool := tputK 68 (tmpsOf [(17, .opq 1), (0, i r)]) (some 18) (.opq 2) fun T => hasT [(18, .opq 2), (0, i r)] T
theorem put18_run : ((List.range 8).all fun r => put18 r) = true := by decide +kernel
theorem o3_is : ∃ o, ops3[1]? = some o ∧ o.op = .binOp .and 3 (.tmp 15) (.const (.int .i64 (.ofNat 7))) 3 ∧ o.dst = some 16 ∧ o.guard = none := ⟨_, rfl, rfl, rfl, rfl⟩
theorem o4_is : ∃ o, ops4[1]? = some o ∧ o.op = .binOp .and 3 (.tmp 17) (.const (.int .i64 (.ofNat 31))) 3 ∧ o.dst = some 18 ∧ o.guard = none := ⟨_, rfl, rfl, rfl, rfl⟩
noncomputable def hkT : Hook := orK (midK ClTm0) (orK (midK ClTm1) (orK (midK ClTm2) (orK (midK ClTm3) (orK (midK ClTm4) (orK (midK ClTm5) (orK (midK ClTm6) (orK (midK ClTm7) (
  orK (midK ClTm8) (orK (midK ClTm9) (orK (midK ClTm10) (orK (midK ClTm11) (orK (midK ClTm12) (orK (midK ClTm13) (orK (midK ClTm14) (orK (midK ClTm15) (
  orK (midK ClTm16) (orK (midK ClTm17) (orK (midK ClTm18) (orK (midK ClTm19) (orK (midK ClTm20) (orK (midK ClTm21) (orK (midK ClTm22) (orK (midK ClTm23) (
  orK (midK ClTm24) (orK (midK ClTm25) (orK (midK ClTm26) (orK (midK ClTm27) (orK (midK ClTm28) (orK (midK ClTm29) (orK (midK ClTm30) (orK (midK ClTm31) (
  orK (midK ClTm32) (orK (midK ClTm33) (orK (midK ClTm34) (orK (midK ClTm35) (orK (midK ClTm36) (orK (midK ClTm37) (orK (midK ClTm38) (orK (midK ClTm39) (
  orK (midK ClTm40) (orK (midK ClTm41) (orK (midK ClTm42) (orK (midK ClTm43) (orK (midK ClTm44) (orK (midK ClTm45) (orK (midK ClTm46) (orK (midK ClTm47) (
  orK (midK ClTm48) (orK (midK ClTm49) (orK (midK ClTm50) (orK (midK ClTm51) (orK (midK ClTm52) (orK (midK ClTm53) (orK (midK ClTm54) (orK (midK ClTm55) (
  orK (midK ClTm56) (orK (midK ClTm57) (orK (midK ClTm58) (orK (midK ClTm59) (orK (midK ClTm60) (orK (midK ClTm61) (orK (midK ClTm62) (orK (midK ClTm63) (
  orK (midK ClTm64) (orK (midK ClTm65) (orK (midK ClTm66) (orK (midK ClTm67) (orK (midK ClTm68) (orK (midK ClTm69) (orK (midK ClTm70) (orK (midK ClTm71) (
  orK (midK ClTm72) (orK (midK ClTm73) (orK (midK ClTm74) (orK (midK ClTm75) (orK (midK ClTm76) (orK (midK ClTm77) (orK (midK ClTm78) (orK (midK ClTm79) (
  orK (midK ClTm80) (orK (midK ClTm81) (orK (midK ClTm82) (orK (midK ClTm83) (orK (midK ClTm84) (orK (midK ClTm85) (orK (midK ClTm86) (orK (midK ClTm87) (
  orK (midK ClTm88) (orK (midK ClTm89) (orK (midK ClTm90) (orK (midK ClTm91) (orK (midK ClTm92) (orK (midK ClTm93) (orK (midK ClTm94) (orK (midK ClTm95) (
  orK (midK ClTm96) (orK (midK ClTm97) (orK (midK ClTm98) (orK (midK ClTm99) (orK (midK ClTm100) (orK (midK ClTm101) (orK (midK ClTm102) (orK (midK ClTm103) (
  orK (midK ClTm104) (orK (midK ClTm105) (orK (midK ClTm106) (orK (midK ClTm107) (orK (midK ClTm108) (orK (midK ClTm109) (orK (midK ClTm110) (orK (midK ClTm111) (
  orK (midK ClTm112) (orK (midK ClTm113) (orK (midK ClTm114) (orK (midK ClTm115) (orK (midK ClTm116) (orK (midK ClTm117) (orK (midK ClTm118) (orK (midK ClTm119) (
  orK (midK ClTm120) (orK (midK ClTm121) (orK (midK ClTm122) (orK (midK ClTm123) (orK (midK ClTm124) (orK (midK ClTm125) (orK (midK ClTm126) (orK (midK ClTm127) (
  orK (midK ClTm128) (orK (midK ClTm129) (orK (midK ClTm130) (orK (midK ClTm131) (orK (midK ClTm132) (orK (midK ClTm133) (orK (midK ClTm134) (orK (midK ClTm135) (
  orK (midK ClTm136) (orK (midK ClTm137) (orK (midK ClTm138) (orK (midK ClTm139) (orK (midK ClTm140) (orK (midK ClTm141) (orK (midK ClTm142) (orK (midK ClTm143) (
  orK (midK ClTm144) (orK (midK ClTm145) (orK (midK ClTm146) (orK (midK ClTm147) (orK (midK ClTm148) (orK (midK ClTm149) (orK (midK ClTm150) (orK (midK ClTm151) (
  orK (midK ClTm152) (orK (midK ClTm153) (orK (midK ClTm154) (orK (midK ClTm155) (orK (midK ClTm156) (orK (midK ClTm157) (orK (midK ClTm158) (orK (midK ClTm159) (
  orK (midK ClTm160) (orK (midK ClTm161) (orK (midK ClTm162) (orK (midK ClTm163) (orK (midK ClTm164) (orK (midK ClTm165) (orK (midK ClTm166) (orK (midK ClTm167) (
  orK (midK ClTm168) (orK (midK ClTm169) (orK (midK ClTm170) (orK (midK ClTm171) (orK (midK ClTm172) (orK (midK ClTm173) (orK (midK ClTm174) (orK (midK ClTm175) (
  orK (midK ClTm176) (orK (midK ClTm177) (orK (midK ClTm178) (orK (midK ClTm179) (orK (midK ClTm180) (orK (midK ClTm181) (orK (midK ClTm182) (orK (midK ClTm183) (
  orK (midK ClTm184) (orK (midK ClTm185) (orK (midK ClTm186) (orK (midK ClTm187) (orK (midK ClTm188) (orK (midK ClTm189) (orK (midK ClTm190) (midK ClTm191)))))))))))))))))))))))))))))))))))))))))))))))))))))))))))))))))))))))))))))))))))))))))))))))))))))))))))))))))))))))))))))))))))))))))))))))))))))))))))))))))))))))))))))))))))))))))))))))
theorem hkT_ok : HookOK Tryz.prog hkT := orK_ok (midK_ok ClTm0_ok ClTm0_fit) (orK_ok (midK_ok ClTm1_ok ClTm1_fit) (orK_ok (midK_ok ClTm2_ok ClTm2_fit) (orK_ok (midK_ok ClTm3_ok ClTm3_fit) (orK_ok (midK_ok ClTm4_ok ClTm4_fit) (orK_ok (midK_ok ClTm5_ok ClTm5_fit) (
  orK_ok (midK_ok ClTm6_ok ClTm6_fit) (orK_ok (midK_ok ClTm7_ok ClTm7_fit) (orK_ok (midK_ok ClTm8_ok ClTm8_fit) (orK_ok (midK_ok ClTm9_ok ClTm9_fit) (orK_ok (midK_ok ClTm10_ok ClTm10_fit) (orK_ok (midK_ok ClTm11_ok ClTm11_fit) (
  orK_ok (midK_ok ClTm12_ok ClTm12_fit) (orK_ok (midK_ok ClTm13_ok ClTm13_fit) (orK_ok (midK_ok ClTm14_ok ClTm14_fit) (orK_ok (midK_ok ClTm15_ok ClTm15_fit) (orK_ok (midK_ok ClTm16_ok ClTm16_fit) (orK_ok (midK_ok ClTm17_ok ClTm17_fit) (
  orK_ok (midK_ok ClTm18_ok ClTm18_fit) (orK_ok (midK_ok ClTm19_ok ClTm19_fit) (orK_ok (midK_ok ClTm20_ok ClTm20_fit) (orK_ok (midK_ok ClTm21_ok ClTm21_fit) (orK_ok (midK_ok ClTm22_ok ClTm22_fit) (orK_ok (midK_ok ClTm23_ok ClTm23_fit) (
  orK_ok (midK_ok ClTm24_ok ClTm24_fit) (orK_ok (midK_ok ClTm25_ok ClTm25_fit) (orK_ok (midK_ok ClTm26_ok ClTm26_fit) (orK_ok (midK_ok ClTm27_ok ClTm27_fit) (orK_ok (midK_ok ClTm28_ok ClTm28_fit) (orK_ok (midK_ok ClTm29_ok ClTm29_fit) (
  orK_ok (midK_ok ClTm30_ok ClTm30_fit) (orK_ok (midK_ok ClTm31_ok ClTm31_fit) (orK_ok (midK_ok ClTm32_ok ClTm32_fit) (orK_ok (midK_ok ClTm33_ok ClTm33_fit) (orK_ok (midK_ok ClTm34_ok ClTm34_fit) (orK_ok (midK_ok ClTm35_ok ClTm35_fit) (
  orK_ok (midK_ok ClTm36_ok ClTm36_fit) (orK_ok (midK_ok ClTm37_ok ClTm37_fit) (orK_ok (midK_ok ClTm38_ok ClTm38_fit) (orK_ok (midK_ok ClTm39_ok ClTm39_fit) (orK_ok (midK_ok ClTm40_ok ClTm40_fit) (orK_ok (midK_ok ClTm41_ok ClTm41_fit) (
  orK_ok (midK_ok ClTm42_ok ClTm42_fit) (orK_ok (midK_ok ClTm43_ok ClTm43_fit) (orK_ok (midK_ok ClTm44_ok ClTm44_fit) (orK_ok (midK_ok ClTm45_ok ClTm45_fit) (orK_ok (midK_ok ClTm46_ok ClTm46_fit) (orK_ok (midK_ok ClTm47_ok ClTm47_fit) (
  orK_ok (midK_ok ClTm48_ok ClTm48_fit) (orK_ok (midK_ok ClTm49_ok ClTm49_fit) (orK_ok (midK_ok ClTm50_ok ClTm50_fit) (orK_ok (midK_ok ClTm51_ok ClTm51_fit) (orK_ok (midK_ok ClTm52_ok ClTm52_fit) (orK_ok (midK_ok ClTm53_ok ClTm53_fit) (
  orK_ok (midK_ok ClTm54_ok ClTm54_fit) (orK_ok (midK_ok ClTm55_ok ClTm55_fit) (orK_ok (midK_ok ClTm56_ok ClTm56_fit) (orK_ok (midK_ok ClTm57_ok ClTm57_fit) (orK_ok (midK_ok ClTm58_ok ClTm58_fit) (orK_ok (midK_ok ClTm59_ok ClTm59_fit) (
  orK_ok (midK_ok ClTm60_ok ClTm60_fit) (orK_ok (midK_ok ClTm61_ok ClTm61_fit) (orK_ok (midK_ok ClTm62_ok ClTm62_fit) (orK_ok (midK_ok ClTm63_ok ClTm63_fit) (orK_ok (midK_ok ClTm64_ok ClTm64_fit) (orK_ok (midK_ok ClTm65_ok ClTm65_fit) (
  orK_ok (midK_ok ClTm66_ok ClTm66_fit) (orK_ok (midK_ok ClTm67_ok ClTm67_fit) (orK_ok (midK_ok ClTm68_ok ClTm68_fit) (orK_ok (midK_ok ClTm69_ok ClTm69_fit) (orK_ok (midK_ok ClTm70_ok ClTm70_fit) (orK_ok (midK_ok ClTm71_ok ClTm71_fit) (
  orK_ok (midK_ok ClTm72_ok ClTm72_fit) (orK_ok (midK_ok ClTm73_ok ClTm73_fit) (orK_ok (midK_ok ClTm74_ok ClTm74_fit) (orK_ok (midK_ok ClTm75_ok ClTm75_fit) (orK_ok (midK_ok ClTm76_ok ClTm76_fit) (orK_ok (midK_ok ClTm77_ok ClTm77_fit) (
  orK_ok (midK_ok ClTm78_ok ClTm78_fit) (orK_ok (midK_ok ClTm79_ok ClTm79_fit) (orK_ok (midK_ok ClTm80_ok ClTm80_fit) (orK_ok (midK_ok ClTm81_ok ClTm81_fit) (orK_ok (midK_ok ClTm82_ok ClTm82_fit) (orK_ok (midK_ok ClTm83_ok ClTm83_fit) (
  orK_ok (midK_ok ClTm84_ok ClTm84_fit) (orK_ok (midK_ok ClTm85_ok ClTm85_fit) (orK_ok (midK_ok ClTm86_ok ClTm86_fit) (orK_ok (midK_ok ClTm87_ok ClTm87_fit) (orK_ok (midK_ok ClTm88_ok ClTm88_fit) (orK_ok (midK_ok ClTm89_ok ClTm89_fit) (
  orK_ok (midK_ok ClTm90_ok ClTm90_fit) (orK_ok (midK_ok ClTm91_ok ClTm91_fit) (orK_ok (midK_ok ClTm92_ok ClTm92_fit) (orK_ok (midK_ok ClTm93_ok ClTm93_fit) (orK_ok (midK_ok ClTm94_ok ClTm94_fit) (orK_ok (midK_ok ClTm95_ok ClTm95_fit) (
  orK_ok (midK_ok ClTm96_ok ClTm96_fit) (orK_ok (midK_ok ClTm97_ok ClTm97_fit) (orK_ok (midK_ok ClTm98_ok ClTm98_fit) (orK_ok (midK_ok ClTm99_ok ClTm99_fit) (orK_ok (midK_ok ClTm100_ok ClTm100_fit) (orK_ok (midK_ok ClTm101_ok ClTm101_fit) (
  orK_ok (midK_ok ClTm102_ok ClTm102_fit) (orK_ok (midK_ok ClTm103_ok ClTm103_fit) (orK_ok (midK_ok ClTm104_ok ClTm104_fit) (orK_ok (midK_ok ClTm105_ok ClTm105_fit) (orK_ok (midK_ok ClTm106_ok ClTm106_fit) (orK_ok (midK_ok ClTm107_ok ClTm107_fit) (
  orK_ok (midK_ok ClTm108_ok ClTm108_fit) (orK_ok (midK_ok ClTm109_ok ClTm109_fit) (orK_ok (midK_ok ClTm110_ok ClTm110_fit) (orK_ok (midK_ok ClTm111_ok ClTm111_fit) (orK_ok (midK_ok ClTm112_ok ClTm112_fit) (orK_ok (midK_ok ClTm113_ok ClTm113_fit) (
  orK_ok (midK_ok ClTm114_ok ClTm114_fit) (orK_ok (midK_ok ClTm115_ok ClTm115_fit) (orK_ok (midK_ok ClTm116_ok ClTm116_fit) (orK_ok (midK_ok ClTm117_ok ClTm117_fit) (orK_ok (midK_ok ClTm118_ok ClTm118_fit) (orK_ok (midK_ok ClTm119_ok ClTm119_fit) (
  orK_ok (midK_ok ClTm120_ok ClTm120_fit) (orK_ok (midK_ok ClTm121_ok ClTm121_fit) (orK_ok (midK_ok ClTm122_ok ClTm122_fit) (orK_ok (midK_ok ClTm123_ok ClTm123_fit) (orK_ok (midK_ok ClTm124_ok ClTm124_fit) (orK_ok (midK_ok ClTm125_ok ClTm125_fit) (
  orK_ok (midK_ok ClTm126_ok ClTm126_fit) (orK_ok (midK_ok ClTm127_ok ClTm127_fit) (orK_ok (midK_ok ClTm128_ok ClTm128_fit) (orK_ok (midK_ok ClTm129_ok ClTm129_fit) (orK_ok (midK_ok ClTm130_ok ClTm130_fit) (orK_ok (midK_ok ClTm131_ok ClTm131_fit) (
  orK_ok (midK_ok ClTm132_ok ClTm132_fit) (orK_ok (midK_ok ClTm133_ok ClTm133_fit) (orK_ok (midK_ok ClTm134_ok ClTm134_fit) (orK_ok (midK_ok ClTm135_ok ClTm135_fit) (orK_ok (midK_ok ClTm136_ok ClTm136_fit) (orK_ok (midK_ok ClTm137_ok ClTm137_fit) (
  orK_ok (midK_ok ClTm138_ok ClTm138_fit) (orK_ok (midK_ok ClTm139_ok ClTm139_fit) (orK_ok (midK_ok ClTm140_ok ClTm140_fit) (orK_ok (midK_ok ClTm141_ok ClTm141_fit) (orK_ok (midK_ok ClTm142_ok ClTm142_fit) (orK_ok (midK_ok ClTm143_ok ClTm143_fit) (
  orK_ok (midK_ok ClTm144_ok ClTm144_fit) (orK_ok (midK_ok ClTm145_ok ClTm145_fit) (orK_ok (midK_ok ClTm146_ok ClTm146_fit) (orK_ok (midK_ok ClTm147_ok ClTm147_fit) (orK_ok (midK_ok ClTm148_ok ClTm148_fit) (orK_ok (midK_ok ClTm149_ok ClTm149_fit) (
  orK_ok (midK_ok ClTm150_ok ClTm150_fit) (orK_ok (midK_ok ClTm151_ok ClTm151_fit) (orK_ok (midK_ok ClTm152_ok ClTm152_fit) (orK_ok (midK_ok ClTm153_ok ClTm153_fit) (orK_ok (midK_ok ClTm154_ok ClTm154_fit) (orK_ok (midK_ok ClTm155_ok ClTm155_fit) (
  orK_ok (midK_ok ClTm156_ok ClTm156_fit) (orK_ok (midK_ok ClTm157_ok ClTm157_fit) (orK_ok (midK_ok ClTm158_ok ClTm158_fit) (orK_ok (midK_ok ClTm159_ok ClTm159_fit) (orK_ok (midK_ok ClTm160_ok ClTm160_fit) (orK_ok (midK_ok ClTm161_ok ClTm161_fit) (
  orK_ok (midK_ok ClTm162_ok ClTm162_fit) (orK_ok (midK_ok ClTm163_ok ClTm163_fit) (orK_ok (midK_ok ClTm164_ok ClTm164_fit) (orK_ok (midK_ok ClTm165_ok ClTm165_fit) (orK_ok (midK_ok ClTm166_ok ClTm166_fit) (orK_ok (midK_ok ClTm167_ok ClTm167_fit) (
  orK_ok (midK_ok ClTm168_ok ClTm168_fit) (orK_ok (midK_ok ClTm169_ok ClTm169_fit) (orK_ok (midK_ok ClTm170_ok ClTm170_fit) (orK_ok (midK_ok ClTm171_ok ClTm171_fit) (orK_ok (midK_ok ClTm172_ok ClTm172_fit) (orK_ok (midK_ok ClTm173_ok ClTm173_fit) (
  orK_ok (midK_ok ClTm174_ok ClTm174_fit) (orK_ok (midK_ok ClTm175_ok ClTm175_fit) (orK_ok (midK_ok ClTm176_ok ClTm176_fit) (orK_ok (midK_ok ClTm177_ok ClTm177_fit) (orK_ok (midK_ok ClTm178_ok ClTm178_fit) (orK_ok (midK_ok ClTm179_ok ClTm179_fit) (
  orK_ok (midK_ok ClTm180_ok ClTm180_fit) (orK_ok (midK_ok ClTm181_ok ClTm181_fit) (orK_ok (midK_ok ClTm182_ok ClTm182_fit) (orK_ok (midK_ok ClTm183_ok ClTm183_fit) (orK_ok (midK_ok ClTm184_ok ClTm184_fit) (orK_ok (midK_ok ClTm185_ok ClTm185_fit) (
  orK_ok (midK_ok ClTm186_ok ClTm186_fit) (orK_ok (midK_ok ClTm187_ok ClTm187_fit) (orK_ok (midK_ok ClTm188_ok ClTm188_fit) (orK_ok (midK_ok ClTm189_ok ClTm189_fit) (orK_ok (midK_ok ClTm190_ok ClTm190_fit) (midK_ok ClTm191_ok ClTm191_fit)))))))))))))))))))))))))))))))))))))))))))))))))))))))))))))))))))))))))))))))))))))))))))))))))))))))))))))))))))))))))))))))))))))))))))))))))))))))))))))))))))))))))))))))))))))))))))))))
/-- The rest, for one share. -/
noncomputable def okL (r : Nat) : Bool := pieceK.fTs [(0, i r), (1, .opq 2)] .nil fun T => fNat 1 fun nx =>
  goK Tryz.prog hkT 60 68 cR5 T ⟨.nil, nx⟩ fun T h => goK Tryz.prog hkT 60 68 cR6 T h fun T h => goK Tryz.prog hkT 60 68 cC7 T h fun T h => goK Tryz.prog hkT 60 68 cR9 T h fun T h =>
  goK Tryz.prog hkT 60 68 cR10 T h fun T h => goK Tryz.prog hkT 60 68 cR11 T h fun T h => headsK Tryz.prog hkT 60 68 lp 2 [.tmp 4] t 31 0 T h
end
end Go.Ax
