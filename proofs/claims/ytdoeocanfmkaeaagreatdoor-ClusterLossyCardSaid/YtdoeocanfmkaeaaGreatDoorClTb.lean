/- What functions come to, from what they are handed, by program. -/
import Derived.Test.YtdoeocanfmkaeaaGreatDoorClT0
set_option linter.unusedVariables false
set_option linter.unusedSimpArgs false
set_option linter.unusedSectionVars false
set_option linter.unnecessarySimpa false
namespace Go.Ax
open Go.Proofs W
set_option maxRecDepth 100000
set_option maxHeartbeats 16000000
noncomputable section
theorem ClTm6_run : runK Tryz.prog noHook 60 ClTm6 = true := by decide +kernel
theorem ClTm6_ok : ClTm6.ok Tryz.prog := runK_ok follows noHook_ok ClTm6_run
theorem ClTm6_fit : ClTm6.fit = true := by decide +kernel
theorem ClTm7_run : runK Tryz.prog noHook 60 ClTm7 = true := by decide +kernel
theorem ClTm7_ok : ClTm7.ok Tryz.prog := runK_ok follows noHook_ok ClTm7_run
theorem ClTm7_fit : ClTm7.fit = true := by decide +kernel
theorem ClTm8_run : runK Tryz.prog noHook 60 ClTm8 = true := by decide +kernel
theorem ClTm8_ok : ClTm8.ok Tryz.prog := runK_ok follows noHook_ok ClTm8_run
theorem ClTm8_fit : ClTm8.fit = true := by decide +kernel
theorem ClTm9_run : runK Tryz.prog noHook 60 ClTm9 = true := by decide +kernel
theorem ClTm9_ok : ClTm9.ok Tryz.prog := runK_ok follows noHook_ok ClTm9_run
theorem ClTm9_fit : ClTm9.fit = true := by decide +kernel
theorem ClTm10_run : runK Tryz.prog noHook 60 ClTm10 = true := by decide +kernel
theorem ClTm10_ok : ClTm10.ok Tryz.prog := runK_ok follows noHook_ok ClTm10_run
theorem ClTm10_fit : ClTm10.fit = true := by decide +kernel
theorem ClTm11_run : runK Tryz.prog noHook 60 ClTm11 = true := by decide +kernel
theorem ClTm11_ok : ClTm11.ok Tryz.prog := runK_ok follows noHook_ok ClTm11_run
theorem ClTm11_fit : ClTm11.fit = true := by decide +kernel
theorem ClTm12_run : runK Tryz.prog noHook 60 ClTm12 = true := by decide +kernel
theorem ClTm12_ok : ClTm12.ok Tryz.prog := runK_ok follows noHook_ok ClTm12_run
theorem ClTm12_fit : ClTm12.fit = true := by decide +kernel
theorem ClTm13_run : runK Tryz.prog noHook 60 ClTm13 = true := by decide +kernel
theorem ClTm13_ok : ClTm13.ok Tryz.prog := runK_ok follows noHook_ok ClTm13_run
theorem ClTm13_fit : ClTm13.fit = true := by decide +kernel
theorem ClTm14_run : runK Tryz.prog noHook 60 ClTm14 = true := by decide +kernel
theorem ClTm14_ok : ClTm14.ok Tryz.prog := runK_ok follows noHook_ok ClTm14_run
theorem ClTm14_fit : ClTm14.fit = true := by decide +kernel
theorem ClTm15_run : runK Tryz.prog noHook 60 ClTm15 = true := by decide +kernel
theorem ClTm15_ok : ClTm15.ok Tryz.prog := runK_ok follows noHook_ok ClTm15_run
theorem ClTm15_fit : ClTm15.fit = true := by decide +kernel
theorem ClTm16_run : runK Tryz.prog noHook 60 ClTm16 = true := by decide +kernel
theorem ClTm16_ok : ClTm16.ok Tryz.prog := runK_ok follows noHook_ok ClTm16_run
theorem ClTm16_fit : ClTm16.fit = true := by decide +kernel
theorem ClTm17_run : runK Tryz.prog noHook 60 ClTm17 = true := by decide +kernel
theorem ClTm17_ok : ClTm17.ok Tryz.prog := runK_ok follows noHook_ok ClTm17_run
theorem ClTm17_fit : ClTm17.fit = true := by decide +kernel
theorem ClTm18_run : runK Tryz.prog noHook 60 ClTm18 = true := by decide +kernel
theorem ClTm18_ok : ClTm18.ok Tryz.prog := runK_ok follows noHook_ok ClTm18_run
theorem ClTm18_fit : ClTm18.fit = true := by decide +kernel
theorem ClTm19_run : runK Tryz.prog noHook 60 ClTm19 = true := by decide +kernel
theorem ClTm19_ok : ClTm19.ok Tryz.prog := runK_ok follows noHook_ok ClTm19_run
theorem ClTm19_fit : ClTm19.fit = true := by decide +kernel
theorem ClTm20_run : runK Tryz.prog noHook 60 ClTm20 = true := by decide +kernel
theorem ClTm20_ok : ClTm20.ok Tryz.prog := runK_ok follows noHook_ok ClTm20_run
theorem ClTm20_fit : ClTm20.fit = true := by decide +kernel
theorem ClTm21_run : runK Tryz.prog noHook 60 ClTm21 = true := by decide +kernel
theorem ClTm21_ok : ClTm21.ok Tryz.prog := runK_ok follows noHook_ok ClTm21_run
theorem ClTm21_fit : ClTm21.fit = true := by decide +kernel
theorem ClTm22_run : runK Tryz.prog noHook 60 ClTm22 = true := by decide +kernel
theorem ClTm22_ok : ClTm22.ok Tryz.prog := runK_ok follows noHook_ok ClTm22_run
theorem ClTm22_fit : ClTm22.fit = true := by decide +kernel
theorem ClTm23_run : runK Tryz.prog noHook 60 ClTm23 = true := by decide +kernel
theorem ClTm23_ok : ClTm23.ok Tryz.prog := runK_ok follows noHook_ok ClTm23_run
theorem ClTm23_fit : ClTm23.fit = true := by decide +kernel
theorem ClTm24_run : runK Tryz.prog noHook 60 ClTm24 = true := by decide +kernel
theorem ClTm24_ok : ClTm24.ok Tryz.prog := runK_ok follows noHook_ok ClTm24_run
theorem ClTm24_fit : ClTm24.fit = true := by decide +kernel
theorem ClTm25_run : runK Tryz.prog noHook 60 ClTm25 = true := by decide +kernel
theorem ClTm25_ok : ClTm25.ok Tryz.prog := runK_ok follows noHook_ok ClTm25_run
theorem ClTm25_fit : ClTm25.fit = true := by decide +kernel
theorem ClTm26_run : runK Tryz.prog noHook 60 ClTm26 = true := by decide +kernel
theorem ClTm26_ok : ClTm26.ok Tryz.prog := runK_ok follows noHook_ok ClTm26_run
theorem ClTm26_fit : ClTm26.fit = true := by decide +kernel
theorem ClTm27_run : runK Tryz.prog noHook 60 ClTm27 = true := by decide +kernel
theorem ClTm27_ok : ClTm27.ok Tryz.prog := runK_ok follows noHook_ok ClTm27_run
theorem ClTm27_fit : ClTm27.fit = true := by decide +kernel
theorem ClTm28_run : runK Tryz.prog noHook 60 ClTm28 = true := by decide +kernel
theorem ClTm28_ok : ClTm28.ok Tryz.prog := runK_ok follows noHook_ok ClTm28_run
theorem ClTm28_fit : ClTm28.fit = true := by decide +kernel
theorem ClTm29_run : runK Tryz.prog noHook 60 ClTm29 = true := by decide +kernel
theorem ClTm29_ok : ClTm29.ok Tryz.prog := runK_ok follows noHook_ok ClTm29_run
theorem ClTm29_fit : ClTm29.fit = true := by decide +kernel
theorem ClTm30_run : runK Tryz.prog noHook 60 ClTm30 = true := by decide +kernel
theorem ClTm30_ok : ClTm30.ok Tryz.prog := runK_ok follows noHook_ok ClTm30_run
theorem ClTm30_fit : ClTm30.fit = true := by decide +kernel
theorem ClTm31_run : runK Tryz.prog noHook 60 ClTm31 = true := by decide +kernel
theorem ClTm31_ok : ClTm31.ok Tryz.prog := runK_ok follows noHook_ok ClTm31_run
theorem ClTm31_fit : ClTm31.fit = true := by decide +kernel
theorem ClTm32_run : runK Tryz.prog noHook 60 ClTm32 = true := by decide +kernel
theorem ClTm32_ok : ClTm32.ok Tryz.prog := runK_ok follows noHook_ok ClTm32_run
theorem ClTm32_fit : ClTm32.fit = true := by decide +kernel
theorem ClTm33_run : runK Tryz.prog noHook 60 ClTm33 = true := by decide +kernel
theorem ClTm33_ok : ClTm33.ok Tryz.prog := runK_ok follows noHook_ok ClTm33_run
theorem ClTm33_fit : ClTm33.fit = true := by decide +kernel
theorem ClTm34_run : runK Tryz.prog noHook 60 ClTm34 = true := by decide +kernel
theorem ClTm34_ok : ClTm34.ok Tryz.prog := runK_ok follows noHook_ok ClTm34_run
theorem ClTm34_fit : ClTm34.fit = true := by decide +kernel
theorem ClTm35_run : runK Tryz.prog noHook 60 ClTm35 = true := by decide +kernel
theorem ClTm35_ok : ClTm35.ok Tryz.prog := runK_ok follows noHook_ok ClTm35_run
theorem ClTm35_fit : ClTm35.fit = true := by decide +kernel
theorem ClTm36_run : runK Tryz.prog noHook 60 ClTm36 = true := by decide +kernel
theorem ClTm36_ok : ClTm36.ok Tryz.prog := runK_ok follows noHook_ok ClTm36_run
theorem ClTm36_fit : ClTm36.fit = true := by decide +kernel
theorem ClTm37_run : runK Tryz.prog noHook 60 ClTm37 = true := by decide +kernel
theorem ClTm37_ok : ClTm37.ok Tryz.prog := runK_ok follows noHook_ok ClTm37_run
theorem ClTm37_fit : ClTm37.fit = true := by decide +kernel
theorem ClTm38_run : runK Tryz.prog noHook 60 ClTm38 = true := by decide +kernel
theorem ClTm38_ok : ClTm38.ok Tryz.prog := runK_ok follows noHook_ok ClTm38_run
theorem ClTm38_fit : ClTm38.fit = true := by decide +kernel
theorem ClTm39_run : runK Tryz.prog noHook 60 ClTm39 = true := by decide +kernel
theorem ClTm39_ok : ClTm39.ok Tryz.prog := runK_ok follows noHook_ok ClTm39_run
theorem ClTm39_fit : ClTm39.fit = true := by decide +kernel
theorem ClTm40_run : runK Tryz.prog noHook 60 ClTm40 = true := by decide +kernel
theorem ClTm40_ok : ClTm40.ok Tryz.prog := runK_ok follows noHook_ok ClTm40_run
theorem ClTm40_fit : ClTm40.fit = true := by decide +kernel
theorem ClTm41_run : runK Tryz.prog noHook 60 ClTm41 = true := by decide +kernel
theorem ClTm41_ok : ClTm41.ok Tryz.prog := runK_ok follows noHook_ok ClTm41_run
theorem ClTm41_fit : ClTm41.fit = true := by decide +kernel
theorem ClTm42_run : runK Tryz.prog noHook 60 ClTm42 = true := by decide +kernel
theorem ClTm42_ok : ClTm42.ok Tryz.prog := runK_ok follows noHook_ok ClTm42_run
theorem ClTm42_fit : ClTm42.fit = true := by decide +kernel
theorem ClTm43_run : runK Tryz.prog noHook 60 ClTm43 = true := by decide +kernel
theorem ClTm43_ok : ClTm43.ok Tryz.prog := runK_ok follows noHook_ok ClTm43_run
theorem ClTm43_fit : ClTm43.fit = true := by decide +kernel
theorem ClTm44_run : runK Tryz.prog noHook 60 ClTm44 = true := by decide +kernel
theorem ClTm44_ok : ClTm44.ok Tryz.prog := runK_ok follows noHook_ok ClTm44_run
theorem ClTm44_fit : ClTm44.fit = true := by decide +kernel
theorem ClTm45_run : runK Tryz.prog noHook 60 ClTm45 = true := by decide +kernel
theorem ClTm45_ok : ClTm45.ok Tryz.prog := runK_ok follows noHook_ok ClTm45_run
theorem ClTm45_fit : ClTm45.fit = true := by decide +kernel
theorem ClTm46_run : runK Tryz.prog noHook 60 ClTm46 = true := by decide +kernel
theorem ClTm46_ok : ClTm46.ok Tryz.prog := runK_ok follows noHook_ok ClTm46_run
theorem ClTm46_fit : ClTm46.fit = true := by decide +kernel
theorem ClTm47_run : runK Tryz.prog noHook 60 ClTm47 = true := by decide +kernel
theorem ClTm47_ok : ClTm47.ok Tryz.prog := runK_ok follows noHook_ok ClTm47_run
theorem ClTm47_fit : ClTm47.fit = true := by decide +kernel
theorem ClTm48_run : runK Tryz.prog noHook 60 ClTm48 = true := by decide +kernel
theorem ClTm48_ok : ClTm48.ok Tryz.prog := runK_ok follows noHook_ok ClTm48_run
theorem ClTm48_fit : ClTm48.fit = true := by decide +kernel
theorem ClTm49_run : runK Tryz.prog noHook 60 ClTm49 = true := by decide +kernel
theorem ClTm49_ok : ClTm49.ok Tryz.prog := runK_ok follows noHook_ok ClTm49_run
theorem ClTm49_fit : ClTm49.fit = true := by decide +kernel
theorem ClTm50_run : runK Tryz.prog noHook 60 ClTm50 = true := by decide +kernel
theorem ClTm50_ok : ClTm50.ok Tryz.prog := runK_ok follows noHook_ok ClTm50_run
theorem ClTm50_fit : ClTm50.fit = true := by decide +kernel
theorem ClTm51_run : runK Tryz.prog noHook 60 ClTm51 = true := by decide +kernel
theorem ClTm51_ok : ClTm51.ok Tryz.prog := runK_ok follows noHook_ok ClTm51_run
theorem ClTm51_fit : ClTm51.fit = true := by decide +kernel
theorem ClTm52_run : runK Tryz.prog noHook 60 ClTm52 = true := by decide +kernel
theorem ClTm52_ok : ClTm52.ok Tryz.prog := runK_ok follows noHook_ok ClTm52_run
theorem ClTm52_fit : ClTm52.fit = true := by decide +kernel
theorem ClTm53_run : runK Tryz.prog noHook 60 ClTm53 = true := by decide +kernel
theorem ClTm53_ok : ClTm53.ok Tryz.prog := runK_ok follows noHook_ok ClTm53_run
theorem ClTm53_fit : ClTm53.fit = true := by decide +kernel
theorem ClTm54_run : runK Tryz.prog noHook 60 ClTm54 = true := by decide +kernel
theorem ClTm54_ok : ClTm54.ok Tryz.prog := runK_ok follows noHook_ok ClTm54_run
theorem ClTm54_fit : ClTm54.fit = true := by decide +kernel
theorem ClTm55_run : runK Tryz.prog noHook 60 ClTm55 = true := by decide +kernel
theorem ClTm55_ok : ClTm55.ok Tryz.prog := runK_ok follows noHook_ok ClTm55_run
theorem ClTm55_fit : ClTm55.fit = true := by decide +kernel
theorem ClTm56_run : runK Tryz.prog noHook 60 ClTm56 = true := by decide +kernel
theorem ClTm56_ok : ClTm56.ok Tryz.prog := runK_ok follows noHook_ok ClTm56_run
theorem ClTm56_fit : ClTm56.fit = true := by decide +kernel
theorem ClTm57_run : runK Tryz.prog noHook 60 ClTm57 = true := by decide +kernel
theorem ClTm57_ok : ClTm57.ok Tryz.prog := runK_ok follows noHook_ok ClTm57_run
theorem ClTm57_fit : ClTm57.fit = true := by decide +kernel
theorem ClTm58_run : runK Tryz.prog noHook 60 ClTm58 = true := by decide +kernel
theorem ClTm58_ok : ClTm58.ok Tryz.prog := runK_ok follows noHook_ok ClTm58_run
theorem ClTm58_fit : ClTm58.fit = true := by decide +kernel
theorem ClTm59_run : runK Tryz.prog noHook 60 ClTm59 = true := by decide +kernel
theorem ClTm59_ok : ClTm59.ok Tryz.prog := runK_ok follows noHook_ok ClTm59_run
theorem ClTm59_fit : ClTm59.fit = true := by decide +kernel
theorem ClTm60_run : runK Tryz.prog noHook 60 ClTm60 = true := by decide +kernel
theorem ClTm60_ok : ClTm60.ok Tryz.prog := runK_ok follows noHook_ok ClTm60_run
theorem ClTm60_fit : ClTm60.fit = true := by decide +kernel
theorem ClTm61_run : runK Tryz.prog noHook 60 ClTm61 = true := by decide +kernel
theorem ClTm61_ok : ClTm61.ok Tryz.prog := runK_ok follows noHook_ok ClTm61_run
theorem ClTm61_fit : ClTm61.fit = true := by decide +kernel
theorem ClTm62_run : runK Tryz.prog noHook 60 ClTm62 = true := by decide +kernel
theorem ClTm62_ok : ClTm62.ok Tryz.prog := runK_ok follows noHook_ok ClTm62_run
theorem ClTm62_fit : ClTm62.fit = true := by decide +kernel
theorem ClTm63_run : runK Tryz.prog noHook 60 ClTm63 = true := by decide +kernel
theorem ClTm63_ok : ClTm63.ok Tryz.prog := runK_ok follows noHook_ok ClTm63_run
theorem ClTm63_fit : ClTm63.fit = true := by decide +kernel
theorem ClTm64_run : runK Tryz.prog noHook 60 ClTm64 = true := by decide +kernel
theorem ClTm64_ok : ClTm64.ok Tryz.prog := runK_ok follows noHook_ok ClTm64_run
theorem ClTm64_fit : ClTm64.fit = true := by decide +kernel
theorem ClTm65_run : runK Tryz.prog noHook 60 ClTm65 = true := by decide +kernel
theorem ClTm65_ok : ClTm65.ok Tryz.prog := runK_ok follows noHook_ok ClTm65_run
theorem ClTm65_fit : ClTm65.fit = true := by decide +kernel
theorem ClTm66_run : runK Tryz.prog noHook 60 ClTm66 = true := by decide +kernel
theorem ClTm66_ok : ClTm66.ok Tryz.prog := runK_ok follows noHook_ok ClTm66_run
theorem ClTm66_fit : ClTm66.fit = true := by decide +kernel
theorem ClTm67_run : runK Tryz.prog noHook 60 ClTm67 = true := by decide +kernel
theorem ClTm67_ok : ClTm67.ok Tryz.prog := runK_ok follows noHook_ok ClTm67_run
theorem ClTm67_fit : ClTm67.fit = true := by decide +kernel
theorem ClTm68_run : runK Tryz.prog noHook 60 ClTm68 = true := by decide +kernel
theorem ClTm68_ok : ClTm68.ok Tryz.prog := runK_ok follows noHook_ok ClTm68_run
theorem ClTm68_fit : ClTm68.fit = true := by decide +kernel
theorem ClTm69_run : runK Tryz.prog noHook 60 ClTm69 = true := by decide +kernel
theorem ClTm69_ok : ClTm69.ok Tryz.prog := runK_ok follows noHook_ok ClTm69_run
theorem ClTm69_fit : ClTm69.fit = true := by decide +kernel
theorem ClTm70_run : runK Tryz.prog noHook 60 ClTm70 = true := by decide +kernel
theorem ClTm70_ok : ClTm70.ok Tryz.prog := runK_ok follows noHook_ok ClTm70_run
theorem ClTm70_fit : ClTm70.fit = true := by decide +kernel
theorem ClTm71_run : runK Tryz.prog noHook 60 ClTm71 = true := by decide +kernel
theorem ClTm71_ok : ClTm71.ok Tryz.prog := runK_ok follows noHook_ok ClTm71_run
theorem ClTm71_fit : ClTm71.fit = true := by decide +kernel
theorem ClTm72_run : runK Tryz.prog noHook 60 ClTm72 = true := by decide +kernel
theorem ClTm72_ok : ClTm72.ok Tryz.prog := runK_ok follows noHook_ok ClTm72_run
theorem ClTm72_fit : ClTm72.fit = true := by decide +kernel
theorem ClTm73_run : runK Tryz.prog noHook 60 ClTm73 = true := by decide +kernel
theorem ClTm73_ok : ClTm73.ok Tryz.prog := runK_ok follows noHook_ok ClTm73_run
theorem ClTm73_fit : ClTm73.fit = true := by decide +kernel
theorem ClTm74_run : runK Tryz.prog noHook 60 ClTm74 = true := by decide +kernel
theorem ClTm74_ok : ClTm74.ok Tryz.prog := runK_ok follows noHook_ok ClTm74_run
theorem ClTm74_fit : ClTm74.fit = true := by decide +kernel
theorem ClTm75_run : runK Tryz.prog noHook 60 ClTm75 = true := by decide +kernel
theorem ClTm75_ok : ClTm75.ok Tryz.prog := runK_ok follows noHook_ok ClTm75_run
theorem ClTm75_fit : ClTm75.fit = true := by decide +kernel
theorem ClTm76_run : runK Tryz.prog noHook 60 ClTm76 = true := by decide +kernel
theorem ClTm76_ok : ClTm76.ok Tryz.prog := runK_ok follows noHook_ok ClTm76_run
theorem ClTm76_fit : ClTm76.fit = true := by decide +kernel
theorem ClTm77_run : runK Tryz.prog noHook 60 ClTm77 = true := by decide +kernel
theorem ClTm77_ok : ClTm77.ok Tryz.prog := runK_ok follows noHook_ok ClTm77_run
theorem ClTm77_fit : ClTm77.fit = true := by decide +kernel
theorem ClTm78_run : runK Tryz.prog noHook 60 ClTm78 = true := by decide +kernel
theorem ClTm78_ok : ClTm78.ok Tryz.prog := runK_ok follows noHook_ok ClTm78_run
theorem ClTm78_fit : ClTm78.fit = true := by decide +kernel
end
end Go.Ax

namespace Go.Ax
open Go.Proofs W
set_option maxRecDepth 100000
set_option maxHeartbeats 16000000
noncomputable section
theorem ClTm79_run : runK Tryz.prog noHook 60 ClTm79 = true := by decide +kernel
theorem ClTm79_ok : ClTm79.ok Tryz.prog := runK_ok follows noHook_ok ClTm79_run
theorem ClTm79_fit : ClTm79.fit = true := by decide +kernel
theorem ClTm80_run : runK Tryz.prog noHook 60 ClTm80 = true := by decide +kernel
theorem ClTm80_ok : ClTm80.ok Tryz.prog := runK_ok follows noHook_ok ClTm80_run
theorem ClTm80_fit : ClTm80.fit = true := by decide +kernel
theorem ClTm81_run : runK Tryz.prog noHook 60 ClTm81 = true := by decide +kernel
theorem ClTm81_ok : ClTm81.ok Tryz.prog := runK_ok follows noHook_ok ClTm81_run
theorem ClTm81_fit : ClTm81.fit = true := by decide +kernel
theorem ClTm82_run : runK Tryz.prog noHook 60 ClTm82 = true := by decide +kernel
theorem ClTm82_ok : ClTm82.ok Tryz.prog := runK_ok follows noHook_ok ClTm82_run
theorem ClTm82_fit : ClTm82.fit = true := by decide +kernel
theorem ClTm83_run : runK Tryz.prog noHook 60 ClTm83 = true := by decide +kernel
theorem ClTm83_ok : ClTm83.ok Tryz.prog := runK_ok follows noHook_ok ClTm83_run
theorem ClTm83_fit : ClTm83.fit = true := by decide +kernel
theorem ClTm84_run : runK Tryz.prog noHook 60 ClTm84 = true := by decide +kernel
theorem ClTm84_ok : ClTm84.ok Tryz.prog := runK_ok follows noHook_ok ClTm84_run
theorem ClTm84_fit : ClTm84.fit = true := by decide +kernel
theorem ClTm85_run : runK Tryz.prog noHook 60 ClTm85 = true := by decide +kernel
theorem ClTm85_ok : ClTm85.ok Tryz.prog := runK_ok follows noHook_ok ClTm85_run
theorem ClTm85_fit : ClTm85.fit = true := by decide +kernel
theorem ClTm86_run : runK Tryz.prog noHook 60 ClTm86 = true := by decide +kernel
theorem ClTm86_ok : ClTm86.ok Tryz.prog := runK_ok follows noHook_ok ClTm86_run
theorem ClTm86_fit : ClTm86.fit = true := by decide +kernel
theorem ClTm87_run : runK Tryz.prog noHook 60 ClTm87 = true := by decide +kernel
theorem ClTm87_ok : ClTm87.ok Tryz.prog := runK_ok follows noHook_ok ClTm87_run
theorem ClTm87_fit : ClTm87.fit = true := by decide +kernel
theorem ClTm88_run : runK Tryz.prog noHook 60 ClTm88 = true := by decide +kernel
theorem ClTm88_ok : ClTm88.ok Tryz.prog := runK_ok follows noHook_ok ClTm88_run
theorem ClTm88_fit : ClTm88.fit = true := by decide +kernel
theorem ClTm89_run : runK Tryz.prog noHook 60 ClTm89 = true := by decide +kernel
theorem ClTm89_ok : ClTm89.ok Tryz.prog := runK_ok follows noHook_ok ClTm89_run
theorem ClTm89_fit : ClTm89.fit = true := by decide +kernel
theorem ClTm90_run : runK Tryz.prog noHook 60 ClTm90 = true := by decide +kernel
theorem ClTm90_ok : ClTm90.ok Tryz.prog := runK_ok follows noHook_ok ClTm90_run
theorem ClTm90_fit : ClTm90.fit = true := by decide +kernel
theorem ClTm91_run : runK Tryz.prog noHook 60 ClTm91 = true := by decide +kernel
theorem ClTm91_ok : ClTm91.ok Tryz.prog := runK_ok follows noHook_ok ClTm91_run
theorem ClTm91_fit : ClTm91.fit = true := by decide +kernel
theorem ClTm92_run : runK Tryz.prog noHook 60 ClTm92 = true := by decide +kernel
theorem ClTm92_ok : ClTm92.ok Tryz.prog := runK_ok follows noHook_ok ClTm92_run
theorem ClTm92_fit : ClTm92.fit = true := by decide +kernel
theorem ClTm93_run : runK Tryz.prog noHook 60 ClTm93 = true := by decide +kernel
theorem ClTm93_ok : ClTm93.ok Tryz.prog := runK_ok follows noHook_ok ClTm93_run
theorem ClTm93_fit : ClTm93.fit = true := by decide +kernel
theorem ClTm94_run : runK Tryz.prog noHook 60 ClTm94 = true := by decide +kernel
theorem ClTm94_ok : ClTm94.ok Tryz.prog := runK_ok follows noHook_ok ClTm94_run
theorem ClTm94_fit : ClTm94.fit = true := by decide +kernel
theorem ClTm95_run : runK Tryz.prog noHook 60 ClTm95 = true := by decide +kernel
theorem ClTm95_ok : ClTm95.ok Tryz.prog := runK_ok follows noHook_ok ClTm95_run
theorem ClTm95_fit : ClTm95.fit = true := by decide +kernel
theorem ClTm96_run : runK Tryz.prog noHook 60 ClTm96 = true := by decide +kernel
theorem ClTm96_ok : ClTm96.ok Tryz.prog := runK_ok follows noHook_ok ClTm96_run
theorem ClTm96_fit : ClTm96.fit = true := by decide +kernel
theorem ClTm97_run : runK Tryz.prog noHook 60 ClTm97 = true := by decide +kernel
theorem ClTm97_ok : ClTm97.ok Tryz.prog := runK_ok follows noHook_ok ClTm97_run
theorem ClTm97_fit : ClTm97.fit = true := by decide +kernel
theorem ClTm98_run : runK Tryz.prog noHook 60 ClTm98 = true := by decide +kernel
theorem ClTm98_ok : ClTm98.ok Tryz.prog := runK_ok follows noHook_ok ClTm98_run
theorem ClTm98_fit : ClTm98.fit = true := by decide +kernel
theorem ClTm99_run : runK Tryz.prog noHook 60 ClTm99 = true := by decide +kernel
theorem ClTm99_ok : ClTm99.ok Tryz.prog := runK_ok follows noHook_ok ClTm99_run
theorem ClTm99_fit : ClTm99.fit = true := by decide +kernel
theorem ClTm100_run : runK Tryz.prog noHook 60 ClTm100 = true := by decide +kernel
theorem ClTm100_ok : ClTm100.ok Tryz.prog := runK_ok follows noHook_ok ClTm100_run
theorem ClTm100_fit : ClTm100.fit = true := by decide +kernel
theorem ClTm101_run : runK Tryz.prog noHook 60 ClTm101 = true := by decide +kernel
theorem ClTm101_ok : ClTm101.ok Tryz.prog := runK_ok follows noHook_ok ClTm101_run
theorem ClTm101_fit : ClTm101.fit = true := by decide +kernel
theorem ClTm102_run : runK Tryz.prog noHook 60 ClTm102 = true := by decide +kernel
theorem ClTm102_ok : ClTm102.ok Tryz.prog := runK_ok follows noHook_ok ClTm102_run
theorem ClTm102_fit : ClTm102.fit = true := by decide +kernel
theorem ClTm103_run : runK Tryz.prog noHook 60 ClTm103 = true := by decide +kernel
theorem ClTm103_ok : ClTm103.ok Tryz.prog := runK_ok follows noHook_ok ClTm103_run
theorem ClTm103_fit : ClTm103.fit = true := by decide +kernel
theorem ClTm104_run : runK Tryz.prog noHook 60 ClTm104 = true := by decide +kernel
theorem ClTm104_ok : ClTm104.ok Tryz.prog := runK_ok follows noHook_ok ClTm104_run
theorem ClTm104_fit : ClTm104.fit = true := by decide +kernel
theorem ClTm105_run : runK Tryz.prog noHook 60 ClTm105 = true := by decide +kernel
theorem ClTm105_ok : ClTm105.ok Tryz.prog := runK_ok follows noHook_ok ClTm105_run
theorem ClTm105_fit : ClTm105.fit = true := by decide +kernel
theorem ClTm106_run : runK Tryz.prog noHook 60 ClTm106 = true := by decide +kernel
theorem ClTm106_ok : ClTm106.ok Tryz.prog := runK_ok follows noHook_ok ClTm106_run
theorem ClTm106_fit : ClTm106.fit = true := by decide +kernel
theorem ClTm107_run : runK Tryz.prog noHook 60 ClTm107 = true := by decide +kernel
theorem ClTm107_ok : ClTm107.ok Tryz.prog := runK_ok follows noHook_ok ClTm107_run
theorem ClTm107_fit : ClTm107.fit = true := by decide +kernel
theorem ClTm108_run : runK Tryz.prog noHook 60 ClTm108 = true := by decide +kernel
theorem ClTm108_ok : ClTm108.ok Tryz.prog := runK_ok follows noHook_ok ClTm108_run
theorem ClTm108_fit : ClTm108.fit = true := by decide +kernel
theorem ClTm109_run : runK Tryz.prog noHook 60 ClTm109 = true := by decide +kernel
theorem ClTm109_ok : ClTm109.ok Tryz.prog := runK_ok follows noHook_ok ClTm109_run
theorem ClTm109_fit : ClTm109.fit = true := by decide +kernel
theorem ClTm110_run : runK Tryz.prog noHook 60 ClTm110 = true := by decide +kernel
theorem ClTm110_ok : ClTm110.ok Tryz.prog := runK_ok follows noHook_ok ClTm110_run
theorem ClTm110_fit : ClTm110.fit = true := by decide +kernel
theorem ClTm111_run : runK Tryz.prog noHook 60 ClTm111 = true := by decide +kernel
theorem ClTm111_ok : ClTm111.ok Tryz.prog := runK_ok follows noHook_ok ClTm111_run
theorem ClTm111_fit : ClTm111.fit = true := by decide +kernel
theorem ClTm112_run : runK Tryz.prog noHook 60 ClTm112 = true := by decide +kernel
theorem ClTm112_ok : ClTm112.ok Tryz.prog := runK_ok follows noHook_ok ClTm112_run
theorem ClTm112_fit : ClTm112.fit = true := by decide +kernel
theorem ClTm113_run : runK Tryz.prog noHook 60 ClTm113 = true := by decide +kernel
theorem ClTm113_ok : ClTm113.ok Tryz.prog := runK_ok follows noHook_ok ClTm113_run
theorem ClTm113_fit : ClTm113.fit = true := by decide +kernel
theorem ClTm114_run : runK Tryz.prog noHook 60 ClTm114 = true := by decide +kernel
theorem ClTm114_ok : ClTm114.ok Tryz.prog := runK_ok follows noHook_ok ClTm114_run
theorem ClTm114_fit : ClTm114.fit = true := by decide +kernel
theorem ClTm115_run : runK Tryz.prog noHook 60 ClTm115 = true := by decide +kernel
theorem ClTm115_ok : ClTm115.ok Tryz.prog := runK_ok follows noHook_ok ClTm115_run
theorem ClTm115_fit : ClTm115.fit = true := by decide +kernel
theorem ClTm116_run : runK Tryz.prog noHook 60 ClTm116 = true := by decide +kernel
theorem ClTm116_ok : ClTm116.ok Tryz.prog := runK_ok follows noHook_ok ClTm116_run
theorem ClTm116_fit : ClTm116.fit = true := by decide +kernel
theorem ClTm117_run : runK Tryz.prog noHook 60 ClTm117 = true := by decide +kernel
theorem ClTm117_ok : ClTm117.ok Tryz.prog := runK_ok follows noHook_ok ClTm117_run
theorem ClTm117_fit : ClTm117.fit = true := by decide +kernel
theorem ClTm118_run : runK Tryz.prog noHook 60 ClTm118 = true := by decide +kernel
theorem ClTm118_ok : ClTm118.ok Tryz.prog := runK_ok follows noHook_ok ClTm118_run
theorem ClTm118_fit : ClTm118.fit = true := by decide +kernel
theorem ClTm119_run : runK Tryz.prog noHook 60 ClTm119 = true := by decide +kernel
theorem ClTm119_ok : ClTm119.ok Tryz.prog := runK_ok follows noHook_ok ClTm119_run
theorem ClTm119_fit : ClTm119.fit = true := by decide +kernel
theorem ClTm120_run : runK Tryz.prog noHook 60 ClTm120 = true := by decide +kernel
theorem ClTm120_ok : ClTm120.ok Tryz.prog := runK_ok follows noHook_ok ClTm120_run
theorem ClTm120_fit : ClTm120.fit = true := by decide +kernel
theorem ClTm121_run : runK Tryz.prog noHook 60 ClTm121 = true := by decide +kernel
theorem ClTm121_ok : ClTm121.ok Tryz.prog := runK_ok follows noHook_ok ClTm121_run
theorem ClTm121_fit : ClTm121.fit = true := by decide +kernel
theorem ClTm122_run : runK Tryz.prog noHook 60 ClTm122 = true := by decide +kernel
theorem ClTm122_ok : ClTm122.ok Tryz.prog := runK_ok follows noHook_ok ClTm122_run
theorem ClTm122_fit : ClTm122.fit = true := by decide +kernel
theorem ClTm123_run : runK Tryz.prog noHook 60 ClTm123 = true := by decide +kernel
theorem ClTm123_ok : ClTm123.ok Tryz.prog := runK_ok follows noHook_ok ClTm123_run
theorem ClTm123_fit : ClTm123.fit = true := by decide +kernel
theorem ClTm124_run : runK Tryz.prog noHook 60 ClTm124 = true := by decide +kernel
theorem ClTm124_ok : ClTm124.ok Tryz.prog := runK_ok follows noHook_ok ClTm124_run
theorem ClTm124_fit : ClTm124.fit = true := by decide +kernel
theorem ClTm125_run : runK Tryz.prog noHook 60 ClTm125 = true := by decide +kernel
theorem ClTm125_ok : ClTm125.ok Tryz.prog := runK_ok follows noHook_ok ClTm125_run
theorem ClTm125_fit : ClTm125.fit = true := by decide +kernel
theorem ClTm126_run : runK Tryz.prog noHook 60 ClTm126 = true := by decide +kernel
theorem ClTm126_ok : ClTm126.ok Tryz.prog := runK_ok follows noHook_ok ClTm126_run
theorem ClTm126_fit : ClTm126.fit = true := by decide +kernel
theorem ClTm127_run : runK Tryz.prog noHook 60 ClTm127 = true := by decide +kernel
theorem ClTm127_ok : ClTm127.ok Tryz.prog := runK_ok follows noHook_ok ClTm127_run
theorem ClTm127_fit : ClTm127.fit = true := by decide +kernel
theorem ClTm128_run : runK Tryz.prog noHook 60 ClTm128 = true := by decide +kernel
theorem ClTm128_ok : ClTm128.ok Tryz.prog := runK_ok follows noHook_ok ClTm128_run
theorem ClTm128_fit : ClTm128.fit = true := by decide +kernel
theorem ClTm129_run : runK Tryz.prog noHook 60 ClTm129 = true := by decide +kernel
theorem ClTm129_ok : ClTm129.ok Tryz.prog := runK_ok follows noHook_ok ClTm129_run
theorem ClTm129_fit : ClTm129.fit = true := by decide +kernel
theorem ClTm130_run : runK Tryz.prog noHook 60 ClTm130 = true := by decide +kernel
theorem ClTm130_ok : ClTm130.ok Tryz.prog := runK_ok follows noHook_ok ClTm130_run
theorem ClTm130_fit : ClTm130.fit = true := by decide +kernel
theorem ClTm131_run : runK Tryz.prog noHook 60 ClTm131 = true := by decide +kernel
theorem ClTm131_ok : ClTm131.ok Tryz.prog := runK_ok follows noHook_ok ClTm131_run
theorem ClTm131_fit : ClTm131.fit = true := by decide +kernel
theorem ClTm132_run : runK Tryz.prog noHook 60 ClTm132 = true := by decide +kernel
theorem ClTm132_ok : ClTm132.ok Tryz.prog := runK_ok follows noHook_ok ClTm132_run
theorem ClTm132_fit : ClTm132.fit = true := by decide +kernel
theorem ClTm133_run : runK Tryz.prog noHook 60 ClTm133 = true := by decide +kernel
theorem ClTm133_ok : ClTm133.ok Tryz.prog := runK_ok follows noHook_ok ClTm133_run
theorem ClTm133_fit : ClTm133.fit = true := by decide +kernel
theorem ClTm134_run : runK Tryz.prog noHook 60 ClTm134 = true := by decide +kernel
theorem ClTm134_ok : ClTm134.ok Tryz.prog := runK_ok follows noHook_ok ClTm134_run
theorem ClTm134_fit : ClTm134.fit = true := by decide +kernel
theorem ClTm135_run : runK Tryz.prog noHook 60 ClTm135 = true := by decide +kernel
theorem ClTm135_ok : ClTm135.ok Tryz.prog := runK_ok follows noHook_ok ClTm135_run
theorem ClTm135_fit : ClTm135.fit = true := by decide +kernel
theorem ClTm136_run : runK Tryz.prog noHook 60 ClTm136 = true := by decide +kernel
theorem ClTm136_ok : ClTm136.ok Tryz.prog := runK_ok follows noHook_ok ClTm136_run
theorem ClTm136_fit : ClTm136.fit = true := by decide +kernel
theorem ClTm137_run : runK Tryz.prog noHook 60 ClTm137 = true := by decide +kernel
theorem ClTm137_ok : ClTm137.ok Tryz.prog := runK_ok follows noHook_ok ClTm137_run
theorem ClTm137_fit : ClTm137.fit = true := by decide +kernel
theorem ClTm138_run : runK Tryz.prog noHook 60 ClTm138 = true := by decide +kernel
theorem ClTm138_ok : ClTm138.ok Tryz.prog := runK_ok follows noHook_ok ClTm138_run
theorem ClTm138_fit : ClTm138.fit = true := by decide +kernel
theorem ClTm139_run : runK Tryz.prog noHook 60 ClTm139 = true := by decide +kernel
theorem ClTm139_ok : ClTm139.ok Tryz.prog := runK_ok follows noHook_ok ClTm139_run
theorem ClTm139_fit : ClTm139.fit = true := by decide +kernel
theorem ClTm140_run : runK Tryz.prog noHook 60 ClTm140 = true := by decide +kernel
theorem ClTm140_ok : ClTm140.ok Tryz.prog := runK_ok follows noHook_ok ClTm140_run
theorem ClTm140_fit : ClTm140.fit = true := by decide +kernel
theorem ClTm141_run : runK Tryz.prog noHook 60 ClTm141 = true := by decide +kernel
theorem ClTm141_ok : ClTm141.ok Tryz.prog := runK_ok follows noHook_ok ClTm141_run
theorem ClTm141_fit : ClTm141.fit = true := by decide +kernel
theorem ClTm142_run : runK Tryz.prog noHook 60 ClTm142 = true := by decide +kernel
theorem ClTm142_ok : ClTm142.ok Tryz.prog := runK_ok follows noHook_ok ClTm142_run
theorem ClTm142_fit : ClTm142.fit = true := by decide +kernel
theorem ClTm143_run : runK Tryz.prog noHook 60 ClTm143 = true := by decide +kernel
theorem ClTm143_ok : ClTm143.ok Tryz.prog := runK_ok follows noHook_ok ClTm143_run
theorem ClTm143_fit : ClTm143.fit = true := by decide +kernel
theorem ClTm144_run : runK Tryz.prog noHook 60 ClTm144 = true := by decide +kernel
theorem ClTm144_ok : ClTm144.ok Tryz.prog := runK_ok follows noHook_ok ClTm144_run
theorem ClTm144_fit : ClTm144.fit = true := by decide +kernel
theorem ClTm145_run : runK Tryz.prog noHook 60 ClTm145 = true := by decide +kernel
theorem ClTm145_ok : ClTm145.ok Tryz.prog := runK_ok follows noHook_ok ClTm145_run
theorem ClTm145_fit : ClTm145.fit = true := by decide +kernel
end
end Go.Ax
