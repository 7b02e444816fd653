/- What the functions of the head come to, one behind the other, by program. -/
import Derived.Test.YtgooflapblbjnaaGreatDoorHdA3
set_option linter.unusedVariables false
set_option linter.unusedSimpArgs false
set_option linter.unusedSectionVars false
namespace Go.Ax
open Go.Proofs W
set_option maxRecDepth 100000
noncomputable section
-- orchard/orchardlaw18.Until: 27014 operations of its own
def k12 : Chunk := { f := 14, args := [(p 3 0),(p 8680 0),(i 60)], nx := 8775, pre := [x 3 [(i 3),(a 8677 0 3 1),(a 8679 0 3 1),ns,ns,(i 0)], q 4 [] 0, q 5 [] 0, q 6 [] 0, x 7 [(i 262),(m 4),ns,(m 5),(m 6),(j 0),f], q 8 [] 0, x 10 [(p 7 0),(p 11 0),(p 92 0),(p 303 0),(i 1),(i 3),(i 0),(i 0),(i 0),nm,nm,nm,(i 0),(i 0),(m 8),(i 0),(i 0),(i 0),ns,(m 9),f,(i 0),(i 0),(i 0),ns,(i 0)], x 11 [(p 7 0),(i 0),(i 0),(i 0),(i 1),(i 0)], x 92 [(p 7 0),(i 2),(j 0),(i 0),(i 0),(i 0),ns], q 302 [] 0, x 303 [(p 7 0),(i 134),(i 64),(i 1),ns,(m 302)], q 2788 [] 0, x 2790 [(p 10 0),(p 2842 0),(i 0),(m 2788),(m 2789)], q 2838 [] 0, x 2839 [(m 2838)], x 2841 [ns,ns,(m 2840)], x 2842 [(p 2837 0),(p 2839 0),(p 2841 0),(i 0)], q 2896 [] 0, q 2897 [] 0, q 2898 [] 0, x 2899 [(i 262),(m 2896),ns,(m 2897),(m 2898),(j 0),f], q 2900 [] 0, x 2902 [(p 2899 0),(p 2903 0),(p 2984 0),(p 3195 0),(i 2),(i 3),(i 0),(i 0),(i 0),nm,nm,nm,(i 0),(i 0),(m 2900),(i 0),(i 0),(i 0),ns,(m 2901),f,(i 0),(i 0),(i 0),ns,(i 0)], x 2903 [(p 2899 0),(i 0),(i 0),(i 0),(i 1),(i 0)], x 2984 [(p 2899 0),(i 2),(j 0),(i 0),(i 0),(i 0),ns], q 3194 [] 0, x 3195 [(p 2899 0),(i 134),(i 64),(i 1),ns,(m 3194)], q 5680 [] 0, x 5682 [(p 2902 0),(p 5734 0),(i 0),(m 5680),(m 5681)], q 5730 [] 0, x 5731 [(m 5730)], x 5733 [ns,ns,(m 5732)], x 5734 [(p 5729 0),(p 5731 0),(p 5733 0),(i 0)], q 5788 [] 0, q 5789 [] 0, q 5790 [] 0, x 5791 [(i 262),(m 5788),ns,(m 5789),(m 5790),(j 0),f], q 5792 [] 0, x 5794 [(p 5791 0),(p 5795 0),(p 5876 0),(p 6087 0),(i 3),(i 3),(i 0),(i 0),(i 0),nm,nm,nm,(i 0),(i 0),(m 5792),(i 0),(i 0),(i 0),ns,(m 5793),f,(i 0),(i 0),(i 0),ns,(i 0)], x 5795 [(p 5791 0),(i 0),(i 0),(i 0),(i 1),(i 0)], x 5876 [(p 5791 0),(i 2),(j 0),(i 0),(i 0),(i 0),ns], q 6086 [] 0, x 6087 [(p 5791 0),(i 134),(i 64),(i 1),ns,(m 6086)], q 8572 [] 0, q 8573 [] 0, x 8574 [(p 5794 0),(p 8626 0),(i 0),(m 8572),(m 8573)], q 8622 [] 0, x 8623 [(m 8622)], x 8625 [ns,ns,(m 8624)], x 8626 [(p 8621 0),(p 8623 0),(p 8625 0),(i 0)], x 8679 [(p 2790 0),(p 5682 0),(p 8574 0)], x 8680 [(i 5),(i 0),(i 0),(i 0),t,f,(i 1),(i 5),(i 0),(i 0),ns,(s 0 0),f,f,ns]], v := (.tuple [(i 0),t]), nx' := 23915, post := [x 8680 [(i 5),(i 0),(i 0),(i 2),f,t,(i 1),(i 5),(i 0),(i 0),ns,(s 0 0),f,f,ns]] }
theorem k12_run : runK Tryz.prog (orK (useK k7) (orK (useK k8) (orK (useK k9) (orK (useK k10) (orK (useK k11) noHook))))) 60 k12 = true := by decide +kernel
theorem k12_ok : k12.ok Tryz.prog := runK_ok follows (orK_ok (useK_ok k7_ok) (orK_ok (useK_ok k8_ok) (orK_ok (useK_ok k9_ok) (orK_ok (useK_ok k10_ok) (orK_ok (useK_ok k11_ok) noHook_ok))))) k12_run
-- orchard/orchardlaw18.head: 781 operations of its own
def k13 : Chunk := { f := 4, args := [], nx := 3, pre := [], v := t, nx' := 23915, post := [] }
theorem k13_run : runK Tryz.prog (orK (useK k3) (orK (useK k12) noHook)) 60 k13 = true := by decide +kernel
theorem k13_ok : k13.ok Tryz.prog := runK_ok follows (orK_ok (useK_ok k3_ok) (orK_ok (useK_ok k12_ok) noHook_ok)) k13_run
end
end Go.Ax
