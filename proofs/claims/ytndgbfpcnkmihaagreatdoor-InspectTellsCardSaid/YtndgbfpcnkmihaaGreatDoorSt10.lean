/- Printed by a program of mine: stations. -/
import Derived.Test.YtndgbfpcnkmihaaGreatDoorProg
import Derived.Test.YtndgbfpcnkmihaaGreatDoorSt0
import Derived.Test.YtndgbfpcnkmihaaGreatDoorSt1
import Derived.Test.YtndgbfpcnkmihaaGreatDoorSt2
import Derived.Test.YtndgbfpcnkmihaaGreatDoorSt3
import Derived.Test.YtndgbfpcnkmihaaGreatDoorSt4
import Derived.Test.YtndgbfpcnkmihaaGreatDoorSt5
import Derived.Test.YtndgbfpcnkmihaaGreatDoorSt6
import Derived.Test.YtndgbfpcnkmihaaGreatDoorSt7
import Derived.Test.YtndgbfpcnkmihaaGreatDoorSt8
import Derived.Test.YtndgbfpcnkmihaaGreatDoorSt9
open Go Go.AS Go.RowKit Go.Proofs
set_option maxHeartbeats 0
namespace YtndgbfpcnkmihaaGreatDoorS
set_option maxRecDepth 10000000 in
theorem st53_ok [Rho] : EntOK Tryz.prog st53 := station (by kernel_rfl) (L := [st3, st4, st5, st6, st7, st8, st9, st10, st11, st12, st13, st14, st15, st16, st17, st18, st19, st20, st21, st22, st23, st24, st25, st26, st27, st28, st29, st30, st31, st32, st33, st34, st35, st36, st37, st38, st39, st40, st41, st42, st43, st44, st45, st46, st47, st48, st49, st50, st51, st52]) (allc st3_ok (allc st4_ok (allc st5_ok (allc st6_ok (allc st7_ok (allc st8_ok (allc st9_ok (allc st10_ok (allc st11_ok (allc st12_ok (allc st13_ok (allc st14_ok (allc st15_ok (allc st16_ok (allc st17_ok (allc st18_ok (allc st19_ok (allc st20_ok (allc st21_ok (allc st22_ok (allc st23_ok (allc st24_ok (allc st25_ok (allc st26_ok (allc st27_ok (allc st28_ok (allc st29_ok (allc st30_ok (allc st31_ok (allc st32_ok (allc st33_ok (allc st34_ok (allc st35_ok (allc st36_ok (allc st37_ok (allc st38_ok (allc st39_ok (allc st40_ok (allc st41_ok (allc st42_ok (allc st43_ok (allc st44_ok (allc st45_ok (allc st46_ok (allc st47_ok (allc st48_ok (allc st49_ok (allc st50_ok (allc st51_ok (allc st52_ok all0)))))))))))))))))))))))))))))))))))))))))))))))))) (fuel := nat_lit 20000) (d := nat_lit 60) (by kernel_rfl)
end YtndgbfpcnkmihaaGreatDoorS
