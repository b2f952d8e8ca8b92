/- Printed by a program of mine: stations. -/
import Derived.Test.YtppdhckcempmnaaGreatDoorProg
import Derived.Test.YtppdhckcempmnaaGreatDoorSt0
import Derived.Test.YtppdhckcempmnaaGreatDoorSt1
import Derived.Test.YtppdhckcempmnaaGreatDoorSt2
import Derived.Test.YtppdhckcempmnaaGreatDoorSt3
import Derived.Test.YtppdhckcempmnaaGreatDoorSt4
import Derived.Test.YtppdhckcempmnaaGreatDoorSt5
import Derived.Test.YtppdhckcempmnaaGreatDoorSt6
open Go Go.AE Go.RowKit Go.Proofs
set_option maxHeartbeats 0
namespace YtppdhckcempmnaaGreatDoorS
set_option maxRecDepth 10000000 in
theorem st23_ok : EntOK Tryz.prog st23 := station (by kernel_rfl) (L := [st1, st2, st3, st4, st5, st6, st7, st8, st9, st10, st11, st12, st13, st14, st15, st16, st17, st18, st19, st20, st21, st22]) (allc st1_ok (allc st2_ok (allc st3_ok (allc st4_ok (allc st5_ok (allc st6_ok (allc st7_ok (allc st8_ok (allc st9_ok (allc st10_ok (allc st11_ok (allc st12_ok (allc st13_ok (allc st14_ok (allc st15_ok (allc st16_ok (allc st17_ok (allc st18_ok (allc st19_ok (allc st20_ok (allc st21_ok (allc st22_ok all0)))))))))))))))))))))) (fuel := nat_lit 20000) (d := nat_lit 60) (by kernel_rfl)
end YtppdhckcempmnaaGreatDoorS
