/- Printed by a program of mine: stations. -/
import Derived.Test.YtppdhckcempmnaaGreatDoorProg
import Derived.Test.YtppdhckcempmnaaGreatDoorSt
open Go Go.AE Go.RowKit Go.Proofs
set_option maxHeartbeats 0
namespace YtppdhckcempmnaaGreatDoorS
set_option maxRecDepth 10000000 in
theorem st2_ok : EntOK Tryz.prog st2 := station (by kernel_rfl) (L := []) all0 (fuel := nat_lit 20000) (d := nat_lit 60) (by kernel_rfl)
set_option maxRecDepth 10000000 in
theorem st9_ok : EntOK Tryz.prog st9 := station (by kernel_rfl) (L := []) all0 (fuel := nat_lit 20000) (d := nat_lit 60) (by kernel_rfl)
set_option maxRecDepth 10000000 in
theorem st16_ok : EntOK Tryz.prog st16 := station (by kernel_rfl) (L := []) all0 (fuel := nat_lit 20000) (d := nat_lit 60) (by kernel_rfl)
set_option maxRecDepth 10000000 in
theorem st24_ok : EntOK Tryz.prog st24 := station (by kernel_rfl) (L := []) all0 (fuel := nat_lit 20000) (d := nat_lit 60) (by kernel_rfl)
set_option maxRecDepth 10000000 in
theorem st35_ok : EntOK Tryz.prog st35 := station (by kernel_rfl) (L := []) all0 (fuel := nat_lit 20000) (d := nat_lit 60) (by kernel_rfl)
end YtppdhckcempmnaaGreatDoorS
