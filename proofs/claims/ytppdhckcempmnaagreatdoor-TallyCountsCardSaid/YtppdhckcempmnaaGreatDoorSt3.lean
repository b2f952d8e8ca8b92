/- Printed by a program of mine: stations. -/
import Derived.Test.YtppdhckcempmnaaGreatDoorProg
import Derived.Test.YtppdhckcempmnaaGreatDoorSt
open Go Go.AE Go.RowKit Go.Proofs
set_option maxHeartbeats 0
namespace YtppdhckcempmnaaGreatDoorS
set_option maxRecDepth 10000000 in
theorem st3_ok : EntOK Tryz.prog st3 := station (by kernel_rfl) (L := []) all0 (fuel := nat_lit 20000) (d := nat_lit 60) (by kernel_rfl)
set_option maxRecDepth 10000000 in
theorem st10_ok : EntOK Tryz.prog st10 := station (by kernel_rfl) (L := []) all0 (fuel := nat_lit 20000) (d := nat_lit 60) (by kernel_rfl)
set_option maxRecDepth 10000000 in
theorem st17_ok : EntOK Tryz.prog st17 := station (by kernel_rfl) (L := []) all0 (fuel := nat_lit 20000) (d := nat_lit 60) (by kernel_rfl)
set_option maxRecDepth 10000000 in
theorem st25_ok : EntOK Tryz.prog st25 := station (by kernel_rfl) (L := []) all0 (fuel := nat_lit 20000) (d := nat_lit 60) (by kernel_rfl)
end YtppdhckcempmnaaGreatDoorS
