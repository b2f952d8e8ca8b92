/- Printed by a program of mine: stations. -/
import Derived.Test.YtppdhckcempmnaaGreatDoorProg
import Derived.Test.YtppdhckcempmnaaGreatDoorSt
open Go Go.AE Go.RowKit Go.Proofs
set_option maxHeartbeats 0
namespace YtppdhckcempmnaaGreatDoorS
set_option maxRecDepth 10000000 in
theorem st0_ok : EntOK Tryz.prog st0 := station (by kernel_rfl) (L := []) all0 (fuel := nat_lit 20000) (d := nat_lit 60) (by kernel_rfl)
set_option maxRecDepth 10000000 in
theorem st7_ok : EntOK Tryz.prog st7 := station (by kernel_rfl) (L := []) all0 (fuel := nat_lit 20000) (d := nat_lit 60) (by kernel_rfl)
set_option maxRecDepth 10000000 in
theorem st14_ok : EntOK Tryz.prog st14 := station (by kernel_rfl) (L := []) all0 (fuel := nat_lit 20000) (d := nat_lit 60) (by kernel_rfl)
set_option maxRecDepth 10000000 in
theorem st21_ok : EntOK Tryz.prog st21 := station (by kernel_rfl) (L := []) all0 (fuel := nat_lit 20000) (d := nat_lit 60) (by kernel_rfl)
set_option maxRecDepth 10000000 in
theorem st31_ok : EntOK Tryz.prog st31 := station (by kernel_rfl) (L := []) all0 (fuel := nat_lit 20000) (d := nat_lit 60) (by kernel_rfl)
end YtppdhckcempmnaaGreatDoorS
