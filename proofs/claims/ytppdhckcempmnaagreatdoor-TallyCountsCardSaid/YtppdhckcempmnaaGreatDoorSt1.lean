/- Printed by a program of mine: stations. -/
import Derived.Test.YtppdhckcempmnaaGreatDoorProg
import Derived.Test.YtppdhckcempmnaaGreatDoorSt
open Go Go.AE Go.RowKit Go.Proofs
set_option maxHeartbeats 0
namespace YtppdhckcempmnaaGreatDoorS
set_option maxRecDepth 10000000 in
theorem st1_ok : EntOK Tryz.prog st1 := station (by kernel_rfl) (L := []) all0 (fuel := nat_lit 20000) (d := nat_lit 60) (by kernel_rfl)
set_option maxRecDepth 10000000 in
theorem st8_ok : EntOK Tryz.prog st8 := station (by kernel_rfl) (L := []) all0 (fuel := nat_lit 20000) (d := nat_lit 60) (by kernel_rfl)
set_option maxRecDepth 10000000 in
theorem st15_ok : EntOK Tryz.prog st15 := station (by kernel_rfl) (L := []) all0 (fuel := nat_lit 20000) (d := nat_lit 60) (by kernel_rfl)
set_option maxRecDepth 10000000 in
theorem st22_ok : EntOK Tryz.prog st22 := station (by kernel_rfl) (L := []) all0 (fuel := nat_lit 20000) (d := nat_lit 60) (by kernel_rfl)
set_option maxRecDepth 10000000 in
theorem st33_ok : EntOK Tryz.prog st33 := station (by kernel_rfl) (L := []) all0 (fuel := nat_lit 20000) (d := nat_lit 60) (by kernel_rfl)
end YtppdhckcempmnaaGreatDoorS
