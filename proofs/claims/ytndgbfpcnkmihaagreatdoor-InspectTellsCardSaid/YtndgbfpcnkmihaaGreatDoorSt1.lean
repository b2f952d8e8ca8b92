/- Printed by a program of mine: stations. -/
import Derived.Test.YtndgbfpcnkmihaaGreatDoorProg
import Derived.Test.YtndgbfpcnkmihaaGreatDoorSq0
open Go Go.AS Go.RowKit Go.Proofs
set_option maxHeartbeats 0
namespace YtndgbfpcnkmihaaGreatDoorS
set_option maxRecDepth 10000000 in
theorem st1_ok [Rho] : EntOK Tryz.prog st1 := station (by kernel_rfl) (L := []) all0 (fuel := nat_lit 20000) (d := nat_lit 60) (by kernel_rfl)
set_option maxRecDepth 10000000 in
theorem st11_ok [Rho] : EntOK Tryz.prog st11 := station (by kernel_rfl) (L := []) all0 (fuel := nat_lit 20000) (d := nat_lit 60) (by kernel_rfl)
set_option maxRecDepth 10000000 in
theorem st21_ok [Rho] : EntOK Tryz.prog st21 := station (by kernel_rfl) (L := []) all0 (fuel := nat_lit 20000) (d := nat_lit 60) (by kernel_rfl)
set_option maxRecDepth 10000000 in
theorem st31_ok [Rho] : EntOK Tryz.prog st31 := station (by kernel_rfl) (L := []) all0 (fuel := nat_lit 20000) (d := nat_lit 60) (by kernel_rfl)
set_option maxRecDepth 10000000 in
theorem st41_ok [Rho] : EntOK Tryz.prog st41 := station (by kernel_rfl) (L := []) all0 (fuel := nat_lit 20000) (d := nat_lit 60) (by kernel_rfl)
set_option maxRecDepth 10000000 in
theorem st51_ok [Rho] : EntOK Tryz.prog st51 := station (by kernel_rfl) (L := []) all0 (fuel := nat_lit 20000) (d := nat_lit 60) (by kernel_rfl)
end YtndgbfpcnkmihaaGreatDoorS
