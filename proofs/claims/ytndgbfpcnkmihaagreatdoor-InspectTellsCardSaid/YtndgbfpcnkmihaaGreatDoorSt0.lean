/- Printed by a program of mine: stations. -/
import Derived.Test.YtndgbfpcnkmihaaGreatDoorProg
import Derived.Test.YtndgbfpcnkmihaaGreatDoorSq0
open Go Go.AS Go.RowKit Go.Proofs
set_option maxHeartbeats 0
namespace YtndgbfpcnkmihaaGreatDoorS
set_option maxRecDepth 10000000 in
theorem st0_ok [Rho] : EntOK Tryz.prog st0 := station (by kernel_rfl) (L := []) all0 (fuel := nat_lit 20000) (d := nat_lit 60) (by kernel_rfl)
set_option maxRecDepth 10000000 in
theorem st10_ok [Rho] : EntOK Tryz.prog st10 := station (by kernel_rfl) (L := []) all0 (fuel := nat_lit 20000) (d := nat_lit 60) (by kernel_rfl)
set_option maxRecDepth 10000000 in
theorem st20_ok [Rho] : EntOK Tryz.prog st20 := station (by kernel_rfl) (L := []) all0 (fuel := nat_lit 20000) (d := nat_lit 60) (by kernel_rfl)
set_option maxRecDepth 10000000 in
theorem st30_ok [Rho] : EntOK Tryz.prog st30 := station (by kernel_rfl) (L := []) all0 (fuel := nat_lit 20000) (d := nat_lit 60) (by kernel_rfl)
set_option maxRecDepth 10000000 in
theorem st40_ok [Rho] : EntOK Tryz.prog st40 := station (by kernel_rfl) (L := []) all0 (fuel := nat_lit 20000) (d := nat_lit 60) (by kernel_rfl)
set_option maxRecDepth 10000000 in
theorem st50_ok [Rho] : EntOK Tryz.prog st50 := station (by kernel_rfl) (L := []) all0 (fuel := nat_lit 20000) (d := nat_lit 60) (by kernel_rfl)
end YtndgbfpcnkmihaaGreatDoorS
