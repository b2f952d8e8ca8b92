/- Printed by a program of mine: stations. -/
import Derived.Test.YtndgbfpcnkmihaaGreatDoorProg
import Derived.Test.YtndgbfpcnkmihaaGreatDoorSq0
open Go Go.AS Go.RowKit Go.Proofs
set_option maxHeartbeats 0
namespace YtndgbfpcnkmihaaGreatDoorS
set_option maxRecDepth 10000000 in
theorem st2_ok [Rho] : EntOK Tryz.prog st2 := station (by kernel_rfl) (L := []) all0 (fuel := nat_lit 20000) (d := nat_lit 60) (by kernel_rfl)
set_option maxRecDepth 10000000 in
theorem st12_ok [Rho] : EntOK Tryz.prog st12 := station (by kernel_rfl) (L := []) all0 (fuel := nat_lit 20000) (d := nat_lit 60) (by kernel_rfl)
set_option maxRecDepth 10000000 in
theorem st22_ok [Rho] : EntOK Tryz.prog st22 := station (by kernel_rfl) (L := []) all0 (fuel := nat_lit 20000) (d := nat_lit 60) (by kernel_rfl)
set_option maxRecDepth 10000000 in
theorem st32_ok [Rho] : EntOK Tryz.prog st32 := station (by kernel_rfl) (L := []) all0 (fuel := nat_lit 20000) (d := nat_lit 60) (by kernel_rfl)
set_option maxRecDepth 10000000 in
theorem st42_ok [Rho] : EntOK Tryz.prog st42 := station (by kernel_rfl) (L := []) all0 (fuel := nat_lit 20000) (d := nat_lit 60) (by kernel_rfl)
set_option maxRecDepth 10000000 in
theorem st52_ok [Rho] : EntOK Tryz.prog st52 := station (by kernel_rfl) (L := []) all0 (fuel := nat_lit 20000) (d := nat_lit 60) (by kernel_rfl)
end YtndgbfpcnkmihaaGreatDoorS
