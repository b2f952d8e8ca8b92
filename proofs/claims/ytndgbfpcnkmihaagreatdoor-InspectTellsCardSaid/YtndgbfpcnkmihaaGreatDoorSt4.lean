/- Printed by a program of mine: stations. -/
import Derived.Test.YtndgbfpcnkmihaaGreatDoorProg
import Derived.Test.YtndgbfpcnkmihaaGreatDoorSq0
open Go Go.AS Go.RowKit Go.Proofs
set_option maxHeartbeats 0
namespace YtndgbfpcnkmihaaGreatDoorS
set_option maxRecDepth 10000000 in
theorem st4_ok [Rho] : EntOK Tryz.prog st4 := station (by kernel_rfl) (L := []) all0 (fuel := nat_lit 20000) (d := nat_lit 60) (by kernel_rfl)
set_option maxRecDepth 10000000 in
theorem st14_ok [Rho] : EntOK Tryz.prog st14 := station (by kernel_rfl) (L := []) all0 (fuel := nat_lit 20000) (d := nat_lit 60) (by kernel_rfl)
set_option maxRecDepth 10000000 in
theorem st24_ok [Rho] : EntOK Tryz.prog st24 := station (by kernel_rfl) (L := []) all0 (fuel := nat_lit 20000) (d := nat_lit 60) (by kernel_rfl)
set_option maxRecDepth 10000000 in
theorem st34_ok [Rho] : EntOK Tryz.prog st34 := station (by kernel_rfl) (L := []) all0 (fuel := nat_lit 20000) (d := nat_lit 60) (by kernel_rfl)
set_option maxRecDepth 10000000 in
theorem st44_ok [Rho] : EntOK Tryz.prog st44 := station (by kernel_rfl) (L := []) all0 (fuel := nat_lit 20000) (d := nat_lit 60) (by kernel_rfl)
set_option maxRecDepth 10000000 in
theorem st55_ok [Rho] : EntOK Tryz.prog st55 := station (by kernel_rfl) (L := []) all0 (fuel := nat_lit 20000) (d := nat_lit 60) (by kernel_rfl)
end YtndgbfpcnkmihaaGreatDoorS
