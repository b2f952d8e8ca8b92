/- Printed by a program of mine: stations. -/
import Derived.Test.YtndgbfpcnkmihaaGreatDoorProg
import Derived.Test.YtndgbfpcnkmihaaGreatDoorSq0
open Go Go.AS Go.RowKit Go.Proofs
set_option maxHeartbeats 0
namespace YtndgbfpcnkmihaaGreatDoorS
set_option maxRecDepth 10000000 in
theorem st3_ok [Rho] : EntOK Tryz.prog st3 := station (by kernel_rfl) (L := []) all0 (fuel := nat_lit 20000) (d := nat_lit 60) (by kernel_rfl)
set_option maxRecDepth 10000000 in
theorem st13_ok [Rho] : EntOK Tryz.prog st13 := station (by kernel_rfl) (L := []) all0 (fuel := nat_lit 20000) (d := nat_lit 60) (by kernel_rfl)
set_option maxRecDepth 10000000 in
theorem st23_ok [Rho] : EntOK Tryz.prog st23 := station (by kernel_rfl) (L := []) all0 (fuel := nat_lit 20000) (d := nat_lit 60) (by kernel_rfl)
set_option maxRecDepth 10000000 in
theorem st33_ok [Rho] : EntOK Tryz.prog st33 := station (by kernel_rfl) (L := []) all0 (fuel := nat_lit 20000) (d := nat_lit 60) (by kernel_rfl)
set_option maxRecDepth 10000000 in
theorem st43_ok [Rho] : EntOK Tryz.prog st43 := station (by kernel_rfl) (L := []) all0 (fuel := nat_lit 20000) (d := nat_lit 60) (by kernel_rfl)
set_option maxRecDepth 10000000 in
theorem st54_ok [Rho] : EntOK Tryz.prog st54 := station (by kernel_rfl) (L := []) all0 (fuel := nat_lit 20000) (d := nat_lit 60) (by kernel_rfl)
end YtndgbfpcnkmihaaGreatDoorS
