/- Printed by a program of mine: all stations. -/
import Derived.Test.YtndgbfpcnkmihaaGreatDoorSt0
import Derived.Test.YtndgbfpcnkmihaaGreatDoorSt1
import Derived.Test.YtndgbfpcnkmihaaGreatDoorSt2
import Derived.Test.YtndgbfpcnkmihaaGreatDoorSt3
import Derived.Test.YtndgbfpcnkmihaaGreatDoorSt4
import Derived.Test.YtndgbfpcnkmihaaGreatDoorSt5
import Derived.Test.YtndgbfpcnkmihaaGreatDoorSt6
import Derived.Test.YtndgbfpcnkmihaaGreatDoorSt7
import Derived.Test.YtndgbfpcnkmihaaGreatDoorSt8
import Derived.Test.YtndgbfpcnkmihaaGreatDoorSt9
import Derived.Test.YtndgbfpcnkmihaaGreatDoorSt10
open Go Go.AS Go.RowKit Go.Proofs
namespace YtndgbfpcnkmihaaGreatDoorS
noncomputable def stL : List Ent := [st0, st1, st2, st53, st54, st55, st56, st57, st58, st59]
theorem stL_ok [Rho] : ∀ e ∈ stL, EntOK Tryz.prog e := (allc st0_ok (allc st1_ok (allc st2_ok (allc st53_ok (allc st54_ok (allc st55_ok (allc st56_ok (allc st57_ok (allc st58_ok (allc st59_ok all0))))))))))
end YtndgbfpcnkmihaaGreatDoorS
