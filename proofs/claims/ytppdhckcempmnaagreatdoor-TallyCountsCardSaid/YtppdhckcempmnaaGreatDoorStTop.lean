/- Printed by a program of mine: all stations. -/
import Derived.Test.YtppdhckcempmnaaGreatDoorSt0
import Derived.Test.YtppdhckcempmnaaGreatDoorSt1
import Derived.Test.YtppdhckcempmnaaGreatDoorSt2
import Derived.Test.YtppdhckcempmnaaGreatDoorSt3
import Derived.Test.YtppdhckcempmnaaGreatDoorSt4
import Derived.Test.YtppdhckcempmnaaGreatDoorSt5
import Derived.Test.YtppdhckcempmnaaGreatDoorSt6
import Derived.Test.YtppdhckcempmnaaGreatDoorSt7
import Derived.Test.YtppdhckcempmnaaGreatDoorSt8
import Derived.Test.YtppdhckcempmnaaGreatDoorSt9
import Derived.Test.YtppdhckcempmnaaGreatDoorSt10
import Derived.Test.YtppdhckcempmnaaGreatDoorSt11
open Go Go.AE Go.RowKit Go.Proofs
namespace YtppdhckcempmnaaGreatDoorS
noncomputable def stL : List Ent := [st0, st23, st24, st25, st26, st34, st35]
theorem stL_ok : ∀ e ∈ stL, EntOK Tryz.prog e := (allc st0_ok (allc st23_ok (allc st24_ok (allc st25_ok (allc st26_ok (allc st34_ok (allc st35_ok all0)))))))
end YtppdhckcempmnaaGreatDoorS
