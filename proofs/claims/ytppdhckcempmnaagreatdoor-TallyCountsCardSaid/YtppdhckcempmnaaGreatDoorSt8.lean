/- Printed by a program of mine: stations. -/
import Derived.Test.YtppdhckcempmnaaGreatDoorProg
import Derived.Test.YtppdhckcempmnaaGreatDoorSt0
import Derived.Test.YtppdhckcempmnaaGreatDoorSt1
import Derived.Test.YtppdhckcempmnaaGreatDoorSt2
import Derived.Test.YtppdhckcempmnaaGreatDoorSt3
import Derived.Test.YtppdhckcempmnaaGreatDoorSt4
import Derived.Test.YtppdhckcempmnaaGreatDoorSt5
import Derived.Test.YtppdhckcempmnaaGreatDoorSt6
open Go Go.AE Go.RowKit Go.Proofs
set_option maxHeartbeats 0
namespace YtppdhckcempmnaaGreatDoorS
set_option maxRecDepth 10000000 in
theorem st28_ok : EntOK Tryz.prog st28 := station (by kernel_rfl) (L := [st27]) (allc st27_ok all0) (fuel := nat_lit 20000) (d := nat_lit 60) (by kernel_rfl)
end YtppdhckcempmnaaGreatDoorS
