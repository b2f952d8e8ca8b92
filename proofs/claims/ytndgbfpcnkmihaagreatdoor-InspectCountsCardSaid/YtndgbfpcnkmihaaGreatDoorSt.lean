/- Printed by a program of mine: memories at stations, all parts. -/
import Derived.Test.YtndgbfpcnkmihaaGreatDoorStp3
