/- Imports alone: regions whose loads are held. -/
import Derived.Deep.RegionHeld3
import Derived.Lib.QuietBelow
