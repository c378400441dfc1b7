import Derived.Test.YtjhdnbediipibaaK4
import Derived.Deep.OwnRows
import Derived.Deep.Cut
import Derived.Deep.CutRange
import Derived.Deep.CutBlock
/-! For the laws that cut. -/
