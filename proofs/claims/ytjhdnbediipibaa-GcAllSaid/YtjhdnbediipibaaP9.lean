import Derived.Test.YtjhdnbediipibaaP8
import Derived.Test.YtjhdnbediipibaaE8
/-! The laws of chapter 12 with two heaps: what they lean on. -/
