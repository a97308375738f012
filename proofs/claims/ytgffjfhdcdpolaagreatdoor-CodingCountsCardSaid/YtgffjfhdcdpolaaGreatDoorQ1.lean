/- Equations of functions, in parts. -/
import Derived.Test.YtgffjfhdcdpolaaGreatDoorQ1p0
import Derived.Test.YtgffjfhdcdpolaaGreatDoorQ1p1
import Derived.Test.YtgffjfhdcdpolaaGreatDoorQ1p2
import Derived.Test.YtgffjfhdcdpolaaGreatDoorQ1p3
