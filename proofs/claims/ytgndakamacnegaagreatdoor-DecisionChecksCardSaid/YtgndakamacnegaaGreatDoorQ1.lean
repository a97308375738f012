/- Equations of functions, in parts. -/
import Derived.Test.YtgndakamacnegaaGreatDoorQ1p0
import Derived.Test.YtgndakamacnegaaGreatDoorQ1p1
import Derived.Test.YtgndakamacnegaaGreatDoorQ1p2
import Derived.Test.YtgndakamacnegaaGreatDoorQ1p3
import Derived.Test.YtgndakamacnegaaGreatDoorQ1p4
import Derived.Test.YtgndakamacnegaaGreatDoorQ1p5
