/- Equations of functions, in parts. -/
import Derived.Test.YtgndakamacnegaaDoorQ1p0
import Derived.Test.YtgndakamacnegaaDoorQ1p1
import Derived.Test.YtgndakamacnegaaDoorQ1p2
import Derived.Test.YtgndakamacnegaaDoorQ1p3
import Derived.Test.YtgndakamacnegaaDoorQ1p4
import Derived.Test.YtgndakamacnegaaDoorQ1p5
