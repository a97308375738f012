/- Equations of functions, in parts. -/
import Derived.Test.YtoakchnegkmepaaQ1p0
import Derived.Test.YtoakchnegkmepaaQ1p1
import Derived.Test.YtoakchnegkmepaaQ1p2
import Derived.Test.YtoakchnegkmepaaQ1p3
import Derived.Test.YtoakchnegkmepaaQ1p4
import Derived.Test.YtoakchnegkmepaaQ1p5
import Derived.Test.YtoakchnegkmepaaQ1p6
import Derived.Test.YtoakchnegkmepaaQ1p7
import Derived.Test.YtoakchnegkmepaaQ1p8
import Derived.Test.YtoakchnegkmepaaQ1p9
import Derived.Test.YtoakchnegkmepaaQ1p10
import Derived.Test.YtoakchnegkmepaaQ1p11
