/- All equations. Written by a program. -/
import Derived.Test.YtlioalaehkohlaaDoorY0
import Derived.Test.YtlioalaehkohlaaDoorY1
import Derived.Test.YtlioalaehkohlaaDoorY2
