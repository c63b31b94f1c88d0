/- All equations. Written by a program. -/
import Derived.Test.YtdbaglogmdkbpaaDoorY0
import Derived.Test.YtdbaglogmdkbpaaDoorY1
import Derived.Test.YtdbaglogmdkbpaaDoorY2
