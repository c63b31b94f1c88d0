/- All equations. Written by a program. -/
import Derived.Test.YtcnegcjjeakmmaaDoorY0
import Derived.Test.YtcnegcjjeakmmaaDoorY1
import Derived.Test.YtcnegcjjeakmmaaDoorY2
import Derived.Test.YtcnegcjjeakmmaaDoorY3
