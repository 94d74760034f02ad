/- All printed walks. -/
import Derived.Test.YtooaghempnlclaaG2
