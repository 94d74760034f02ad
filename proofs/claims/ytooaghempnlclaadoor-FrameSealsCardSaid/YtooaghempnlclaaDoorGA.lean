/- All printed walks. -/
import Derived.Test.YtooaghempnlclaaDoorG3
