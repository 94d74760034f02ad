/- All printed walks. -/
import Derived.Test.YtgljelhakcallaaDoorG3
