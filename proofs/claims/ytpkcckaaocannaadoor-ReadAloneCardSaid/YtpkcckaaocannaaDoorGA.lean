/- All printed walks. -/
import Derived.Test.YtpkcckaaocannaaDoorG2
