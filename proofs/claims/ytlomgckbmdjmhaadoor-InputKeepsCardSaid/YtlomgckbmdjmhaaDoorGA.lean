/- All printed walks. -/
import Derived.Test.YtlomgckbmdjmhaaDoorG4
