/- All printed walks. -/
import Derived.Test.YtfbcjibdgicaoaaDoorG2
