/- All printed walks. -/
import Derived.Test.YtfbcjibdgicaoaaGreatDoorG7
