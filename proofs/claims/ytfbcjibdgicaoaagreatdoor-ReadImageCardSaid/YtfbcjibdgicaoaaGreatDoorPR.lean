/- Plain facts: those of packages 08 and 09 and below. -/
import Derived.Test.YtfbcjibdgicaoaaGreatDoorPG
import Derived.Test.YtfbcjibdgicaoaaGreatDoorPQ
