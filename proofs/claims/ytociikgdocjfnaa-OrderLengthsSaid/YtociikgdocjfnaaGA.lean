/- All printed walks. -/
import Derived.Test.YtociikgdocjfnaaG3
