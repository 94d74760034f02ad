/- All printed walks. -/
import Derived.Test.YtociikgdocjfnaaDoorG8
