/- The walk of ReadWaits beside its argument's opening. -/
import Derived.Test.YtjpmebfegpmccaaWaits
import Derived.Test.YtjpmebfegpmccaaROpen
