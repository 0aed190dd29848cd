/- The tables, with the law HttpdateReturns. -/
import Derived.Test.YtdbheaapeemlmaaDoorTab04
import Derived.Test.YtdbheaapeemlmaaDoorLaw04R
