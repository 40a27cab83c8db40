/- All contracts of the places at hand. -/
import Derived.Test.YtjbgpcpamdbjlaaDoorRG
import Derived.Test.YtjbgpcpamdbjlaaDoorRP
import Derived.Test.YtjbgpcpamdbjlaaDoorRQ
