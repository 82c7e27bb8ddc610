/- EvalPlaces: what the last text leans on. Own work of this session. -/
import Derived.Test.YtfkhglkcplnppaaDoorSums
import Derived.Test.YtfkhglkcplnppaaDoorE16
