/- EvalDeep: what the last text leans on. Own work of this session. -/
import Derived.Test.YtfkhglkcplnppaaDoorArgs
import Derived.Test.YtfkhglkcplnppaaDoorE11
