/- The printed functions of layer 02 that all laws stand on. -/
import Derived.Test.YtonjkoeacedaiaaDoorRx2
import Derived.Test.YtonjkoeacedaiaaDoorRx7
