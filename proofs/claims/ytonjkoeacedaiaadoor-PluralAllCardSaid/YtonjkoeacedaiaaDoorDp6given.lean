/- What PluralAll stands on: layer 4's contracts, the law's Of and Rank, dec.Int. -/
import Derived.Test.YtonjkoeacedaiaaDoorHx2
import Derived.Test.YtonjkoeacedaiaaDoorFx1
