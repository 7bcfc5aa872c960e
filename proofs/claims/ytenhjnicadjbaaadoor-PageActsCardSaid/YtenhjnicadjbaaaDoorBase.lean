/-
  What the device's texts lean on, in a seat that has the pages' texts. No condition.
-/
import Derived.Test.YtenhjnicadjbaaaDoorRefUnpack
import Derived.Test.YtenhjnicadjbaaaDoorRefSectors
