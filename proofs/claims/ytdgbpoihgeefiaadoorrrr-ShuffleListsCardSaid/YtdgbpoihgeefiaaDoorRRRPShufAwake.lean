/- The shuffle's fixed facts. -/
import Derived.Test.YtdgbpoihgeefiaaDoorRRRAF
namespace Go.Mg
open Go
theorem awake08 : f_law08_Awake 100000 = some true := by decide +kernel
end Go.Mg
