import Derived.Test.YtbppdpbagmbmpaaGreatDoorDoJ
import Derived.Lib.SlicesCompact
import Derived.Sort.Grow
namespace Go.Dn
open Go Go.Sort
theorem grows_grow (w : World) (os : Array Go.Obj) : Grows w (grow w os) :=
  ⟨by simp, rfl, rfl, rfl, fun b hb => by simp [grow, Array.getElem?_append, hb]⟩
end Go.Dn
