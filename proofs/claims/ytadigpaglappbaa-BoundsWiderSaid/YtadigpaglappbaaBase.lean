/- What every text of walks imports: the same set of the walk's laws in every seat. -/
import Derived.WalkKit
import Derived.WalkSpells
import Derived.WalkLawsBesides
import Derived.Lib.Hide
import Derived.Shelf.Strconv.Itoa0
import Derived.Shelf.Bits.Mul64
