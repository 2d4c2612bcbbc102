/- The functions of the program are those of the run: printed by a program. -/
import Derived.Test.YtbknmljjoahajaaGreatDoorNwQuick3
import Derived.Test.YtbknmljjoahajaaGreatDoorNwTree
import Derived.Test.YtbknmljjoahajaaGreatDoorNwGlob
import Derived.KernelRfl
import Derived.Test.YtbknmljjoahajaaGreatDoorProg
set_option linter.unusedVariables false
namespace Go.Abs
namespace Run
theorem l362 : LeafA Go.Proofs.Tryz.prog glob 362 q362 := leafA_fast (m := 12) (by kernel_rfl)
theorem l363 : LeafA Go.Proofs.Tryz.prog glob 363 q363 := leafA_fast (m := 12) (by kernel_rfl)
theorem l364 : LeafA Go.Proofs.Tryz.prog glob 364 q364 := leafA_fast (m := 12) (by kernel_rfl)
theorem l366 : LeafA Go.Proofs.Tryz.prog glob 366 q366 := leafA_fast (m := 12) (by kernel_rfl)
theorem l367 : LeafA Go.Proofs.Tryz.prog glob 367 q367 := leafA_fast (m := 12) (by kernel_rfl)
theorem l369 : LeafA Go.Proofs.Tryz.prog glob 369 q369 := leafA_fast (m := 12) (by kernel_rfl)
theorem l371 : LeafA Go.Proofs.Tryz.prog glob 371 q371 := leafA_fast (m := 12) (by kernel_rfl)
theorem l372 : LeafA Go.Proofs.Tryz.prog glob 372 q372 := leafA_fast (m := 12) (by kernel_rfl)
theorem l373 : LeafA Go.Proofs.Tryz.prog glob 373 q373 := leafA_fast (m := 12) (by kernel_rfl)
theorem l374 : LeafA Go.Proofs.Tryz.prog glob 374 q374 := leafA_fast (m := 12) (by kernel_rfl)
theorem l375 : LeafA Go.Proofs.Tryz.prog glob 375 q375 := leafA_fast (m := 12) (by kernel_rfl)
theorem l378 : LeafA Go.Proofs.Tryz.prog glob 378 q378 := leafA_fast (m := 12) (by kernel_rfl)
theorem l379 : LeafA Go.Proofs.Tryz.prog glob 379 q379 := leafA_fast (m := 12) (by kernel_rfl)
theorem l381 : LeafA Go.Proofs.Tryz.prog glob 381 q381 := leafA_fast (m := 12) (by kernel_rfl)
theorem l382 : LeafA Go.Proofs.Tryz.prog glob 382 q382 := leafA_fast (m := 12) (by kernel_rfl)
theorem l393 : LeafA Go.Proofs.Tryz.prog glob 393 q393 := leafA_fast (m := 12) (by kernel_rfl)
theorem l396 : LeafA Go.Proofs.Tryz.prog glob 396 q396 := leafA_fast (m := 12) (by kernel_rfl)
theorem l397 : LeafA Go.Proofs.Tryz.prog glob 397 q397 := leafA_fast (m := 12) (by kernel_rfl)
theorem l398 : LeafA Go.Proofs.Tryz.prog glob 398 q398 := leafA_fast (m := 12) (by kernel_rfl)
theorem l399 : LeafA Go.Proofs.Tryz.prog glob 399 q399 := leafA_fast (m := 12) (by kernel_rfl)
theorem l403 : LeafA Go.Proofs.Tryz.prog glob 403 q403 := leafA_fast (m := 12) (by kernel_rfl)
end Run
end Go.Abs
