/- What the printed walks lean on: the texts of the program, the fields of its structs. -/
import Derived.Test.YtmjoeilahbfonaaDoorHwS
import Derived.Test.YtmjoeilahbfonaaDoorProg
import Derived.KernelRfl
set_option linter.unusedVariables false
set_option linter.unusedSimpArgs false
namespace Go.Hw
open Go Go.Proofs
def S_1_0_2 : ByteArray := ⟨#[49, 46, 48, 46, 50]⟩
def S__ : ByteArray := ⟨#[46]⟩
def S_0123456789__x : ByteArray := ⟨#[48, 49, 50, 51, 52, 53, 54, 55, 56, 57, 46, 45, 120]⟩
theorem mixed : Tryd.prog.follows .mixedOrders = true := by kernel_rfl
theorem places51 : Ru Tryd.prog ((#[Go.Field.mk "L" 22 0 false "" "" 0, Go.Field.mk "S" 9 1 false "" "" 24, Go.Field.mk "N" 3 2 false "" "" 40, Go.Field.mk "Yes" 4 3 false "" "" 48, Go.Field.mk "E" 26 4 false "" "" 56]).mapM fun f => do pure (f.offset, ← sizeOf f.type)) #[(0, 1), (1, 1), (2, 1), (3, 1), (4, 1)] := fun w => by simp
end Go.Hw
