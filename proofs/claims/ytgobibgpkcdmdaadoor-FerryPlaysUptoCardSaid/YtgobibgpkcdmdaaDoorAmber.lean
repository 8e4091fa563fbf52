/- The document's first example, computed. -/
import Derived.Test.YtgobibgpkcdmdaaDoorWRTake2
set_option linter.all false
namespace Go.Proofs.YtgobibgpkcdmdaaDoor
open Go Go.RowKit
def amb : List UInt8 := [97, 109, 98, 101, 114]
theorem csum_amb : csum amb = 1190008450 := by kernel_rfl
def amS : Sd := ⟨amb, [false]⟩
def amPk : Pk := ⟨1, 5, 1190008450, 0, amb⟩
theorem am_tick : amS.tick = [amPk.bytes] := by kernel_rfl
theorem am_len : amPk.bytes.length = 20 := by kernel_rfl
theorem am_head : amPk.bytes.take 16 = [1, 5, 0, 0, 0, 130, 22, 238, 70, 0, 0, 97, 109, 98, 101, 114] := by kernel_rfl
def amR : Rc := ⟨true, 5, 1190008450, [some amb]⟩
theorem am_rd : rd1 amPk.bytes = some amPk := by kernel_rfl
theorem am_take : Rc.fresh.take amPk.bytes = (amR, amR.ack.bytes, 0) := by kernel_rfl
theorem am_ack : amR.ack.bytes.take 12 = [2, 5, 0, 0, 0, 130, 22, 238, 70, 1, 0, 0] := by kernel_rfl
theorem am_alen : amR.ack.bytes.length = 16 := by kernel_rfl
theorem am_cargo : amR.cargo = (amb, true) := by kernel_rfl
theorem am_stake : amS.take amR.ack.bytes = (⟨amb, [true]⟩, 0) := by kernel_rfl
theorem am_left : amS.left = 1 := by kernel_rfl
theorem am_left0 : (Sd.mk amb [true]).left = 0 := by kernel_rfl
end Go.Proofs.YtgobibgpkcdmdaaDoor
