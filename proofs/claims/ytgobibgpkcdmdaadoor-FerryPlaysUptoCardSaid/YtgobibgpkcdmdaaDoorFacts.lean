/- Facts on the seat's slice types, each by the kernel. -/
import Derived.Test.YtgobibgpkcdmdaaDoorChecked
import Derived.Test.YtgobibgpkcdmdaaDoorRules2
import Derived.KernelRfl
set_option linter.all false
namespace Go.Proofs.YtgobibgpkcdmdaaDoor
theorem sl22 : SliceT Tryd.prog 22 39 6 64 (.agg #[(.int .i64 0), (.bool false), (.int .i64 0), (.int .i64 0), (.int .u32 0), (.slice none 0 0)]) := ⟨Tryd.underlying22, by kernel_rfl, by kernel_rfl, by decide⟩
theorem sl33 : SliceT Tryd.prog 33 37 1 24 (.slice none 0 0) := ⟨Tryd.underlying33, by kernel_rfl, by kernel_rfl, by decide⟩
theorem sl37 : SliceT Tryd.prog 37 5 1 1 (.int .u8 0) := ⟨Tryd.underlying37, by kernel_rfl, by kernel_rfl, by decide⟩
theorem sl43 : SliceT Tryd.prog 43 51 4 32 (.agg #[(.int .i64 0), (.int .i64 0), (.int .i64 0), (.int .u32 0)]) := ⟨Tryd.underlying43, by kernel_rfl, by kernel_rfl, by decide⟩
theorem sl60 : SliceT Tryd.prog 60 3 1 8 (.int .i64 0) := ⟨Tryd.underlying60, by kernel_rfl, by kernel_rfl, by decide⟩
theorem sl62 : SliceT Tryd.prog 62 4 1 1 (.bool false) := ⟨Tryd.underlying62, by kernel_rfl, by kernel_rfl, by decide⟩
theorem sl70 : SliceT Tryd.prog 70 124 17 96 (.agg #[(.int .i64 0), (.int .i64 0), (.int .i64 0), (.int .i64 0), (.bool false), (.int .u32 0), (.int .u32 0), (.int .u32 0), (.int .u32 0), (.int .u32 0), (.int .u32 0), (.int .u32 0), (.int .u32 0), (.int .u32 0), (.int .i64 0), (.int .i64 0), (.int .i64 0)]) := ⟨Tryd.underlying70, by kernel_rfl, by kernel_rfl, by decide⟩
theorem sl71 : SliceT Tryd.prog 71 160 8 64 (.agg #[(.int .i64 0), (.int .i64 0), (.int .i64 0), (.int .i64 0), (.bool false), (.int .i64 0), (.int .i64 0), (.int .i64 0)]) := ⟨Tryd.underlying71, by kernel_rfl, by kernel_rfl, by decide⟩
theorem sl72 : SliceT Tryd.prog 72 162 4 32 (.agg #[(.int .i64 0), (.int .i64 0), (.int .i64 0), (.bool false)]) := ⟨Tryd.underlying72, by kernel_rfl, by kernel_rfl, by decide⟩
theorem sl73 : SliceT Tryd.prog 73 110 32 128 (.agg #[(.int .u32 0), (.int .u32 0), (.int .u32 0), (.int .u32 0), (.int .u32 0), (.int .u32 0), (.int .u32 0), (.int .u32 0), (.int .u32 0), (.int .u32 0), (.int .u32 0), (.int .u32 0), (.int .u32 0), (.int .u32 0), (.int .u32 0), (.int .u32 0), (.int .u32 0), (.int .u32 0), (.int .u32 0), (.int .u32 0), (.int .u32 0), (.int .u32 0), (.int .u32 0), (.int .u32 0), (.int .u32 0), (.int .u32 0), (.int .u32 0), (.int .u32 0), (.int .u32 0), (.int .u32 0), (.int .u32 0), (.int .u32 0)]) := ⟨Tryd.underlying73, by kernel_rfl, by kernel_rfl, by decide⟩
theorem sl74 : SliceT Tryd.prog 74 164 2 16 (.agg #[(.int .i64 0), (.int .i64 0)]) := ⟨Tryd.underlying74, by kernel_rfl, by kernel_rfl, by decide⟩
theorem sl81 : SliceT Tryd.prog 81 173 2 16 (.agg #[(.int .i64 0), (.int .i64 0)]) := ⟨Tryd.underlying81, by kernel_rfl, by kernel_rfl, by decide⟩
theorem sl126 : SliceT Tryd.prog 126 89 1 16 Value.nilIface := ⟨Tryd.underlying126, by kernel_rfl, by kernel_rfl, by decide⟩
theorem sl228 : SliceT Tryd.prog 228 231 2 16 (.agg #[(.int .i64 0), Value.nilFunc]) := ⟨Tryd.underlying228, by kernel_rfl, by kernel_rfl, by decide⟩
theorem sl311 : SliceT Tryd.prog 311 314 4 16 (.agg #[(.int .i32 0), (.int .i32 0), (.int .i32 0), (.int .i32 0)]) := ⟨Tryd.underlying311, by kernel_rfl, by kernel_rfl, by decide⟩
theorem sl327 : SliceT Tryd.prog 327 122 3 24 (.agg #[(.int .i64 0), (.int .i64 0), (.int .i64 0)]) := ⟨Tryd.underlying327, by kernel_rfl, by kernel_rfl, by decide⟩
end Go.Proofs.YtgobibgpkcdmdaaDoor
