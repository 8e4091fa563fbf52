/- The moves of a line, out of the cells that came in. -/
import Derived.Test.YtgobibgpkcdmdaaDoorWMain
import Derived.Test.YtgobibgpkcdmdaaDoorFlat
set_option linter.all false
namespace Go.Proofs.YtgobibgpkcdmdaaDoor
open Go Go.RowKit
theorem u32_wf {n : Int} (h : (Lit.int .u32 n).wf = true) : 0 ≤ n ∧ n < 4294967296 := by
  simp [Lit.wf] at h
  have e1 : IntKind.u32.min = 0 := rfl
  have e2 : IntKind.u32.max = 4294967295 := rfl
  omega
theorem mv_of (cs : List Value) (h : FitsAll [.i .i64, .i .i64, .i .i64, .i .u32] cs) : ∃ m : Mv, cs = m.v ∧ m.mask < 4294967296 := by
  obtain ⟨a, cs, rfl, _, h⟩ := h.one
  obtain ⟨b, cs, rfl, _, h⟩ := h.one
  obtain ⟨c, cs, rfl, _, h⟩ := h.one
  obtain ⟨d, cs, rfl, hd, h⟩ := h.one
  obtain rfl := h.nil_inv
  have := u32_wf hd
  refine ⟨⟨a, b, c, d.toNat⟩, ?_, by show d.toNat < _; omega⟩
  simp only [Mv.v]
  rw [Int.toNat_of_nonneg this.1]
end Go.Proofs.YtgobibgpkcdmdaaDoor
