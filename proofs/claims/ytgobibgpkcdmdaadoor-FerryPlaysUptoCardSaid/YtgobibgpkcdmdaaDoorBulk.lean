/- What the bound of the second form gives. -/
import Derived.Test.YtgobibgpkcdmdaaDoorRows
set_option linter.all false
namespace Go.Proofs.YtgobibgpkcdmdaaDoor.bulks
theorem pos {H : Type} (d : DataW H) : 0 < Rows.uptoBulk d := by
  cases d with
  | lit l => cases l <;> simp [Rows.uptoBulk]
  | _ => simp [Rows.uptoBulk]
theorem mem {H : Type} {d : DataW H} : ∀ {l : List (DataW H)}, d ∈ l → Rows.uptoBulk d ≤ Rows.uptoBulkAll l
  | _ :: _, h => by
    rw [Rows.uptoBulkAll]
    rcases List.mem_cons.1 h with rfl | h
    · omega
    · have := mem h; omega
theorem count {H : Type} : ∀ l : List (DataW H), l.length ≤ Rows.uptoBulkAll l
  | [] => by simp
  | d :: l => by have := pos d; have := count l; rw [Rows.uptoBulkAll, List.length_cons]; omega
theorem small {H : Type} {l : List (DataW H)} (h : Rows.uptoSmall H l = true) : Rows.uptoBulkAll l ≤ 1048576 := by simpa [Rows.uptoSmall] using h
/-- A slice among the arguments. -/
theorem slice {H : Type} {l es sp : List (DataW H)} (h : Rows.uptoSmall H l = true) (hm : DataW.slice es sp ∈ l) : es.length + sp.length ≤ 1048576 := by
  have h1 := small h
  have h2 := mem hm
  rw [Rows.uptoBulk] at h2
  have := count es
  have := count sp
  omega
end Go.Proofs.YtgobibgpkcdmdaaDoor.bulks
