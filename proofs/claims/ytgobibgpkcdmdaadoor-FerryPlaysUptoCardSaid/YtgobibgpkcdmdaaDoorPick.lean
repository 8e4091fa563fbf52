/- A number taken modulo a length. -/
import Derived.Test.YtgobibgpkcdmdaaDoorDraw
set_option linter.all false
namespace Go.Proofs.YtgobibgpkcdmdaaDoor
open Go Go.RowKit
/-- A number taken modulo n, as 'int(uint(z) % uint(n))'. -/
def pick (z : Int) (n : Nat) : Nat := (z % 18446744073709551616 % (n : Int)).toNat
theorem pick_lt (z : Int) {n : Nat} (h : 1 ≤ n) : pick z n < n := by
  unfold pick
  have h1 := Int.emod_lt_of_pos (z % 18446744073709551616) (b := (n : Int)) (by omega)
  have h2 := Int.emod_nonneg (z % 18446744073709551616) (b := (n : Int)) (by omega)
  omega
theorem pick_eq (z : Int) {n : Nat} (h : 1 ≤ n) (hn : n ≤ 4611686018427387904) : wrap64 ((IntKind.u64.wrap z).tmod (n : Int)) = (pick z n : Int) := by
  have h1 := Int.emod_lt_of_pos (z % 18446744073709551616) (b := (n : Int)) (by omega)
  have h2 := Int.emod_nonneg (z % 18446744073709551616) (b := (n : Int)) (by omega)
  have e1 : IntKind.u64.wrap z = z % 18446744073709551616 := by simp [IntKind.wrap, IntKind.bits, IntKind.signed]
  have h3 : 0 ≤ z % 18446744073709551616 := by omega
  rw [e1, Int.tmod_eq_emod_of_nonneg h3]
  unfold pick
  generalize z % 18446744073709551616 % (n : Int) = y at h1 h2
  unfold wrap64
  omega
theorem pick_eq2 (z : Int) {n : Nat} (h : 1 ≤ n) (hn : n ≤ 4611686018427387904) : IntKind.i64.wrap ((IntKind.u64.wrap z).tmod (n : Int)) = (pick z n : Int) := by
  have h1 := Int.emod_lt_of_pos (z % 18446744073709551616) (b := (n : Int)) (by omega)
  have h2 := Int.emod_nonneg (z % 18446744073709551616) (b := (n : Int)) (by omega)
  have e1 : IntKind.u64.wrap z = z % 18446744073709551616 := by simp [IntKind.wrap, IntKind.bits, IntKind.signed]
  have h3 : 0 ≤ z % 18446744073709551616 := by omega
  rw [e1, Int.tmod_eq_emod_of_nonneg h3, IntWalk.i64_in _ (by omega)]
  unfold pick
  omega
end Go.Proofs.YtgobibgpkcdmdaaDoor
