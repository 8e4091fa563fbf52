/- What is laid is read (plain). -/
import Derived.Test.YtgobibgpkcdmdaaDoorWShips
set_option linter.all false
namespace Go.Proofs.YtgobibgpkcdmdaaDoor
open Go Go.RowKit
theorem has_pos {y : List UInt8} {a n : Nat} (h : a + n ≤ y.length) : Rr.has ⟨y, a, 0⟩ (n : Int) = true := by simp [Rr.has]; omega
theorem take_pos {y : List UInt8} {a n : Nat} (h : a + n ≤ y.length) : Rr.take ⟨y, a, 0⟩ n = ⟨y, a + n, 0⟩ := by unfold Rr.take; rw [if_pos (has_pos h)]
theorem val_pos {y : List UInt8} {a n : Nat} (h : a + n ≤ y.length) : Rr.val ⟨y, a, 0⟩ n = leVal ((y.drop a).take n) := by unfold Rr.val; rw [if_pos (has_pos h)]
theorem rs_pos {y : List UInt8} (h : 11 ≤ y.length) : rs1 y = ⟨y, 1, 0⟩ ∧ rs2 y = ⟨y, 5, 0⟩ ∧ rs3 y = ⟨y, 9, 0⟩ ∧ rs4 y = ⟨y, 11, 0⟩ ∧ rs5 y = ⟨y, y.length, 0⟩ ∧ (rs4 y).blk (((rs4 y).inp.length : Int) - (rs4 y).at_) = y.drop 11 := by
  have h1 : rs1 y = ⟨y, 1, 0⟩ := take_pos (by omega)
  have h2 : rs2 y = ⟨y, 5, 0⟩ := by unfold rs2; rw [h1]; exact take_pos (by omega)
  have h3 : rs3 y = ⟨y, 9, 0⟩ := by unfold rs3; rw [h2]; exact take_pos (by omega)
  have h4 : rs4 y = ⟨y, 11, 0⟩ := by unfold rs4; rw [h3]; exact take_pos (by omega)
  have e : ((y.length : Int) - (11 : Nat)) = ((y.length - 11 : Nat) : Int) := by omega
  have hh : Rr.has ⟨y, 11, 0⟩ ((y.length - 11 : Nat) : Int) = true := has_pos (by omega)
  refine ⟨h1, h2, h3, h4, ?_, ?_⟩
  · unfold rs5; rw [h4]
    show Rr.blkd ⟨y, 11, 0⟩ ((y.length : Int) - (11 : Nat)) = _
    rw [e]
    unfold Rr.blkd
    rw [if_pos hh]
    simp
    omega
  · rw [h4]
    show Rr.blk ⟨y, 11, 0⟩ ((y.length : Int) - (11 : Nat)) = _
    rw [e]
    unfold Rr.blk
    rw [if_pos hh]
    exact List.take_of_length_le (by simp)
theorem of_body (p : Pk) (h1 : p.kind < 256) (h2 : p.len < 4294967296) (h3 : p.sum < 4294967296) (h4 : p.num < 65536) : Pk.of p.body = p ∧ (rs5 p.body).ended = 0 := by
  have hl := p.body_length
  obtain ⟨e1, e2, e3, e4, e5, e6⟩ := rs_pos (y := p.body) (by omega)
  constructor
  · unfold Pk.of
    rw [e6, e1, e2, e3, val_pos (by omega), val_pos (by omega), val_pos (by omega), val_pos (by omega)]
    have hb : p.body = le 1 p.kind ++ (le 4 p.len ++ (le 4 p.sum ++ (le 2 p.num ++ p.rest))) := by simp [Pk.body]
    have d0 : (p.body.drop 0).take 1 = le 1 p.kind := by rw [hb, List.drop_zero, List.take_left']; simp
    have d1 : p.body.drop 1 = le 4 p.len ++ (le 4 p.sum ++ (le 2 p.num ++ p.rest)) := by rw [hb, List.drop_left']; simp
    have d5 : p.body.drop 5 = le 4 p.sum ++ (le 2 p.num ++ p.rest) := by
      rw [show 5 = 1 + 4 from rfl, ← List.drop_drop, d1, List.drop_left']; simp
    have d9 : p.body.drop 9 = le 2 p.num ++ p.rest := by
      rw [show 9 = 5 + 4 from rfl, ← List.drop_drop, d5, List.drop_left']; simp
    have d11 : p.body.drop 11 = p.rest := by
      rw [show 11 = 9 + 2 from rfl, ← List.drop_drop, d9, List.drop_left']; simp
    rw [d0, d1, d5, d9, d11, List.take_left' (by simp), List.take_left' (by simp), List.take_left' (by simp)]
    rw [leVal_le, leVal_le, leVal_le, leVal_le]
    rw [Nat.mod_eq_of_lt (by omega), Nat.mod_eq_of_lt (by omega), Nat.mod_eq_of_lt (by omega), Nat.mod_eq_of_lt (by omega)]
  · rw [e5]; simp [Rr.ended]
theorem rd1_bytes {p : Pk} (h1 : p.kind = 1) (h2 : 1 ≤ p.len ∧ p.len ≤ 40960) (h3 : p.sum < 4294967296) (h4 : p.num < 65536) (hf : p.form1 = true) : rd1 p.bytes = some p := by
  obtain ⟨e1, e2⟩ := of_body p (by omega) (by omega) h3 h4
  unfold rd1
  rw [show raw p.bytes = some p.body from raw_bytes _]
  simp only [e1, e2, h1, hf, decide_eq_true h2]
  simp
theorem rd2_bytes {p : Pk} (h1 : p.kind = 2) (h2 : 1 ≤ p.len ∧ p.len ≤ 40960) (h3 : p.sum < 4294967296) (h4 : p.num < 65536) (hf : p.form2 = true) : rd2 p.bytes = some p := by
  obtain ⟨e1, e2⟩ := of_body p (by omega) (by omega) h3 h4
  unfold rd2
  rw [show raw p.bytes = some p.body from raw_bytes _]
  simp only [e1, e2, h1, hf, decide_eq_true h2]
  simp
end Go.Proofs.YtgobibgpkcdmdaaDoor
