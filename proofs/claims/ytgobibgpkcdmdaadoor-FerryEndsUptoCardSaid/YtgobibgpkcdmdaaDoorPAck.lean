/- Acknowledgements (plain). -/
import Derived.Test.YtgobibgpkcdmdaaDoorPLine
set_option linter.all false
namespace Go.Proofs.YtgobibgpkcdmdaaDoor
open Go Go.RowKit
theorem lowOf_le (l : List (Option (List UInt8))) : lowOf l ≤ l.length := List.Sublist.length_le (List.takeWhile_sublist _)
theorem lowOf_got (l : List (Option (List UInt8))) : ∀ i, i < lowOf l → (l[i]?.join).isSome = true := by
  induction l with
  | nil => intro i h; simp [lowOf] at h
  | cons o l ih =>
    intro i h
    unfold lowOf at h
    cases ho : o with
    | none => rw [ho, List.takeWhile_cons_of_neg (by simp)] at h; simp at h
    | some x =>
      rw [ho, List.takeWhile_cons_of_pos (by simp), List.length_cons] at h
      cases i with
      | zero => rfl
      | succ i => rw [List.getElem?_cons_succ]; exact ih i (by unfold lowOf; omega)
theorem lowOf_next (l : List (Option (List UInt8))) : l[lowOf l]? = none ∨ l[lowOf l]? = some none := by
  induction l with
  | nil => exact .inl rfl
  | cons o l ih =>
    unfold lowOf
    cases ho : o with
    | none => rw [List.takeWhile_cons_of_neg (by simp)]; exact .inr rfl
    | some x => rw [List.takeWhile_cons_of_pos (by simp), List.length_cons, List.getElem?_cons_succ]; exact ih
theorem lowOf_ge (l : List (Option (List UInt8))) (k : Nat) (hk : k ≤ l.length) (h : ∀ i, i < k → (l[i]?.join).isSome = true) : k ≤ lowOf l := by
  refine Classical.byContradiction fun hlt => ?_
  have h1 := h (lowOf l) (by omega)
  rcases lowOf_next l with e | e <;> rw [e] at h1 <;> simp at h1
theorem got_rcOf (C : List UInt8) (g : Nat → Bool) (i : Nat) : (((rcOf C g).parts[i]?).join).isSome = (decide (i < np C) && g i) := by
  by_cases h : i < np C
  · rw [rcOf_get C g h]; cases hg : g i <;> simp [h]
  · rw [List.getElem?_eq_none (by rw [rcOf_length]; omega)]; simp [h]
theorem flagsTo_bit (l : List (Option (List UInt8))) (low : Nat) : ∀ n k, k < n → (flagsTo l low n / 2 ^ k % 2 = 1 ↔ (l[low + 1 + k]?.join).isSome = true) := by
  intro n
  induction n with
  | zero => intro k h; omega
  | succ n ih =>
    intro k h
    have hlt := flagsTo_lt l low n
    unfold flagsTo
    by_cases e : k = n
    · subst e
      split
      · rename_i hs
        rw [Nat.add_div_right _ (Nat.pow_pos (by decide)), Nat.div_eq_of_lt hlt]
        simp [hs]
      · rename_i hs
        rw [Nat.add_zero, Nat.div_eq_of_lt hlt]
        simp [hs]
    · rw [← ih k (by omega)]
      split
      · obtain ⟨d, rfl⟩ : ∃ d, n = k + 1 + d := ⟨n - (k + 1), by omega⟩
        have hp : (2 : Nat) ^ (k + 1 + d) = 2 ^ k * (2 * 2 ^ d) := by rw [Nat.pow_add, Nat.pow_succ, Nat.mul_assoc]
        rw [hp, Nat.add_mul_div_left _ _ (Nat.pow_pos (by decide)), Nat.add_mul_mod_self_left]
      · rw [Nat.add_zero]
theorem flagsTo_lt2 (l : List (Option (List UInt8))) (low : Nat) (hl : low ≤ l.length) (n : Nat) : flagsTo l low n < 2 ^ (l.length - low - 1) := by
  induction n with
  | zero => simp [flagsTo]; exact Nat.pow_pos (by decide)
  | succ n ih =>
    unfold flagsTo
    split
    · rename_i hs
      have hn : low + 1 + n < l.length := by
        refine Classical.byContradiction fun h => ?_
        rw [List.getElem?_eq_none (by omega)] at hs
        simp at hs
      have h1 := flagsTo_lt l low n
      have h2 : (2 : Nat) ^ (n + 1) ≤ 2 ^ (l.length - low - 1) := Nat.pow_le_pow_right (by decide) (by omega)
      rw [Nat.pow_succ] at h2
      omega
    · simpa using ih
theorem ack_flag (s : Rc) : (s.ack.rest.headD 0).toNat = flagsTo s.parts (lowOf s.parts) 8 := by
  show (UInt8.ofNat (flagsTo s.parts (lowOf s.parts) 8)).toNat = _
  rw [UInt8.toNat_ofNat']
  exact Nat.mod_eq_of_lt (flagsTo_lt _ _ 8)
theorem rd2_ack {C : List UInt8} (hC : 1 ≤ C.length ∧ C.length ≤ 40960) (g : Nat → Bool) : rd2 (rcOf C g).ack.bytes = some (rcOf C g).ack := by
  have hl := lowOf_le (rcOf C g).parts
  have hn := rcOf_length C g
  refine rd2_bytes rfl hC (csum_lt32 _) ?_ ?_
  · show lowOf (rcOf C g).parts < 65536
    unfold np at hn; omega
  · unfold Pk.form2
    rw [decide_eq_true_eq]
    have hp : (rcOf C g).ack.parts = np C := rfl
    refine ⟨by rw [hp, ← hn]; exact hl, rfl, .inr ?_⟩
    rw [ack_flag, hp]
    have := flagsTo_lt2 (rcOf C g).parts _ hl 8
    rw [hn] at this
    exact Nat.div_eq_of_lt this
/-- What an acknowledgement names has come. -/
theorem ack_got {C : List UInt8} {g : Nat → Bool} {i : Nat} (hi : i < np C) (h : ackBit (rcOf C g).ack i = true) : g i = true := by
  have key : (((rcOf C g).parts[i]?).join).isSome = true := by
    unfold ackBit at h
    rw [decide_eq_true_eq] at h
    have en : (rcOf C g).ack.num = lowOf (rcOf C g).parts := rfl
    rw [ack_flag, en] at h
    rcases h with h | ⟨h1, h2, h3⟩
    · exact lowOf_got _ i h
    · have := (flagsTo_bit (rcOf C g).parts (lowOf (rcOf C g).parts) 8 (i - lowOf (rcOf C g).parts - 1) (by omega)).1 h3
      rwa [show lowOf (rcOf C g).parts + 1 + (i - lowOf (rcOf C g).parts - 1) = i by omega] at this
  rw [got_rcOf] at key
  simp at key
  exact key.2
/-- What has come without a gap ahead of it is named. -/
theorem ack_names {C : List UInt8} {g : Nat → Bool} {i : Nat} (hi : i < np C) (h : ∀ j, j ≤ i → g j = true) : ackBit (rcOf C g).ack i = true := by
  unfold ackBit
  rw [decide_eq_true_eq]
  refine .inl ?_
  have := lowOf_ge (rcOf C g).parts (i + 1) (by rw [rcOf_length]; omega) fun j hj => by
    rw [got_rcOf, h j (by omega)]; simp; omega
  exact this
theorem stake_ack {C : List UInt8} (hC : 1 ≤ C.length ∧ C.length ≤ 40960) (g : Nat → Bool) (a : List Bool) : Sd.take ⟨C, a⟩ (rcOf C g).ack.bytes = (⟨C, ackTo (rcOf C g).ack a a.length⟩, 0) := by
  unfold Sd.take
  rw [rd2_ack hC]
  simp only
  rw [if_pos ⟨rfl, rfl⟩]
theorem ackTo_get (p : Pk) (a : List Bool) (i : Nat) (h : i < a.length) : (ackTo p a a.length)[i]? = some (a[i] || ackBit p i) := by
  rw [List.getElem?_eq_getElem (by simpa using h)]
  simp [ackTo, h]
end Go.Proofs.YtgobibgpkcdmdaaDoor
