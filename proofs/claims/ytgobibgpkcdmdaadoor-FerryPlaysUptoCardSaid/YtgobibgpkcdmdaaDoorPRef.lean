/- A packet is well formed if it is the one that would be made of what it says (plain). -/
import Derived.Test.YtgobibgpkcdmdaaDoorRNum
set_option linter.all false
namespace Go.Proofs.YtgobibgpkcdmdaaDoor
open Go Go.RowKit
theorem le_leVal (l : List UInt8) : le l.length (leVal l) = l := by
  induction l with
  | nil => rfl
  | cons x l ih =>
    have hx := byte_lt x
    simp only [List.length_cons, le, leVal]
    have e1 : (x.toNat + 256 * leVal l) % 256 = x.toNat := by omega
    have e2 : (x.toNat + 256 * leVal l) / 256 = leVal l := by omega
    rw [e1, e2, ih]
    congr 1
    exact UInt8.ofNat_toNat
theorem take_err {s : Rr} {n : Nat} (h : (s.take n).err = 0) : s.err = 0 ∧ s.at_ + n ≤ s.inp.length := by
  unfold Rr.take at h
  split at h
  · rename_i hh; exact Rr.has_ok hh
  · rename_i hh
    unfold Rr.hased at h
    split at h
    · rename_i he; exact absurd h he
    · split at h
      · simp at h
      · split at h
        · simp at h
        · rename_i h1 h2 h3
          refine absurd ?_ hh
          simp only [Rr.has, decide_eq_true_eq]
          omega
theorem rs5_ok {y : List UInt8} (h : (rs5 y).ended = 0) : 11 ≤ y.length := by
  have h5 : (rs5 y).err = 0 := by
    unfold Rr.ended at h
    split at h
    · cases h
    · exact h
  have h4 : (rs4 y).err = 0 := by
    unfold rs5 Rr.blkd at h5
    split at h5
    · exact h5
    · unfold Rr.hased at h5
      split at h5
      · exact h5
      · rename_i he; exact Classical.not_not.1 he
  obtain ⟨h3, a3⟩ := take_err (s := rs3 y) h4
  obtain ⟨h2, a2⟩ := take_err (s := rs2 y) h3
  obtain ⟨h1, a1⟩ := take_err (s := rs1 y) h2
  obtain ⟨h0, a0⟩ := take_err (s := ⟨y, 0, 0⟩) h1
  have e1 : rs1 y = ⟨y, 1, 0⟩ := take_pos (by simpa using a0)
  rw [e1] at a1
  have e2 : rs2 y = ⟨y, 5, 0⟩ := by unfold rs2; rw [e1]; exact take_pos a1
  rw [e2] at a2
  have e3 : rs3 y = ⟨y, 9, 0⟩ := by unfold rs3; rw [e2]; exact take_pos a2
  rw [e3] at a3
  exact a3
/-- The packet that is read off the bytes. -/
def pkG (k : Nat) (p : List UInt8) : Pk := ⟨k, gotAt p 1 4, gotAt p 5 4, gotAt p 9 2, (p.drop 11).take (p.length - 15)⟩
theorem raw_split {p y : List UInt8} (h : raw p = some y) : p = y ++ le 4 (csum y) := by
  unfold raw at h
  split at h
  · rename_i hc
    cases h
    obtain ⟨h4, hs⟩ := hc
    have hl : ((p.drop (p.length - 4)).take 4).length = 4 := by simp; omega
    have e : (p.drop (p.length - 4)).take 4 = p.drop (p.length - 4) := List.take_of_length_le (by simp; omega)
    have := le_leVal ((p.drop (p.length - 4)).take 4)
    rw [hl, hs, e] at this
    rw [this, List.take_append_drop]
  · cases h
theorem of_read {p y : List UInt8} (h : raw p = some y) (hy : 11 ≤ y.length) : (Pk.of y).bytes = p ∧ Pk.of y = pkG (Pk.of y).kind p := by
  have hp := raw_split h
  obtain ⟨e1, e2, e3, e4, e5, e6⟩ := rs_pos hy
  have k0 : (Pk.of y).kind = leVal ((y.drop 0).take 1) := by unfold Pk.of; exact val_pos (by omega)
  have k1 : (Pk.of y).len = leVal ((y.drop 1).take 4) := by unfold Pk.of; rw [e1]; exact val_pos (by omega)
  have k2 : (Pk.of y).sum = leVal ((y.drop 5).take 4) := by unfold Pk.of; rw [e2]; exact val_pos (by omega)
  have k3 : (Pk.of y).num = leVal ((y.drop 9).take 2) := by unfold Pk.of; rw [e3]; exact val_pos (by omega)
  have k4 : (Pk.of y).rest = y.drop 11 := by unfold Pk.of; exact e6
  have hle : ∀ a n, a + n ≤ y.length → le n (leVal ((y.drop a).take n)) = (y.drop a).take n := fun a n hn => by
    have := le_leVal ((y.drop a).take n)
    rwa [List.length_take, List.length_drop, Nat.min_eq_left (by omega)] at this
  have hb : (Pk.of y).body = y := by
    unfold Pk.body
    rw [k0, k1, k2, k3, k4, hle 0 1 (by omega), hle 1 4 (by omega), hle 5 4 (by omega), hle 9 2 (by omega)]
    have d : ∀ a b, (y.drop a).take b ++ y.drop (a + b) = y.drop a := fun a b => by rw [← List.drop_drop, List.take_append_drop]
    have s1 : (y.drop 9).take 2 ++ y.drop 11 = y.drop 9 := d 9 2
    have s2 : (y.drop 5).take 4 ++ y.drop 9 = y.drop 5 := d 5 4
    have s3 : (y.drop 1).take 4 ++ y.drop 5 = y.drop 1 := d 1 4
    have s4 : (y.drop 0).take 1 ++ y.drop 1 = y.drop 0 := d 0 1
    rw [List.append_assoc, List.append_assoc, List.append_assoc, s1, s2, s3, s4, List.drop_zero]
  refine ⟨by unfold Pk.bytes; rw [hb]; exact hp.symm, ?_⟩
  have hpl : p.length = y.length + 4 := by rw [hp]; simp
  have g : ∀ a n, a + n ≤ y.length → gotAt p a n = leVal ((y.drop a).take n) := fun a n hn => by
    unfold gotAt
    rw [hp, List.drop_append_of_le_length (by omega), List.take_append_of_le_length (by rw [List.length_drop]; omega)]
  have g4 : (p.drop 11).take (p.length - 15) = y.drop 11 := by
    rw [hpl, hp, List.drop_append_of_le_length (by omega), List.take_append_of_le_length (by rw [List.length_drop]; omega)]
    exact List.take_of_length_le (by rw [List.length_drop]; omega)
  unfold pkG
  rw [g 1 4 (by omega), g 5 4 (by omega), g 9 2 (by omega), g4, ← k1, ← k2, ← k3, ← k4]
/-- Is it a part's packet? -/
def isP (p : List UInt8) : Bool := decide (16 ≤ p.length ∧ (1 ≤ gotAt p 1 4 ∧ gotAt p 1 4 ≤ 40960) ∧ gotAt p 9 2 < (gotAt p 1 4 + 63) / 64 ∧ p.length = 15 + min 64 (gotAt p 1 4 - gotAt p 9 2 * 64) ∧ p = (pkG 1 p).bytes)
theorem rd1_isP (p : List UInt8) : rd1 p = if isP p = true then some (pkG 1 p) else none := by
  split
  · rename_i h
    simp only [isP, decide_eq_true_eq] at h
    obtain ⟨h1, h2, h3, h4, h5⟩ := h
    conv => lhs; rw [h5]
    refine rd1_bytes rfl h2 ?_ ?_ ?_
    · exact Nat.lt_of_lt_of_le (gotAt_lt p 5 4) (by decide)
    · exact Nat.lt_of_lt_of_le (gotAt_lt p 9 2) (by decide)
    · unfold Pk.form1 Pk.parts pkG
      simp only [decide_eq_true_eq, List.length_take, List.length_drop]
      omega
  · rename_i h
    cases hr : rd1 p with
    | none => rfl
    | some k =>
      refine absurd ?_ h
      unfold rd1 at hr
      split at hr
      · cases hr
      · rename_i y hy
        split at hr
        · rename_i hc
          obtain ⟨c1, c2, c3, c4⟩ := hc
          cases hr
          have h11 := rs5_ok c1
          obtain ⟨b1, b2⟩ := of_read hy h11
          rw [c2] at b2
          have hpl : p.length = 15 + (Pk.of y).rest.length := by rw [← Pk.bytes_length, b1]
          simp only [decide_eq_true_eq] at c3
          unfold Pk.form1 Pk.parts at c4
          simp only [decide_eq_true_eq] at c4
          simp only [isP, decide_eq_true_eq]
          rw [b2] at c3 c4 hpl b1
          have e1 : (pkG 1 p).len = gotAt p 1 4 := rfl
          have e3 : (pkG 1 p).num = gotAt p 9 2 := rfl
          rw [e1] at c3
          rw [e1, e3] at c4
          refine ⟨?_, c3, c4.1, ?_, b1.symm⟩
          · have := c4.1; omega
          · omega
        · cases hr
/-- Is it an acknowledgement? -/
def isA (p : List UInt8) : Bool := decide (p.length = 16 ∧ (1 ≤ gotAt p 1 4 ∧ gotAt p 1 4 ≤ 40960) ∧ gotAt p 9 2 ≤ (gotAt p 1 4 + 63) / 64 ∧ (∀ i, i < 8 → ((p[11]?).getD 0).toNat / 2 ^ i % 2 = 1 → gotAt p 9 2 + 1 + i < (gotAt p 1 4 + 63) / 64) ∧ p = (pkG 2 p).bytes)
theorem high_bits {f d : Nat} (hf : f < 256) : f / 2 ^ d = 0 ↔ ∀ i, i < 8 → f / 2 ^ i % 2 = 1 → i < d := by
  constructor
  · intro h i _ hb
    refine Classical.byContradiction fun hd => ?_
    have h1 : f < 2 ^ d := by
      rw [Nat.div_eq_zero_iff] at h
      rcases h with h | h
      · exact absurd h (Nat.pos_iff_ne_zero.1 (Nat.pow_pos (by decide)))
      · exact h
    have h2 : (2 : Nat) ^ d ≤ 2 ^ i := Nat.pow_le_pow_right (by decide) (by omega)
    rw [Nat.div_eq_of_lt (by omega)] at hb
    cases hb
  · intro h
    refine Nat.div_eq_of_lt ?_
    refine Nat.lt_pow_two_of_testBit f fun i hi => ?_
    cases hb : f.testBit i with
    | false => rfl
    | true =>
      have hb2 : f / 2 ^ i % 2 = 1 := by
        rw [Nat.testBit_eq_decide_div_mod_eq, decide_eq_true_eq] at hb
        exact hb
      by_cases h8 : i < 8
      · have := h i h8 hb2; omega
      · have : (2 : Nat) ^ 8 ≤ 2 ^ i := Nat.pow_le_pow_right (by decide) (by omega)
        rw [Nat.div_eq_of_lt (by omega)] at hb2
        cases hb2
theorem rest2 {p : List UInt8} (h : p.length = 16) : (pkG 2 p).rest = [(p[11]?).getD 0] := by
  unfold pkG
  simp only [h]
  refine List.ext_getElem? fun i => ?_
  rw [List.getElem?_take]
  by_cases hi : i < 1
  · rw [if_pos (by omega), List.getElem?_drop]
    obtain rfl : i = 0 := by omega
    rw [List.getElem?_eq_getElem (by omega : 11 + 0 < p.length)]
    simp [List.getElem?_eq_getElem (show 11 < p.length by omega)]
  · rw [if_neg (by omega), List.getElem?_eq_none (by simp; omega)]
theorem rd2_isA (p : List UInt8) : rd2 p = if isA p = true then some (pkG 2 p) else none := by
  split
  · rename_i h
    simp only [isA, decide_eq_true_eq] at h
    obtain ⟨h1, h2, h3, h4, h5⟩ := h
    conv => lhs; rw [h5]
    refine rd2_bytes rfl h2 ?_ ?_ ?_
    · exact Nat.lt_of_lt_of_le (gotAt_lt p 5 4) (by decide)
    · exact Nat.lt_of_lt_of_le (gotAt_lt p 9 2) (by decide)
    · unfold Pk.form2 Pk.parts
      rw [rest2 h1]
      simp only [decide_eq_true_eq, List.length_singleton, List.headD_cons, true_and]
      have hb := byte_lt ((p[11]?).getD 0)
      refine ⟨h3, .inr ((high_bits (by omega)).2 fun i hi hb => ?_)⟩
      have := h4 i hi hb
      show i < (gotAt p 1 4 + 63) / 64 - gotAt p 9 2 - 1
      omega
  · rename_i h
    cases hr : rd2 p with
    | none => rfl
    | some k =>
      refine absurd ?_ h
      unfold rd2 at hr
      split at hr
      · cases hr
      · rename_i y hy
        split at hr
        · rename_i hc
          obtain ⟨c1, c2, c3, c4⟩ := hc
          cases hr
          have h11 := rs5_ok c1
          obtain ⟨b1, b2⟩ := of_read hy h11
          rw [c2] at b2
          have hpl : p.length = 15 + (Pk.of y).rest.length := by rw [← Pk.bytes_length, b1]
          simp only [decide_eq_true_eq] at c3
          unfold Pk.form2 Pk.parts at c4
          simp only [decide_eq_true_eq] at c4
          simp only [isA, decide_eq_true_eq]
          rw [b2] at c3 c4 hpl b1
          have e1 : (pkG 2 p).len = gotAt p 1 4 := rfl
          have e3 : (pkG 2 p).num = gotAt p 9 2 := rfl
          rw [e1] at c3
          rw [e1, e3] at c4
          have h16 : p.length = 16 := by omega
          have hrest := rest2 h16
          rw [hrest] at c4
          have hb := byte_lt ((p[11]?).getD 0)
          refine ⟨h16, c3, c4.1, fun i hi hbit => ?_, b1.symm⟩
          rcases c4.2.2 with h9 | h9
          · omega
          · have := (high_bits (by simpa using hb)).1 h9 i hi hbit
            omega
        · cases hr
end Go.Proofs.YtgobibgpkcdmdaaDoor
