/- A line between a sender and a receiver (plain). -/
import Derived.Test.YtgobibgpkcdmdaaDoorPBurst
set_option linter.all false
namespace Go.Proofs.YtgobibgpkcdmdaaDoor
open Go Go.RowKit
/-- How many parts. -/
def np (C : List UInt8) : Nat := (C.length + 63) / 64
/-- Part i. -/
def part (C : List UInt8) (i : Nat) : List UInt8 := (C.drop (i * 64)).take (min 64 (C.length - i * 64))
theorem part_length (C : List UInt8) (i : Nat) : (part C i).length = min 64 (C.length - i * 64) := by simp [part]
/-- The receiver that has the parts g. -/
def rcOf (C : List UInt8) (g : Nat → Bool) : Rc := ⟨true, C.length, csum C, (List.range (np C)).map fun i => if g i then some (part C i) else none⟩
def upd (g : Nat → Bool) (i : Nat) : Nat → Bool := fun j => if j = i then true else g j
theorem rcOf_length (C : List UInt8) (g : Nat → Bool) : (rcOf C g).parts.length = np C := by simp [rcOf]
theorem rcOf_get (C : List UInt8) (g : Nat → Bool) {i : Nat} (h : i < np C) : (rcOf C g).parts[i]? = some (if g i then some (part C i) else none) := by simp [rcOf, h]
theorem rcOf_congr {C : List UInt8} {g h : Nat → Bool} (e : ∀ i, i < np C → g i = h i) : rcOf C g = rcOf C h := by
  unfold rcOf
  congr 1
  refine List.map_congr_left fun i hi => ?_
  rw [e i (List.mem_range.1 hi)]
/-- The packet with part i. -/
def pkC (C : List UInt8) (i : Nat) : Pk := ⟨1, C.length, csum C, i, part C i⟩
theorem sd_pk (s : Sd) (i : Nat) : s.pk i = pkC s.cargo i := rfl
theorem pkC_form {C : List UInt8} {i : Nat} (hi : i < np C) : (pkC C i).form1 = true := by
  unfold Pk.form1
  rw [decide_eq_true_eq]
  refine ⟨hi, ?_⟩
  show ((part C i).length : Int) = min 64 ((C.length : Int) - i * 64)
  rw [part_length]
  unfold np at hi
  omega
theorem rd1_pkC {C : List UInt8} (hC : 1 ≤ C.length ∧ C.length ≤ 40960) {i : Nat} (hi : i < np C) : rd1 (pkC C i).bytes = some (pkC C i) :=
  rd1_bytes rfl hC (csum_lt32 _) (by show i < _; unfold np at hi; omega) (pkC_form hi)
theorem flat_range (C : List UInt8) (k : Nat) : ((List.range k).map (part C)).flatten = C.take (k * 64) := by
  induction k with
  | zero => simp
  | succ k ih =>
    rw [List.range_succ, List.map_append, List.flatten_append, ih]
    simp only [List.map_cons, List.map_nil, List.flatten_cons, List.flatten_nil, List.append_nil]
    rw [Nat.succ_mul, List.take_add, part]
    congr 1
    rw [List.take_eq_take_iff]
    simp
theorem whole_all {C : List UInt8} {g : Nat → Bool} (h : ∀ i, i < np C → g i = true) : (rcOf C g).whole = C := by
  have e : rcOf C g = rcOf C (fun _ => true) := rcOf_congr h
  rw [e]
  unfold Rc.whole rcOf
  simp only [if_true, List.map_map]
  have : ((fun o : Option (List UInt8) => o.getD []) ∘ fun i => some (part C i)) = part C := rfl
  rw [this, flat_range]
  exact List.take_of_length_le (by unfold np; omega)
theorem have_le (C : List UInt8) (g : Nat → Bool) : (rcOf C g).have_ ≤ np C := by
  have : (rcOf C g).have_ ≤ (rcOf C g).parts.length := List.countP_le_length
  rwa [rcOf_length] at this
theorem have_eq (C : List UInt8) (g : Nat → Bool) : (rcOf C g).have_ = (List.range (np C)).countP g := by
  unfold Rc.have_ rcOf
  rw [List.countP_map]
  refine List.countP_congr fun i _ => ?_
  cases h : g i <;> simp [h]
theorem have_all {C : List UInt8} {g : Nat → Bool} : (rcOf C g).have_ = np C ↔ ∀ i, i < np C → g i = true := by
  rw [have_eq]
  conv => lhs; rhs; rw [← List.length_range (n := np C)]
  rw [List.countP_eq_length]
  simp
/-- What the receiver is: nothing has come, or the parts g of C. -/
def rst (C : List UInt8) (g : Nat → Bool) (b : Bool) : Rc := if b then rcOf C g else Rc.fresh
theorem take_part {C : List UInt8} (hC : 1 ≤ C.length ∧ C.length ≤ 40960) {g : Nat → Bool} {b : Bool} (hb : b = false → ∀ i, g i = false) {i : Nat} (hi : i < np C) :
    (rst C g b).take (pkC C i).bytes = (rcOf C (upd g i), (rcOf C (upd g i)).ack.bytes, 0) := by
  have hbeg : (rst C g b).begin_ (pkC C i) = rcOf C g := by
    cases b with
    | true => rfl
    | false =>
      have : rcOf C g = rcOf C (fun _ => false) := rcOf_congr fun j _ => hb rfl j
      rw [this]
      show Rc.mk true C.length (csum C) (List.replicate ((C.length + 63) / 64) none) = _
      unfold rcOf
      congr 1
      simp only [np, Bool.false_eq_true, if_false]
      rw [List.map_const', List.length_range]
  have hput : (rcOf C g).put (pkC C i) = rcOf C (upd g i) := by
    unfold Rc.put
    rw [show (pkC C i).num = i from rfl, rcOf_get C g hi]
    cases hg : g i with
    | true =>
      rw [if_neg (by simp)]
      exact rcOf_congr fun j _ => by unfold upd; split <;> simp_all
    | false =>
      rw [if_pos (by simp)]
      unfold rcOf
      congr 1
      refine List.ext_getElem (by simp) fun j h1 h2 => ?_
      rw [List.getElem_set]
      simp only [List.getElem_map, List.getElem_range, upd]
      by_cases e : i = j
      · subst e; simp [pkC]
      · have e' : ¬ j = i := fun h => e h.symm
        simp [e, e']
  unfold Rc.take
  rw [rd1_pkC hC hi]
  simp only [hbeg, hput]
  rw [if_neg, if_neg]
  · rintro ⟨h1, h2⟩
    rw [rcOf_length] at h1
    exact h2 (by rw [whole_all (have_all.1 h1)]; rfl)
  · rintro ⟨h1, h2⟩
    cases b with
    | true => exact h2 ⟨rfl, rfl⟩
    | false => cases h1
end Go.Proofs.YtgobibgpkcdmdaaDoor
