/- A fair round (plain). -/
import Derived.Test.YtgobibgpkcdmdaaDoorPAck
set_option linter.all false
namespace Go.Proofs.YtgobibgpkcdmdaaDoor
open Go Go.RowKit
/-- A line: what the sender knows, what the receiver has, has it begun. -/
structure Ln where
  a : List Bool
  g : Nat → Bool
  b : Bool
structure Ln.ok (C : List UInt8) (s : Ln) : Prop where
  len : s.a.length = np C
  sub : ∀ i, s.a[i]? = some true → s.g i = true
  beg : s.b = false → ∀ i, s.g i = false
def Ln.sd (C : List UInt8) (s : Ln) : Sd := ⟨C, s.a⟩
def Ln.rc (C : List UInt8) (s : Ln) : Rc := rst C s.g s.b
/-- Part i is taken. -/
def Ln.part (s : Ln) (i : Nat) : Ln := ⟨s.a, upd s.g i, true⟩
/-- The acknowledgement of what h are is taken. -/
def Ln.ack (C : List UInt8) (s : Ln) (h : Nat → Bool) : Ln := ⟨ackTo (rcOf C h).ack s.a s.a.length, s.g, s.b⟩
def Ln.deliver (C : List UInt8) (s : Ln) (i : Nat) : Ln := (s.part i).ack C (upd s.g i)
theorem upd_mono {g : Nat → Bool} {i j : Nat} (h : g j = true) : upd g i j = true := by unfold upd; split <;> simp [h]
theorem Ln.part_ok {C : List UInt8} {s : Ln} (h : s.ok C) (i : Nat) : (s.part i).ok C := ⟨h.len, fun j hj => upd_mono (h.sub j hj), fun hb => by cases hb⟩
theorem Ln.ack_ok {C : List UInt8} {s : Ln} (h : s.ok C) {g : Nat → Bool} (hg : ∀ i, g i = true → s.g i = true) : (s.ack C g).ok C := by
  refine ⟨by simp [Ln.ack, h.len], fun i hi => ?_, h.beg⟩
  have hlt : i < s.a.length := by
    have := (List.getElem?_eq_some_iff.1 hi).1
    simpa [Ln.ack] using this
  rw [Ln.ack, ackTo_get _ _ _ hlt] at hi
  have hi := Option.some.inj hi
  rw [Bool.or_eq_true] at hi
  rcases hi with hi | hi
  · exact h.sub i (by rw [List.getElem?_eq_getElem hlt, hi])
  · exact hg i (ack_got (by rw [← h.len]; exact hlt) hi)
theorem Ln.deliver_ok {C : List UInt8} {s : Ln} (h : s.ok C) (i : Nat) : (s.deliver C i).ok C := Ln.ack_ok (Ln.part_ok h i) fun _ hj => hj
theorem Ln.part_rc {C : List UInt8} (hC : 1 ≤ C.length ∧ C.length ≤ 40960) {s : Ln} (h : s.ok C) {i : Nat} (hi : i < np C) : (s.rc C).take (pkC C i).bytes = ((s.part i).rc C, (rcOf C (upd s.g i)).ack.bytes, 0) :=
  take_part hC h.beg hi
theorem Ln.ack_sd {C : List UInt8} (hC : 1 ≤ C.length ∧ C.length ≤ 40960) (s : Ln) (g : Nat → Bool) : (s.sd C).take (rcOf C g).ack.bytes = ((s.ack C g).sd C, 0) := stake_ack hC g s.a
/-- Acknowledged stays so. -/
theorem Ln.ack_mono {C : List UInt8} {s : Ln} {g : Nat → Bool} {i : Nat} (h : s.a[i]? = some true) : (s.ack C g).a[i]? = some true := by
  obtain ⟨hlt, he⟩ := List.getElem?_eq_some_iff.1 h
  rw [Ln.ack, ackTo_get _ _ _ hlt, he]; rfl
def Ln.all (C : List UInt8) (s : Ln) (d : List Nat) : Ln := d.foldl (Ln.deliver C) s
theorem Ln.all_ok {C : List UInt8} (d : List Nat) : ∀ {s : Ln}, s.ok C → (s.all C d).ok C := by
  induction d with
  | nil => intro s h; exact h
  | cons i d ih => intro s h; exact ih (Ln.deliver_ok h i)
theorem Ln.all_mono {C : List UInt8} (d : List Nat) : ∀ {s : Ln} {i : Nat}, s.a[i]? = some true → (s.all C d).a[i]? = some true := by
  induction d with
  | nil => intro s i h; exact h
  | cons j d ih => intro s i h; exact ih (Ln.ack_mono h)
theorem Ln.all_snoc (C : List UInt8) (s : Ln) (d : List Nat) (i : Nat) : s.all C (d ++ [i]) = (s.all C d).deliver C i := by unfold Ln.all; rw [List.foldl_append]; rfl
theorem count_succ (a : List Bool) (k : Nat) (h : k < a.length) : (a.take (k + 1)).count false = (a.take k).count false + (if a[k] then 0 else 1) := count_take a k h
theorem count_mono (a : List Bool) {i j : Nat} (h : i ≤ j) : (a.take i).count false ≤ (a.take j).count false := by
  have : a.take i = (a.take j).take i := by rw [List.take_take, Nat.min_eq_left h]
  rw [this]
  exact List.Sublist.count_le _ (List.take_sublist _ _)
theorem due_length (a : List Bool) : ∀ k, k ≤ a.length → (due a k).length = min 8 ((a.take k).count false) := by
  intro k
  induction k with
  | zero => intro _; simp [due]
  | succ k ih =>
    intro hk
    have hlt : k < a.length := hk
    have ih := ih (by omega)
    rw [count_succ a k hlt]
    unfold due
    rw [List.getElem?_eq_getElem hlt]
    cases hx : a[k] with
    | true => simp [ih]
    | false =>
      by_cases h8 : (due a k).length < 8
      · rw [if_pos ⟨rfl, h8⟩]
        simp
        omega
      · rw [if_neg (fun h => h8 h.2)]
        simp
        omega
theorem due_lt (a : List Bool) : ∀ k i, i ∈ due a k → i < k := by
  intro k
  induction k with
  | zero => intro i h; simp [due] at h
  | succ k ih =>
    intro i h
    unfold due at h
    split at h
    · rcases List.mem_append.1 h with h | h
      · have := ih i h; omega
      · have := List.mem_singleton.1 h; omega
    · have := ih i h; omega
/-- Behind the due parts of the first k all that stand ahead of the ninth gap are acknowledged. -/
theorem Ln.due_acked {C : List UInt8} {s : Ln} (h : s.ok C) : ∀ k, k ≤ np C → ∀ i, i < k → (s.a.take (i + 1)).count false ≤ 8 → (s.all C (due s.a k)).a[i]? = some true := by
  intro k
  induction k with
  | zero => intro _ i hi; omega
  | succ k ih =>
    intro hk i hi h8
    have hlt : k < s.a.length := by rw [h.len]; omega
    have ih := ih (by omega)
    have hl := due_length s.a k (by omega)
    have hc := count_succ s.a k hlt
    unfold due
    by_cases hcond : s.a[k]? = some false ∧ (due s.a k).length < 8
    · rw [if_pos hcond, Ln.all_snoc]
      have hx : s.a[k] = false := by
        have := hcond.1
        rw [List.getElem?_eq_getElem hlt] at this
        exact Option.some.inj this
      rw [hx] at hc
      simp only [Bool.false_eq_true, if_false] at hc
      have hok := Ln.all_ok (due s.a k) h
      by_cases e : i < k
      · exact Ln.ack_mono (ih i e h8)
      · obtain rfl : i = k := by omega
        have hlt' : i < (s.all C (due s.a i)).a.length := by rw [hok.len]; omega
        show ((((s.all C (due s.a i)).part i).ack C (upd (s.all C (due s.a i)).g i)).a)[i]? = some true
        have hget := ackTo_get (rcOf C (upd (s.all C (due s.a i)).g i)).ack (s.all C (due s.a i)).a i hlt'
        have hnm : ackBit (rcOf C (upd (s.all C (due s.a i)).g i)).ack i = true := ack_names (by omega) fun j hj => by
          by_cases e : j = i
          · subst e; simp [upd]
          · have : j < i := by omega
            refine upd_mono (hok.sub j (ih j this ?_))
            have := count_mono s.a (show j + 1 ≤ i + 1 by omega)
            omega
        rw [hnm, Bool.or_true] at hget
        exact hget
    · rw [if_neg hcond]
      by_cases e : i < k
      · exact ih i e h8
      · obtain rfl : i = k := by omega
        refine Ln.all_mono _ ?_
        rw [List.getElem?_eq_getElem hlt]
        cases hx : s.a[i] with
        | true => rfl
        | false =>
          exfalso
          rw [hx] at hc
          simp only [Bool.false_eq_true, if_false] at hc
          exact hcond ⟨by rw [List.getElem?_eq_getElem hlt, hx], by omega⟩
theorem count_drop : ∀ (a a' : List Bool) (n : Nat), a.length = a'.length → (∀ i : Nat, a[i]? = some true → a'[i]? = some true) → (∀ i : Nat, i < a.length → (a.take (i + 1)).count false ≤ n → a'[i]? = some true) → a'.count false ≤ a.count false - n := by
  intro a
  induction a with
  | nil => intro a' n hl _ _; rw [List.length_eq_zero_iff.1 hl.symm]; simp
  | cons x t ih =>
    intro a' n hl h1 h2
    cases a' with
    | nil => simp at hl
    | cons x' t' =>
      have hlt : t.length = t'.length := by simpa using hl
      have h1' : ∀ i : Nat, t[i]? = some true → t'[i]? = some true := fun i hi => by have := h1 (i + 1) (by simpa using hi); simpa using this
      cases x with
      | true =>
        have hx' : x' = true := by have := h1 0 rfl; simpa using this
        subst hx'
        have := ih t' n hlt h1' fun i hi hc => by
          have := h2 (i + 1) (by simp; omega) (by rw [List.take_succ_cons]; simpa using hc)
          simpa using this
        simpa using this
      | false =>
        cases n with
        | zero =>
          have h := ih t' 0 hlt h1' fun i hi hc => by
            have hm : ∀ z, z ∈ t.take (i + 1) → z = true := fun z hz => by
              cases z with
              | true => rfl
              | false => have := List.count_pos_iff.2 hz; omega
            have hlt2 : i < t.length := hi
            refine h1' i ?_
            rw [List.getElem?_eq_getElem hlt2]
            exact congrArg some (hm _ (List.mem_take_iff_getElem.2 ⟨i, by omega, rfl⟩))
          cases x' <;> simp <;> omega
        | succ m =>
          have hx' : x' = true := by have := h2 0 (by simp) (by simp); simpa using this
          subst hx'
          have := ih t' m hlt h1' fun i hi hc => by
            have := h2 (i + 1) (by simp; omega) (by rw [List.take_succ_cons, List.count_cons]; simp; omega)
            simpa using this
          simp
          omega
/-- What a fair round leaves. -/
theorem Ln.round_left {C : List UInt8} {s : Ln} (h : s.ok C) : (s.all C (due s.a s.a.length)).a.count false ≤ s.a.count false - 8 := by
  refine count_drop _ _ 8 (by rw [h.len, (Ln.all_ok _ h).len]) (fun i hi => Ln.all_mono _ hi) fun i hi hc => ?_
  have := Ln.due_acked h s.a.length (by rw [h.len]; exact Nat.le_refl _) i hi hc
  exact this
end Go.Proofs.YtgobibgpkcdmdaaDoor
