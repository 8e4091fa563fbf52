/- The sum of bytes, bit by bit: plain numbers, no program. A register that is not zero stays so: two runs that differ in one burst of at most 32 crun end unlike. -/
set_option linter.all false
namespace Go.Proofs.YtgobibgpkcdmdaaDoor

def poly : Nat := 3988292384
/-- One bit's step of the register. -/
def bit1 (s : Nat) : Nat := if s % 2 = 1 then (s / 2) ^^^ poly else s / 2
def crun (n s : Nat) : Nat := match n with | 0 => s | n + 1 => crun n (bit1 s)
/-- What a byte does to the register. -/
def cstep (s : Nat) (b : UInt8) : Nat := crun 8 (s ^^^ b.toNat)
def cupd (s : Nat) (l : List UInt8) : Nat := l.foldl cstep s
def ones : Nat := 4294967295
def csum (l : List UInt8) : Nat := cupd ones l ^^^ ones

theorem poly_lt : poly < 2 ^ 32 := by decide
theorem bit1_lt {s : Nat} (h : s < 2 ^ 32) : bit1 s < 2 ^ 32 := by
  unfold bit1
  split
  · exact Nat.xor_lt_two_pow (by omega) poly_lt
  · omega
theorem crun_lt (n : Nat) : ∀ {s : Nat}, s < 2 ^ 32 → crun n s < 2 ^ 32 := by
  induction n with
  | zero => intro s h; exact h
  | succ n ih => intro s h; exact ih (bit1_lt h)
theorem byte_lt (b : UInt8) : b.toNat < 2 ^ 8 := b.toNat_lt
theorem cstep_lt {s : Nat} (h : s < 2 ^ 32) (b : UInt8) : cstep s b < 2 ^ 32 :=
  crun_lt 8 (Nat.xor_lt_two_pow h (Nat.lt_of_lt_of_le (byte_lt b) (by decide)))
theorem cupd_lt (l : List UInt8) : ∀ {s : Nat}, s < 2 ^ 32 → cupd s l < 2 ^ 32 := by
  induction l with
  | nil => intro s h; exact h
  | cons b l ih => intro s h; exact ih (cstep_lt h b)
theorem csum_lt (l : List UInt8) : csum l < 2 ^ 32 := Nat.xor_lt_two_pow (cupd_lt l (by decide)) (by decide)
theorem cupd_append (s : Nat) (l m : List UInt8) : cupd s (l ++ m) = cupd (cupd s l) m := List.foldl_append
theorem cupd_snoc (s : Nat) (l : List UInt8) (b : UInt8) : cupd s (l ++ [b]) = cstep (cupd s l) b := by rw [cupd_append]; rfl

/-- The step is linear. -/
theorem bit1_xor (a b : Nat) : bit1 (a ^^^ b) = bit1 a ^^^ bit1 b := by
  unfold bit1
  have h2 : (a ^^^ b) / 2 = (a / 2) ^^^ (b / 2) := by
    have := Nat.shiftRight_xor_distrib (a := a) (b := b) (i := 1)
    simpa [Nat.shiftRight_eq_div_pow] using this
  have hm : (a ^^^ b) % 2 = (a % 2 + b % 2) % 2 := by
    have h0 := @Nat.xor_mod_two_eq_one a b
    rcases Nat.mod_two_eq_zero_or_one a with ha | ha <;> rcases Nat.mod_two_eq_zero_or_one b with hb | hb <;> rw [ha, hb] at h0 ⊢ <;> rcases Nat.mod_two_eq_zero_or_one (a ^^^ b) with hx | hx <;> rw [hx] at h0 ⊢ <;> simp at h0 ⊢
  rw [h2, hm]
  rcases Nat.mod_two_eq_zero_or_one a with ha | ha <;> rcases Nat.mod_two_eq_zero_or_one b with hb | hb <;> simp only [ha, hb]
  · simp
  · simp [Nat.xor_assoc]
  · simp only [Nat.reduceAdd, Nat.reduceMod, if_true]
    rw [if_neg (by decide), Nat.xor_assoc, Nat.xor_assoc, Nat.xor_comm (b / 2)]
  · simp only [Nat.reduceAdd, Nat.reduceMod, if_true]
    rw [if_neg (by decide), Nat.xor_assoc, ← Nat.xor_assoc poly, Nat.xor_comm poly, Nat.xor_assoc (b / 2), Nat.xor_self, Nat.xor_zero]
theorem crun_xor (n : Nat) : ∀ a b : Nat, crun n (a ^^^ b) = crun n a ^^^ crun n b := by
  induction n with
  | zero => intro a b; rfl
  | succ n ih => intro a b; show crun n (bit1 (a ^^^ b)) = _; rw [bit1_xor, ih]; rfl
theorem crun_add (m n s : Nat) : crun (m + n) s = crun n (crun m s) := by
  induction m generalizing s with
  | zero => simp [crun]
  | succ m ih => rw [Nat.succ_add]; exact ih _
theorem bit1_even (s : Nat) : bit1 (2 * s) = s := by
  unfold bit1
  rw [if_neg (by omega)]
  omega
theorem crun_high (n : Nat) : ∀ s : Nat, crun n (2 ^ n * s) = s := by
  induction n with
  | zero => intro s; simp [crun]
  | succ n ih =>
    intro s
    show crun n (bit1 (2 ^ (n + 1) * s)) = s
    rw [Nat.pow_succ, Nat.mul_comm (2 ^ n) 2, Nat.mul_assoc, bit1_even, ih]
/-- By the table: the entry of the lowest byte, and the rest moved. -/
theorem split8 (s : Nat) : s = (2 ^ 8 * (s / 2 ^ 8)) ^^^ (s % 2 ^ 8) := by
  have h1 : 2 ^ 8 * (s / 2 ^ 8) ||| (s % 2 ^ 8) = 2 ^ 8 * (s / 2 ^ 8) + s % 2 ^ 8 := (Nat.two_pow_add_eq_or_of_lt (Nat.mod_lt _ (by decide)) _).symm
  have h2 : 2 ^ 8 * (s / 2 ^ 8) + s % 2 ^ 8 = s := Nat.div_add_mod s (2 ^ 8)
  apply Nat.eq_of_testBit_eq
  intro i
  rw [Nat.testBit_xor, Nat.testBit_two_pow_mul, Nat.testBit_mod_two_pow]
  by_cases hi : i < 8
  · simp [hi, Nat.not_le.2 hi]
  · have h8 : 8 ≤ i := by omega
    have hd := Nat.testBit_div_two_pow (x := s) (i := i - 8) (n := 8)
    rw [Nat.sub_add_cancel h8] at hd
    simp [hi, h8, hd]
theorem cstep_table (s : Nat) (b : UInt8) : cstep s b = crun 8 ((s % 2 ^ 8) ^^^ b.toNat) ^^^ (s / 2 ^ 8) := by
  unfold cstep
  have h : s ^^^ b.toNat = (2 ^ 8 * (s / 2 ^ 8)) ^^^ ((s % 2 ^ 8) ^^^ b.toNat) := by
    rw [← Nat.xor_assoc, ← split8]
  rw [h, crun_xor, crun_high, Nat.xor_comm]

/-! ### A burst is told -/
theorem bit1_inj {s : Nat} (h : s < 2 ^ 32) (h0 : bit1 s = 0) : s = 0 := by
  unfold bit1 at h0
  split at h0
  · rename_i ho
    have e : s / 2 = poly := by have := congrArg (· ^^^ poly) h0; simpa [Nat.xor_assoc] using this
    unfold poly at e
    omega
  · omega
theorem crun_inj (n : Nat) : ∀ {s : Nat}, s < 2 ^ 32 → crun n s = 0 → s = 0 := by
  induction n with
  | zero => intro s _ h; exact h
  | succ n ih => intro s h h0; exact bit1_inj h (ih (bit1_lt h) h0)
end Go.Proofs.YtgobibgpkcdmdaaDoor
