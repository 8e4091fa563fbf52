/- The walks of package crc: the sum of bytes is the plain one. -/
import Derived.Test.YtgobibgpkcdmdaaDoorFacts
import Derived.Test.YtgobibgpkcdmdaaDoorCrc
import Derived.WalkLawsBesides
import Derived.Handy
import Derived.Lib.Hide
set_option linter.all false
namespace Go.Proofs.YtgobibgpkcdmdaaDoor
open Go Go.RowKit

theorem ret_u32 {a b : Int} (h : a = b) : Ending.returned (.int .u32 a) = .returned (.int .u32 b) := by rw [h]
theorem and1 (s : Nat) (h : s < 4294967296) : Go.bits .and .u32 (s : Int) 1 = ((s % 2 : Nat) : Int) := by
  have := u32_and_nat s 1 h (by decide)
  rw [Nat.and_one_is_mod] at this
  exact this
theorem crun_succ (k s : Nat) : crun (k + 1) s = bit1 (crun k s) := by rw [crun_add]; rfl
theorem crun_odd (k s : Nat) (hs : crun k s < 4294967296) (h : (Go.bits .and .u32 ((crun k s : Nat) : Int) 1 == 1) = true) : Go.bits .xor .u32 (((crun k s : Nat) : Int) / 2) 3988292384 = ((crun (k + 1) s : Nat) : Int) := by
  rw [and1 _ hs] at h
  have h1 : crun k s % 2 = 1 := by simp at h; omega
  have := u32_xor_nat (crun k s / 2) 3988292384 (by omega) (by decide)
  rw [crun_succ]
  unfold bit1
  rw [if_pos h1]
  exact this
theorem crun_even (k s : Nat) (hs : crun k s < 4294967296) (h : (Go.bits .and .u32 ((crun k s : Nat) : Int) 1 == 1) = false) : ((crun k s : Nat) : Int) / 2 = ((crun (k + 1) s : Nat) : Int) := by
  rw [and1 _ hs] at h
  have h1 : ¬ crun k s % 2 = 1 := by simp at h; omega
  rw [crun_succ]
  unfold bit1
  rw [if_neg h1]
  omega

set_option maxHeartbeats 400000 in
theorem entry_spec (b : Nat) (hb : b < 256) (w : World) : Calls Tryd.prog 180 #[.int .u8 (b : Int)] w fun e w' => e = .returned (.int .u32 (crun 8 b : Nat)) ∧ w = w' := by
  go_enter Tryd.func180, Tryd.ntmps180
  go_wp2
  go_loop [3, 6] (fun s i => ∃ k : Nat, k ≤ 8 ∧ i = .int .i64 k ∧ s = .int .u32 (crun k b : Nat)) (fun _ i => 8 - (intOf i).toNat)
  case atStart => exact ⟨0, by omega, rfl, rfl⟩
  case round =>
    obtain ⟨k, hk, rfl, rfl⟩ := hrel
    have hlt := crun_lt k (s := b) (by omega)
    by_cases h8 : k < 8
    · go_wp2
      all_goals
        go_round
        case rel => exact ⟨k + 1, by omega, by go_num, by first | rw [crun_odd _ _ hlt ‹_›] | rw [crun_even _ _ hlt ‹_›]⟩
        case measure => simp [intOf]; omega
    · obtain rfl : k = 8 := by omega
      go_wp2
      go_ret
      exact ⟨rfl, rfl⟩

theorem entry_any (n : Int) (h0 : 0 ≤ n) (h1 : n < 256) (w : World) : Calls Tryd.prog 180 #[.int .u8 n] w fun e w' => e = .returned (.int .u32 (crun 8 n.toNat : Nat)) ∧ w = w' := by
  obtain ⟨b, rfl⟩ := Int.eq_ofNat_of_zero_le h0
  exact entry_spec b (by omega) w
theorem u8_low (s : Nat) (b : UInt8) : Go.bits .xor .u8 ((s : Int) % 256) (b.toNat : Int) = ((s % 256 ^^^ b.toNat : Nat) : Int) := by
  have := u8_xor_nat (s % 256) b.toNat (by omega) (byte_lt b)
  exact this
theorem step_fin (s : Nat) (b : UInt8) (hs : s < 4294967296) : Go.bits .xor .u32 ((crun 8 (Go.bits .xor .u8 ((s : Int) % 256) (b.toNat : Int)).toNat : Nat) : Int) ((s : Int) / 256) = ((cstep s b : Nat) : Int) := by
  have h1 : s % 256 ^^^ b.toNat < 2 ^ 8 := Nat.xor_lt_two_pow (by omega) (byte_lt b)
  rw [u8_low, Int.toNat_natCast]
  have := u32_xor_nat (crun 8 (s % 256 ^^^ b.toNat)) (s / 256) (crun_lt 8 (by omega)) (by omega)
  rw [cstep_table]
  exact this
set_option maxHeartbeats 400000 in
theorem step_spec (s : Nat) (hs : s < 4294967296) (b : UInt8) (w : World) : Calls Tryd.prog 160 #[.int .u32 (s : Int), .int .u8 (b.toNat : Int)] w fun e w' => e = .returned (.int .u32 (cstep s b : Nat)) ∧ w = w' := by
  have hb := byte_lt b
  go_enter Tryd.func160, Tryd.ntmps160
  go_wp2_with (go_at_call 180; refine (entry_any _ ?_ ?_ _).mono ?_; exact bits_lo_u8 _ _ _; (have := bits_hi_u8 .xor ((s : Int) % 256) (b.toNat : Int); omega); rintro _ _ ⟨rfl, rfl⟩)
  go_ret
  exact ⟨ret_u32 (step_fin s b hs), rfl⟩

theorem not_u32 (s : Nat) (hs : s < 4294967296) : Go.bits .xor .u32 IntKind.u32.max (s : Int) = ((s ^^^ ones : Nat) : Int) := by
  have := u32_xor_nat ones s (by decide) hs
  rw [Nat.xor_comm] at this
  exact this
theorem take_get {α : Type} (l : List α) (k : Nat) (h : k < l.length) : l.take (k + 1) = l.take k ++ [l[k]] := by
  rw [List.take_succ_eq_append_getElem h]
set_option maxRecDepth 100000 in
set_option maxHeartbeats 400000 in
theorem update_spec (s : Nat) (hs : s < 4294967296) {w0 w : World} {L : List SProp} {A : Option Addr} {n c : Nat} {l : List UInt8} (h : Sat w0 L w) (hr : Rd L A (bv l)) (hn : n = l.length) (hm : n ≤ 9223372036854775807) :
    Calls Tryd.prog 115 #[.int .u32 (s : Int), .slice A n c] w fun e w' => e = .returned (.int .u32 (cupd (s ^^^ ones) l ^^^ ones : Nat)) ∧ w = w' := by
  subst hn
  go_enter Tryd.func115, Tryd.ntmps115
  go_wp2
  go_loop [5, 7, 12] (fun t _ i => ∃ k : Nat, k ≤ l.length ∧ i = .int .i64 k ∧ t = .int .u32 (cupd (s ^^^ ones) (l.take k) : Nat)) (fun _ _ i => l.length - (intOf i).toNat)
  case atStart => exact ⟨0, by omega, rfl, by rw [not_u32 s hs]; rfl⟩
  case round =>
    obtain ⟨k, hk, rfl, rfl⟩ := hrel
    have hlt := cupd_lt (l.take k) (s := s ^^^ ones) (Nat.xor_lt_two_pow hs (by decide))
    by_cases hkl : k < l.length
    · have hv := bv_get l k hkl
      go_wp2_with (first | ((with_reducible apply wpl_index sl37); exact rfl; exact rfl; exact rfl; assumption; (first | assumption | (apply Rd.own; focus ((with_reducible repeat first | exact pH | apply pT); done)) | (focus ((repeat first | assumption | with_reducible apply Rd.cons); done)) | with_reducible exact Rd.nil); omega; omega; (first | assumption | (simp only [bv_length]; omega) | (simp only [iv_length, List.length_append, List.length_singleton]; omega) | (simp <;> omega)); (try simp only [Act.put, zqa, zqb, zqc, zqd, zqe])) | ((with_reducible apply wpl_load Tryd.isAgg5); exact rfl; exact rfl; assumption; (with_reducible repeat first | exact pH | apply pT); ((try simp only [zqf, zqg, zqh]) <;> exact rfl); (try simp only [Act.put, zqa, zqb, zqc, zqd, zqe])) | ((with_reducible apply wpl_load_rd Tryd.isAgg5); exact rfl; exact rfl; assumption; (first | assumption | (apply Rd.own; focus ((with_reducible repeat first | exact pH | apply pT); done)) | (focus ((repeat first | assumption | with_reducible apply Rd.cons); done)) | with_reducible exact Rd.nil); (first | assumption | exact rfl); (try simp only [Act.put, zqa, zqb, zqc, zqd, zqe])) | (go_at_call 160; refine (step_spec _ hlt _ _).mono ?_; rintro _ _ ⟨rfl, rfl⟩))
      go_round
      case rel => exact ⟨k + 1, by omega, by go_num, by rw [take_get _ _ hkl, cupd_snoc]⟩
      case measure => simp [intOf]; omega
    · obtain rfl : k = l.length := by omega
      go_wp2
      go_ret
      exact ⟨ret_u32 (not_u32 _ (by simpa using hlt)), rfl⟩

set_option maxHeartbeats 400000 in
theorem sum_spec {w0 w : World} {L : List SProp} {A : Option Addr} {n c : Nat} {l : List UInt8} (h : Sat w0 L w) (hr : Rd L A (bv l)) (hn : n = l.length) (hm : n ≤ maxLen) :
    Calls Tryd.prog 55 #[.slice A n c] w fun e w' => e = .returned (.int .u32 (csum l : Nat)) ∧ w = w' := by
  have hu := update_spec 0 (by decide) h hr hn (c := c) hm
  rw [Nat.zero_xor] at hu
  have HU := Lib.hid hu
  clear hu hn hm
  go_enter Tryd.func55, Tryd.ntmps55
  go_wp2_with (go_at_call 115; refine HU.out.mono ?_; rintro _ _ ⟨rfl, rfl⟩)
  go_ret
  exact ⟨rfl, rfl⟩

/-! ### The reference's -/
theorem crun_odd0 (s : Nat) (hs : s < 4294967296) (h : (Go.bits .and .u32 (s : Int) 1 == 1) = true) : Go.bits .xor .u32 ((s : Int) / 2) 3988292384 = ((bit1 s : Nat) : Int) := crun_odd 0 s hs h
theorem crun_even0 (s : Nat) (hs : s < 4294967296) (h : (Go.bits .and .u32 (s : Int) 1 == 1) = false) : (s : Int) / 2 = ((bit1 s : Nat) : Int) := crun_even 0 s hs h
theorem u32_byte (s : Nat) (hs : s < 4294967296) (b : UInt8) : Go.bits .xor .u32 (s : Int) (b.toNat : Int) = ((s ^^^ b.toNat : Nat) : Int) := u32_xor_nat s b.toNat hs (by have := byte_lt b; omega)
set_option maxHeartbeats 400000 in
theorem rstep_spec (s : Nat) (hs : s < 4294967296) (b : UInt8) (w : World) : Calls Tryd.prog 181 #[.int .u32 (s : Int), .int .u8 (b.toNat : Int)] w fun e w' => e = .returned (.int .u32 (cstep s b : Nat)) ∧ w = w' := by
  have hb := byte_lt b
  go_enter Tryd.func181, Tryd.ntmps181
  go_wp2
  go_loop [0, 5] (fun t i => ∃ k : Nat, k ≤ 8 ∧ i = .int .i64 k ∧ t = .int .u32 (crun k (s ^^^ b.toNat) : Nat)) (fun _ i => 8 - (intOf i).toNat)
  case atStart => exact ⟨0, by omega, rfl, by rw [u32_byte s hs]; rfl⟩
  case round =>
    obtain ⟨k, hk, rfl, rfl⟩ := hrel
    have hlt := crun_lt k (s := s ^^^ b.toNat) (Nat.xor_lt_two_pow hs (by omega))
    by_cases h8 : k < 8
    · go_wp2
      all_goals
        go_round
        case rel => exact ⟨k + 1, by omega, by go_num, by first | rw [crun_odd _ _ hlt ‹_›] | rw [crun_even _ _ hlt ‹_›]⟩
        case measure => simp [intOf]; omega
    · obtain rfl : k = 8 := by omega
      go_wp2
      go_ret
      exact ⟨rfl, rfl⟩

theorem rnot_u32 (s : Nat) (hs : s < 4294967296) : Go.bits .xor .u32 (s : Int) 4294967295 = ((s ^^^ ones : Nat) : Int) := u32_xor_nat s ones hs (by decide)
set_option maxRecDepth 100000 in
set_option maxHeartbeats 400000 in
theorem rupdate_spec (s : Nat) (hs : s < 4294967296) {w0 w : World} {L : List SProp} {A : Option Addr} {n c : Nat} {l : List UInt8} (h : Sat w0 L w) (hr : Rd L A (bv l)) (hn : n = l.length) (hm : n ≤ 9223372036854775807) :
    Calls Tryd.prog 162 #[.int .u32 (s : Int), .slice A n c] w fun e w' => e = .returned (.int .u32 (cupd (s ^^^ ones) l ^^^ ones : Nat)) ∧ w = w' := by
  subst hn
  go_enter Tryd.func162, Tryd.ntmps162
  go_wp2
  go_loop [5, 6] (fun t i => ∃ k : Nat, k ≤ l.length ∧ i = .int .i64 k ∧ t = .int .u32 (cupd (s ^^^ ones) (l.take k) : Nat)) (fun _ i => l.length - (intOf i).toNat)
  case atStart => exact ⟨0, by omega, rfl, by rw [rnot_u32 s hs]; rfl⟩
  case round =>
    obtain ⟨k, hk, rfl, rfl⟩ := hrel
    have hlt := cupd_lt (l.take k) (s := s ^^^ ones) (Nat.xor_lt_two_pow hs (by decide))
    by_cases hkl : k < l.length
    · have hv := bv_get l k hkl
      go_wp2_with (first | ((with_reducible apply wpl_index sl37); exact rfl; exact rfl; exact rfl; assumption; (first | assumption | (apply Rd.own; focus ((with_reducible repeat first | exact pH | apply pT); done)) | (focus ((repeat first | assumption | with_reducible apply Rd.cons); done)) | with_reducible exact Rd.nil); omega; omega; (first | assumption | (simp only [bv_length]; omega) | (simp only [iv_length, List.length_append, List.length_singleton]; omega) | (simp <;> omega)); (try simp only [Act.put, zqa, zqb, zqc, zqd, zqe])) | ((with_reducible apply wpl_load Tryd.isAgg5); exact rfl; exact rfl; assumption; (with_reducible repeat first | exact pH | apply pT); ((try simp only [zqf, zqg, zqh]) <;> exact rfl); (try simp only [Act.put, zqa, zqb, zqc, zqd, zqe])) | ((with_reducible apply wpl_load_rd Tryd.isAgg5); exact rfl; exact rfl; assumption; (first | assumption | (apply Rd.own; focus ((with_reducible repeat first | exact pH | apply pT); done)) | (focus ((repeat first | assumption | with_reducible apply Rd.cons); done)) | with_reducible exact Rd.nil); (first | assumption | exact rfl); (try simp only [Act.put, zqa, zqb, zqc, zqd, zqe])) | (go_at_call 181; refine (rstep_spec _ hlt _ _).mono ?_; rintro _ _ ⟨rfl, rfl⟩))
      go_round
      case rel => exact ⟨k + 1, by omega, by go_num, by rw [take_get _ _ hkl, cupd_snoc]⟩
      case measure => simp [intOf]; omega
    · obtain rfl : k = l.length := by omega
      go_wp2
      go_ret
      exact ⟨ret_u32 (rnot_u32 _ (by simpa using hlt)), rfl⟩

set_option maxHeartbeats 400000 in
theorem rsum_spec {w0 w : World} {L : List SProp} {A : Option Addr} {n c : Nat} {l : List UInt8} (h : Sat w0 L w) (hr : Rd L A (bv l)) (hn : n = l.length) (hm : n ≤ maxLen) :
    Calls Tryd.prog 123 #[.slice A n c] w fun e w' => e = .returned (.int .u32 (csum l : Nat)) ∧ w = w' := by
  have hu := rupdate_spec 0 (by decide) h hr hn (c := c) hm
  rw [Nat.zero_xor] at hu
  have HU := Lib.hid hu
  clear hu hn hm
  go_enter Tryd.func123, Tryd.ntmps123
  go_wp2_with (go_at_call 162; refine HU.out.mono ?_; rintro _ _ ⟨rfl, rfl⟩)
  go_ret
  exact ⟨rfl, rfl⟩
end Go.Proofs.YtgobibgpkcdmdaaDoor
