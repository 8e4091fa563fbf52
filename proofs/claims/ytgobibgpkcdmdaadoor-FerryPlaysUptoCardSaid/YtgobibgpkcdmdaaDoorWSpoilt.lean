/- The walk of law 22's spoilt. -/
import Derived.Test.YtgobibgpkcdmdaaDoorWLaw1
import Derived.Test.YtgobibgpkcdmdaaDoorPRaw
set_option linter.all false
namespace Go.Proofs.YtgobibgpkcdmdaaDoor
open Go Go.RowKit
attribute [local irreducible] Calls
section
variable {w0 w : World} {L L' : List SProp}
/-- The place of a burst: taken modulo the bits. -/
def placed (at_ : Int) (n : Nat) : Nat := (at_ % 18446744073709551616 % (8 * n : Nat)).toNat
theorem placed_lt (at_ : Int) {n : Nat} (h : 1 ≤ n) : placed at_ n < 8 * n := by
  unfold placed
  have h1 := Int.emod_lt_of_pos (at_ % 18446744073709551616) (b := ((8 * n : Nat) : Int)) (by omega)
  have h2 := Int.emod_nonneg (at_ % 18446744073709551616) (b := ((8 * n : Nat) : Int)) (by omega)
  omega
theorem placed_eq (at_ : Int) {n : Nat} (h : 1 ≤ n) (hn : n ≤ 1000000) : wrap64 ((IntKind.u64.wrap at_).tmod (8 * (n : Int))) = (placed at_ n : Int) := by
  have h1 := Int.emod_lt_of_pos (at_ % 18446744073709551616) (b := ((8 * n : Nat) : Int)) (by omega)
  have h2 := Int.emod_nonneg (at_ % 18446744073709551616) (b := ((8 * n : Nat) : Int)) (by omega)
  have e1 : IntKind.u64.wrap at_ = at_ % 18446744073709551616 := by simp [IntKind.wrap, IntKind.bits, IntKind.signed]
  have h3 : 0 ≤ at_ % 18446744073709551616 := by omega
  rw [e1, Int.tmod_eq_emod_of_nonneg h3]
  unfold placed
  have e2 : (8 * (n : Int)) = ((8 * n : Nat) : Int) := by omega
  rw [e2]
  generalize at_ % 18446744073709551616 % ((8 * n : Nat) : Int) = z at h1 h2
  unfold wrap64
  omega
theorem bit_and32 (x f : Nat) (hx : x < 4294967296) : (bits .and .u32 ((x : Int) / 2 ^ f) 1 == 1) = decide (x / 2 ^ f % 2 = 1) := by
  have h1 : x / 2 ^ f < 4294967296 := Nat.lt_of_le_of_lt (Nat.div_le_self _ _) hx
  rw [show ((x : Int) / 2 ^ f) = ((x / 2 ^ f : Nat) : Int) by simp, and1 _ h1]
  rcases Nat.mod_two_eq_zero_or_one (x / 2 ^ f) with e | e <;> simp [e]
theorem flip_cell (l : List UInt8) (j : Nat) (h : j / 8 < l.length) : (bv l).set (j / 8) (.int .u8 (bits .xor .u8 ((l[j / 8].toNat : Nat) : Int) (IntKind.u8.wrap (2 ^ (j % 8))))) = bv (flip l j) := by
  have h8 : j % 8 < 8 := Nat.mod_lt _ (by decide)
  have hp : 2 ^ (j % 8) < 256 := Nat.lt_of_lt_of_le (Nat.pow_lt_pow_right (by decide) h8) (by decide)
  have e1 : IntKind.u8.wrap (2 ^ (j % 8)) = ((2 ^ (j % 8) : Nat) : Int) := by
    have : ((2 : Int) ^ (j % 8)) = ((2 ^ (j % 8) : Nat) : Int) := by simp
    rw [this]
    generalize 2 ^ (j % 8) = z at hp
    simp [IntKind.wrap, IntKind.bits, IntKind.signed]; omega
  have hb := byte_lt l[j / 8]
  have hx : l[j / 8].toNat ^^^ 2 ^ (j % 8) < 256 := Nat.xor_lt_two_pow (n := 8) hb hp
  rw [e1, u8_xor_nat _ _ (by omega) hp]
  unfold flip bv
  rw [List.map_set, List.getElem?_eq_getElem h]
  simp only [Option.getD_some, UInt8.toNat_ofNat', Nat.mod_eq_of_lt hx]
set_option maxRecDepth 100000 in
set_option maxHeartbeats 1600000 in
theorem spoilt_spec {l : List UInt8} {A : Option Addr} {c : Nat} {at_ : Int} {mask : Nat} (hl1 : 1 ≤ l.length) (hm : l.length ≤ 1000000) (hk : mask < 4294967296) (h : Sat w0 L w) (hr : Rd L A (bv l)) :
    Calls Tryd.prog 81 #[.slice A l.length c, .int .i64 at_, .int .u32 (mask : Int)] w fun e w' => ∃ B d, e = .returned (.slice B l.length d) ∧ Sat w0 (own 5 1 B l.length d (bv (spoilt l (placed at_ l.length) mask)) :: L) w' := by
  have hp := placed_eq at_ hl1 hm
  have hp2 := placed_lt at_ hl1
  unfold spoilt
  generalize placed at_ l.length = a at hp hp2
  have h0 : ((l.length : Int) == 0) = false := beq_false_of_ne (by omega)
  go_enter Tryd.func81, Tryd.ntmps81
  go_wp2_with (first | (go_at_call 36; refine (copied_spec (l := l) (by omega) (by assumption) hr rfl).mono ?_; rintro _ _ ⟨B, d, rfl, h1⟩) | ((with_reducible refine wpl_off ?_ ?_); exact rfl; (try simp only [Act.put, zqa, zqb, zqc, zqd, zqe])))
  clear h0
  go_loopw [8] (fun i wr => ∃ k : Nat, k ≤ 32 ∧ i = .int .i64 (k : Int) ∧ Sat w0 (own 5 1 B l.length d (bv (spo l a mask k)) :: L) wr) (fun i _ => 32 - (intOf i).toNat)
  case atStart => exact ⟨0, by omega, rfl, h1⟩
  case round =>
    obtain ⟨k, hk32, rfl, h⟩ := hrel
    by_cases hlt : k < 32
    · have hb := bit_and32 mask k hk
      by_cases h1 : mask / 2 ^ k % 2 = 1
      · rw [decide_eq_true h1] at hb
        by_cases h2 : a + k < 8 * l.length
        · go_wp2_with (first | ((with_reducible refine wpl_off ?_ ?_); exact rfl; (try simp only [Act.put, zqa, zqb, zqc, zqd, zqe])))
          have hd : (a + k) / 8 < l.length := by omega
          have hbv := bv_get (spo l a mask k) ((a + k) / 8) (by simp only [spo_length]; exact hd)
          have e1 : ((a : Int) + k) / 8 = (((a + k) / 8 : Nat) : Int) := by omega
          have e2 : ((a : Int) + k) % 8 = (((a + k) % 8 : Nat) : Int) := by omega
          have e3 : IntKind.i64.wrap (((a : Int) + k).tdiv 8) = (((a + k) / 8 : Nat) : Int) := by
            rw [Int.tdiv_eq_ediv_of_nonneg (by omega), IntWalk.i64_in _ (by omega)]; omega
          have e4 : ((a : Int) + k).tmod 8 = (((a + k) % 8 : Nat) : Int) := by
            rw [Int.tmod_eq_emod_of_nonneg (by omega)]; omega
          have E1 := Lib.hid e1
          have E2 := Lib.hid e2
          have E3 := Lib.hid e3
          have E4 := Lib.hid e4
          clear e1 e2 e3 e4
          first | ((with_reducible refine wpl_off ?_ ?_); exact rfl; (try simp only [Act.put, zqa, zqb, zqc, zqd, zqe])) | ((with_reducible apply (wp_drawZ 10 14 13 _ (by kernel_rfl) (by kernel_rfl))); exact rfl; assumption; (exact Sub.refl _); intro _ _ _; ((apply (zake_value (k := 0) rfl (by kernel_rfl) (fun _ _ _ => id))); exact rfl; assumption; (apply q_move; ((conv => lhs; whnf) <;> exact rfl)); ((try simp only [Act.put, zqa, zqb, zqc, zqd, zqe]); (try simp only [E1.out, E2.out, E3.out, E4.out, Int.toNat_natCast, Nat.mul_one]))); ((apply (zake_value (k := 1) rfl (by kernel_rfl) (fun _ _ _ => id))); exact rfl; assumption; (apply q_move; ((conv => lhs; whnf) <;> exact rfl)); ((try simp only [Act.put, zqa, zqb, zqc, zqd, zqe]); (try simp only [E1.out, E2.out, E3.out, E4.out, Int.toNat_natCast, Nat.mul_one]))); ((apply (zake_value (k := 2) rfl (by kernel_rfl) (fun _ _ _ => id))); exact rfl; assumption; (intro _ _; go_simp; (try exact rfl)); ((try simp only [Act.put, zqa, zqb, zqc, zqd, zqe]); (try simp only [E1.out, E2.out, E3.out, E4.out, Int.toNat_natCast, Nat.mul_one]))); ((apply (zake_value (k := 3) rfl (by kernel_rfl) (fun _ _ _ => id))); exact rfl; assumption; (apply q_move; ((conv => lhs; whnf) <;> exact rfl)); ((try simp only [Act.put, zqa, zqb, zqc, zqd, zqe]); (try simp only [E1.out, E2.out, E3.out, E4.out, Int.toNat_natCast, Nat.mul_one]))); ((apply (zake_value (k := 4) rfl (by kernel_rfl) (fun _ _ _ => id))); exact rfl; assumption; (apply q_move; ((conv => lhs; whnf) <;> exact rfl)); ((try simp only [Act.put, zqa, zqb, zqc, zqd, zqe]); (try simp only [E1.out, E2.out, E3.out, E4.out, Int.toNat_natCast, Nat.mul_one]))); ((apply (zake_value (k := 5) rfl (by kernel_rfl) (fun _ _ _ => id))); exact rfl; assumption; (intro _ _; go_simp; (try exact rfl)); ((try simp only [Act.put, zqa, zqb, zqc, zqd, zqe]); (try simp only [E1.out, E2.out, E3.out, E4.out, Int.toNat_natCast, Nat.mul_one]))); ((apply (zake_value (k := 6) rfl (by kernel_rfl) (fun _ _ _ => id))); exact rfl; assumption; (apply (q_index sl37); exact rfl; exact rfl; (first | assumption | (apply Rd.own; focus ((with_reducible repeat first | exact pH | apply pT); done)) | (focus ((repeat first | assumption | with_reducible apply Rd.cons); done)) | with_reducible exact Rd.nil); omega; omega; (first | assumption | (simp only [bv_length]; omega) | (simp only [iv_length, List.length_append, List.length_singleton]; omega) | (simp <;> omega))); ((try simp only [Act.put, zqa, zqb, zqc, zqd, zqe]); (try simp only [E1.out, E2.out, E3.out, E4.out, Int.toNat_natCast, Nat.mul_one]))); ((apply (zake_value (k := 7) rfl (by kernel_rfl) (fun _ _ _ => id))); exact rfl; assumption; (first | (apply (q_load Tryd.isAgg5); exact rfl; (with_reducible repeat first | exact pH | apply pT); ((try simp only [zqf, zqg, zqh]) <;> exact rfl)) | (apply (q_load_rd Tryd.isAgg5); exact rfl; (first | assumption | (apply Rd.own; focus ((with_reducible repeat first | exact pH | apply pT); done)) | (focus ((repeat first | assumption | with_reducible apply Rd.cons); done)) | with_reducible exact Rd.nil); (first | assumption | exact rfl)) | (apply (q_load_at Tryd.isAgg5); exact rfl; (first | assumption | (apply Rd.own; focus ((with_reducible repeat first | exact pH | apply pT); done)) | (focus ((repeat first | assumption | with_reducible apply Rd.cons); done)) | with_reducible exact Rd.nil))); ((try simp only [Act.put, zqa, zqb, zqc, zqd, zqe]); (try simp only [E1.out, E2.out, E3.out, E4.out, Int.toNat_natCast, Nat.mul_one]))); ((apply (zake_value (k := 8) rfl (by kernel_rfl) (fun _ _ _ => id))); exact rfl; assumption; (apply q_move; ((conv => lhs; whnf) <;> exact rfl)); ((try simp only [Act.put, zqa, zqb, zqc, zqd, zqe]); (try simp only [E1.out, E2.out, E3.out, E4.out, Int.toNat_natCast, Nat.mul_one]))); ((apply (zake_value (k := 9) rfl (by kernel_rfl) (fun _ _ _ => id))); exact rfl; assumption; (intro _ _; go_simp; (try exact rfl)); ((try simp only [Act.put, zqa, zqb, zqc, zqd, zqe]); (try simp only [E1.out, E2.out, E3.out, E4.out, Int.toNat_natCast, Nat.mul_one]))); ((apply (zake_value (k := 10) rfl (by kernel_rfl) (fun _ _ _ => id))); exact rfl; assumption; (intro _ _; go_simp; (try exact rfl)); ((try simp only [Act.put, zqa, zqb, zqc, zqd, zqe]); (try simp only [E1.out, E2.out, E3.out, E4.out, Int.toNat_natCast, Nat.mul_one]))); ((apply (zake_value (k := 11) rfl (by kernel_rfl) (fun _ _ _ => id))); exact rfl; assumption; (intro _ _; go_simp; (try exact rfl)); ((try simp only [Act.put, zqa, zqb, zqc, zqd, zqe]); (try simp only [E1.out, E2.out, E3.out, E4.out, Int.toNat_natCast, Nat.mul_one]))); ((apply (zake_value (k := 12) rfl (by kernel_rfl) (fun _ _ _ => id))); exact rfl; assumption; (apply (q_index sl37); exact rfl; exact rfl; (first | assumption | (apply Rd.own; focus ((with_reducible repeat first | exact pH | apply pT); done)) | (focus ((repeat first | assumption | with_reducible apply Rd.cons); done)) | with_reducible exact Rd.nil); omega; omega; (first | assumption | (simp only [bv_length]; omega) | (simp only [iv_length, List.length_append, List.length_singleton]; omega) | (simp <;> omega))); ((try simp only [Act.put, zqa, zqb, zqc, zqd, zqe]); (try simp only [E1.out, E2.out, E3.out, E4.out, Int.toNat_natCast, Nat.mul_one]))); (apply (zake_last (by kernel_rfl) rfl (by kernel_rfl))); (first | ((with_reducible apply wpl_store Tryd.sizeOf5); exact rfl; exact rfl; ((conv => lhs; whnf) <;> exact rfl); exact rfl; assumption; (with_reducible repeat first | exact pH | apply pT); (exact Nat.le_of_ble_eq_true rfl); ((try simp only [zqa, zqb, zqc]) <;> exact rfl); intro _ _; ((try simp only [Act.put, zqa, zqb, zqc, zqd, zqe]); (try simp only [E1.out, E2.out, E3.out, E4.out, Int.toNat_natCast, Nat.mul_one]))) | ((with_reducible apply wpl_store_own Tryd.sizeOf5); exact rfl; exact rfl; ((conv => lhs; whnf) <;> exact rfl); exact rfl; assumption; (with_reducible repeat first | exact pH | apply pT); (first | assumption | (simp <;> omega)); intro _ _; ((try simp only [Act.put, zqa, zqb, zqc, zqd, zqe]); (try simp only [E1.out, E2.out, E3.out, E4.out, Int.toNat_natCast, Nat.mul_one])))); (refine KQ_end ?_); ((try simp only [Act.put, zqa, zqb, zqc, zqd, zqe]); (try simp only [E1.out, E2.out, E3.out, E4.out, Int.toNat_natCast, Nat.mul_one])))
          go_wp2
          go_roundw
          case rel =>
            refine ⟨k + 1, by omega, by go_num, ?_⟩
            rw [spo, if_pos ⟨h1, by simpa using h2⟩, ← flip_cell _ _ (by simp only [spo_length]; exact hd)]
            assumption
          case measure => simp [intOf]; omega
        · go_wp2_with (first | ((with_reducible refine wpl_off ?_ ?_); exact rfl; (try simp only [Act.put, zqa, zqb, zqc, zqd, zqe])))
          go_roundw
          case rel =>
            refine ⟨k + 1, by omega, by go_num, ?_⟩
            rw [spo, if_neg (fun h => h2 h.2)]
            assumption
          case measure => simp [intOf]; omega
      · rw [decide_eq_false h1] at hb
        go_wp2_with (first | ((with_reducible refine wpl_off ?_ ?_); exact rfl; (try simp only [Act.put, zqa, zqb, zqc, zqd, zqe])))
        go_roundw
        case rel =>
          refine ⟨k + 1, by omega, by go_num, ?_⟩
          rw [spo, if_neg (fun h => h1 h.1)]
          assumption
        case measure => simp [intOf]; omega
    · obtain rfl : k = 32 := by omega
      go_wp2_with (first | ((with_reducible refine wpl_off ?_ ?_); exact rfl; (try simp only [Act.put, zqa, zqb, zqc, zqd, zqe])))
      go_ret
      exact ⟨_, _, rfl, by assumption⟩
end
end Go.Proofs.YtgobibgpkcdmdaaDoor
