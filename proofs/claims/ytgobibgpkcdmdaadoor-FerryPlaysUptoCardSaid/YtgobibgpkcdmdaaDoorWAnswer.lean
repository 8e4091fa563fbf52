/- The walk of package ferry's answer. -/
import Derived.Test.YtgobibgpkcdmdaaDoorWRecv
set_option linter.all false
namespace Go.Proofs.YtgobibgpkcdmdaaDoor
open Go Go.RowKit
attribute [local irreducible] Calls
def lowOf (l : List (Option (List UInt8))) : Nat := (l.takeWhile Option.isSome).length
theorem lowOf_eq (l : List (Option (List UInt8))) (k : Nat) (hk : k ≤ l.length) (h : ∀ i (hi : i < k), (l[i]'(by omega)).isSome = true) (he : ∀ hk' : k < l.length, (l[k]).isSome = false) : lowOf l = k := by
  unfold lowOf
  induction l generalizing k with
  | nil => simp at hk; simp [hk]
  | cons o l ih =>
    cases k with
    | zero =>
      have := he (by simp)
      rw [List.takeWhile_cons_of_neg (by simpa using this)]; rfl
    | succ k =>
      have h0 := h 0 (by omega)
      rw [List.takeWhile_cons_of_pos (by simpa using h0), List.length_cons]
      rw [ih k (by simp at hk; omega) (fun i hi => by have := h (i + 1) (by omega); simpa using this) (fun hk' => by have := he (by simp; omega); simpa using this)]
def flagsTo (l : List (Option (List UInt8))) (low : Nat) : Nat → Nat
  | 0 => 0
  | k + 1 => flagsTo l low k + (if (l[low + 1 + k]?.join).isSome then 2 ^ k else 0)
theorem flagsTo_lt (l : List (Option (List UInt8))) (low k : Nat) : flagsTo l low k < 2 ^ k := by
  induction k with
  | zero => simp [flagsTo]
  | succ k ih =>
    unfold flagsTo
    rw [Nat.pow_succ]
    split <;> omega
def Rc.ack (s : Rc) : Pk := ⟨2, s.len, s.sum, lowOf s.parts, [UInt8.ofNat (flagsTo s.parts (lowOf s.parts) 8)]⟩
theorem or_flag (F k : Nat) (hk : k < 8) (hF : F < 2 ^ k) : bits .or .u8 (F : Int) (IntKind.u8.wrap (2 ^ k)) = ((F + 2 ^ k : Nat) : Int) := by
  have h8 : (2 : Nat) ^ k ≤ 128 := by
    have := Nat.pow_le_pow_right (n := 2) (by decide) (show k ≤ 7 by omega)
    omega
  have hw : ∀ n : Int, 0 ≤ n → n < 2 ^ 8 → IntKind.u8.wrap n = n := fun n h0 h1 => by simp [IntKind.wrap, IntKind.bits, IntKind.signed]; omega
  have e : ((2 : Int) ^ k) = ((2 ^ k : Nat) : Int) := by simp
  rw [e, hw _ (by omega) (by omega)]
  rw [bits_join_low .u8 8 (by decide) hw k _ _ (by omega) (by rw [e]; omega) (by omega) (by omega) (by rw [e]; simp) (by omega)]
  omega
section
variable {w0 w : World} {L L' : List SProp} {b : Nat} {s : Rc}
set_option maxRecDepth 100000 in
set_option maxHeartbeats 1600000 in
theorem answer_spec (hb : s.begun = true) (h : Sat w0 (RcvP b s :: L) w) :
    Calls Tryd.prog 86 #[.pointer (some ⟨b, 0, none⟩)] w fun e w' => ∃ B d, e = .returned (.slice B s.ack.bytes.length d) ∧ Sat w0 (own 5 1 B s.ack.bytes.length d (bv s.ack.bytes) :: RcvP b s :: L) w' := by
  obtain ⟨A, c, ps, hok, h⟩ := RcvP.open_ h
  have HOK := Lib.hid hok
  have hlen : ps.length ≤ 640 := by have := hok.2.1; rw [← hok.1] at this; simpa using this
  have hpl : s.parts.length = ps.length := by rw [← hok.1]; simp
  have hne : ∀ l, some l ∈ s.parts → 1 ≤ l.length := fun l hl => (hok.2.2.1 l hl).1
  have HP := Lib.hid hok.1
  have HPL := Lib.hid hpl
  have HB := Lib.hid (hok.2.2.2.2.1 hb)
  have hsum := hok.2.2.2.2.2
  have hl40 := (hok.2.2.2.2.1 hb).2.1
  clear hok hpl
  go_enter Tryd.func86, Tryd.ntmps86
  go_wp2_with (first | ((with_reducible refine wpl_off ?_ ?_); exact rfl; (try simp only [Act.put, zqa, zqb, zqc, zqd, zqe])) | ((with_reducible first | apply wpl_load Tryd.isAgg33 | apply wpl_load Tryd.isAgg37); exact rfl; exact rfl; assumption; (with_reducible repeat first | exact pH | apply pT); ((try simp only [zqf, zqg, zqh]) <;> exact rfl); (try simp only [Act.put, zqa, zqb, zqc, zqd, zqe])) | ((with_reducible first | apply wpl_load_rd Tryd.isAgg33 | apply wpl_load_rd Tryd.isAgg37); exact rfl; exact rfl; assumption; (first | assumption | (apply Rd.own; focus ((with_reducible repeat first | exact pH | apply pT); done)) | (focus ((repeat first | assumption | with_reducible apply Rd.cons); done)) | with_reducible exact Rd.nil); (first | assumption | exact rfl); (try simp only [Act.put, zqa, zqb, zqc, zqd, zqe])) | ((with_reducible apply wpl_index sl33); exact rfl; exact rfl; exact rfl; assumption; (first | assumption | (apply Rd.own; focus ((with_reducible repeat first | exact pH | apply pT); done)) | (focus ((repeat first | assumption | with_reducible apply Rd.cons); done)) | with_reducible exact Rd.nil); omega; omega; (first | assumption | (simp only [bv_length]; omega) | (simp only [iv_length, List.length_append, List.length_singleton]; omega) | (simp <;> omega)); (try simp only [Act.put, zqa, zqb, zqc, zqd, zqe])) | ((with_reducible apply wpl_load_agg Tryd.isAgg135 Tryd.sizeOf135); exact rfl; exact rfl; assumption; (with_reducible repeat first | exact pH | apply pT); (exact Nat.le_of_ble_eq_true rfl); ((try simp only [zqi, zqj, zqk, zql, zqm, zqn, Nat.reduceAdd, Nat.reduceSub]) <;> exact rfl); (try simp only [Act.put, zqa, zqb, zqc, zqd, zqe])) | ((with_reducible apply wpl_load_rd_agg2 Tryd.isAgg135 Tryd.sizeOf135); exact rfl; exact rfl; assumption; (first | assumption | (apply Rd.own; focus ((with_reducible repeat first | exact pH | apply pT); done)) | (focus ((repeat first | assumption | with_reducible apply Rd.cons); done)) | with_reducible exact Rd.nil); assumption; (first | rfl | assumption); (try simp only [Act.put, zqa, zqb, zqc, zqd, zqe])) | ((with_reducible apply wpl_build1 sl37); exact rfl; ((conv => lhs; whnf) <;> exact rfl); rfl; assumption; intro _ _ _; (try simp only [Act.put, zqa, zqb, zqc, zqd, zqe])))
  go_loopw [3] (fun t wr => ∃ k : Nat, k ≤ ps.length ∧ t = .int .i64 (k : Int) ∧ (∀ i (hi : i < s.parts.length), i < k → (s.parts[i]).isSome = true) ∧ Sat w0 (blk b (.cells #[.bool s.begun, .int .i64 (s.len : Int), .int .u32 (s.sum : Int), .slice A ps.length c] 137) :: own 37 1 A ps.length c (pcV ps) :: pcP ps :: L) wr) (fun t _ => ps.length - (intOf t).toNat)
  case atStart => exact ⟨0, by omega, rfl, fun _ _ h => by omega, by assumption⟩
  case round =>
    obtain ⟨k, hk, rfl, hall, h⟩ := hrel
    have HALL := Lib.hid hall
    clear hall
    by_cases hlt : k < ps.length
    · have hkp : k < s.parts.length := by rw [HPL.out]; exact hlt
      have hg := pc_get HP.out hlt
      cases hx : s.parts[k] with
      | some l =>
        rw [hx] at hg
        obtain ⟨a, ha, hv⟩ := pc_some hlt hg (hne l (hx ▸ List.getElem_mem hkp)) (h.drop.drop)
        have HX := Lib.hid hx
        clear hg hx ha
        go_wp2_with (first | ((with_reducible refine wpl_off ?_ ?_); exact rfl; (try simp only [Act.put, zqa, zqb, zqc, zqd, zqe])) | ((with_reducible first | apply wpl_load Tryd.isAgg33 | apply wpl_load Tryd.isAgg37); exact rfl; exact rfl; assumption; (with_reducible repeat first | exact pH | apply pT); ((try simp only [zqf, zqg, zqh]) <;> exact rfl); (try simp only [Act.put, zqa, zqb, zqc, zqd, zqe])) | ((with_reducible first | apply wpl_load_rd Tryd.isAgg33 | apply wpl_load_rd Tryd.isAgg37); exact rfl; exact rfl; assumption; (first | assumption | (apply Rd.own; focus ((with_reducible repeat first | exact pH | apply pT); done)) | (focus ((repeat first | assumption | with_reducible apply Rd.cons); done)) | with_reducible exact Rd.nil); (first | assumption | exact rfl); (try simp only [Act.put, zqa, zqb, zqc, zqd, zqe])) | ((with_reducible apply wpl_index sl33); exact rfl; exact rfl; exact rfl; assumption; (first | assumption | (apply Rd.own; focus ((with_reducible repeat first | exact pH | apply pT); done)) | (focus ((repeat first | assumption | with_reducible apply Rd.cons); done)) | with_reducible exact Rd.nil); omega; omega; (first | assumption | (simp only [bv_length]; omega) | (simp only [iv_length, List.length_append, List.length_singleton]; omega) | (simp <;> omega)); (try simp only [Act.put, zqa, zqb, zqc, zqd, zqe])))
        go_roundw
        case rel =>
          refine ⟨k + 1, by omega, by go_num, fun i hi hik => ?_, by assumption⟩
          by_cases e : i = k
          · subst e; rw [HX.out]; rfl
          · exact HALL.out i hi (by omega)
        case measure => simp [intOf]; omega
      | none =>
        rw [hx] at hg
        have hv := pc_none hlt hg
        have hlow := lowOf_eq s.parts k (by omega) (fun i hi => HALL.out i (by omega) hi) (fun _ => by rw [hx]; rfl)
        have HLOW := Lib.hid hlow
        clear hg hx hkp hlow
        go_wp2_with (first | ((with_reducible refine wpl_off ?_ ?_); exact rfl; (try simp only [Act.put, zqa, zqb, zqc, zqd, zqe])) | ((with_reducible first | apply wpl_load Tryd.isAgg33 | apply wpl_load Tryd.isAgg37); exact rfl; exact rfl; assumption; (with_reducible repeat first | exact pH | apply pT); ((try simp only [zqf, zqg, zqh]) <;> exact rfl); (try simp only [Act.put, zqa, zqb, zqc, zqd, zqe])) | ((with_reducible first | apply wpl_load_rd Tryd.isAgg33 | apply wpl_load_rd Tryd.isAgg37); exact rfl; exact rfl; assumption; (first | assumption | (apply Rd.own; focus ((with_reducible repeat first | exact pH | apply pT); done)) | (focus ((repeat first | assumption | with_reducible apply Rd.cons); done)) | with_reducible exact Rd.nil); (first | assumption | exact rfl); (try simp only [Act.put, zqa, zqb, zqc, zqd, zqe])) | ((with_reducible apply wpl_index sl33); exact rfl; exact rfl; exact rfl; assumption; (first | assumption | (apply Rd.own; focus ((with_reducible repeat first | exact pH | apply pT); done)) | (focus ((repeat first | assumption | with_reducible apply Rd.cons); done)) | with_reducible exact Rd.nil); omega; omega; (first | assumption | (simp only [bv_length]; omega) | (simp only [iv_length, List.length_append, List.length_singleton]; omega) | (simp <;> omega)); (try simp only [Act.put, zqa, zqb, zqc, zqd, zqe])))
        go_loopw [4, 26] (fun t i wr => ∃ j : Nat, j ≤ 8 ∧ i = .int .i64 (j : Int) ∧ t = .int .u8 (flagsTo s.parts k j : Nat) ∧ Sat w0 (blk b (.cells #[.bool s.begun, .int .i64 (s.len : Int), .int .u32 (s.sum : Int), .slice A ps.length c] 137) :: own 37 1 A ps.length c (pcV ps) :: pcP ps :: L) wr) (fun _ i _ => 8 - (intOf i).toNat)
        case atStart => exact ⟨0, by omega, rfl, by simp [flagsTo], by assumption⟩
        case round =>
          obtain ⟨j, hj, rfl, rfl, h⟩ := hrel
          have hfl := flagsTo_lt s.parts k j
          by_cases hj8 : j < 8
          · have hstep : flagsTo s.parts k (j + 1) = flagsTo s.parts k j + (if (s.parts[k + 1 + j]?.join).isSome then 2 ^ j else 0) := rfl
            have hor := or_flag (flagsTo s.parts k j) j hj8 hfl
            have HFL := Lib.hid hfl
            clear hfl
            generalize flagsTo s.parts k j = F at HFL hor hstep
            by_cases hlt2 : (k : Int) + 1 + (j : Int) < (ps.length : Int)
            · have hn2 : k + 1 + j < ps.length := by omega
              have hkp : k + 1 + j < s.parts.length := by rw [HPL.out]; exact hn2
              have hg := pc_get HP.out hn2
              have e1 : ((k : Int) + 1 + (j : Int)).toNat = k + 1 + j := by omega
              rw [List.getElem?_eq_getElem hkp] at hstep
              cases hx : s.parts[k + 1 + j] with
              | some l =>
                rw [hx] at hg hstep
                obtain ⟨a, q, hv⟩ : ∃ a q, (pcV ps)[((k : Int) + 1 + (j : Int)).toNat]? = some (.slice (some a) l.length q) := by rw [e1]; obtain ⟨a, _, hv⟩ := pc_some hn2 hg (hne l (hx ▸ List.getElem_mem hkp)) (h.drop.drop); exact ⟨a, _, hv⟩
                have HST := Lib.hid hstep
                clear hg hx hstep e1 hkp
                go_wp2_with (first | ((with_reducible refine wpl_off ?_ ?_); exact rfl; (try simp only [Act.put, zqa, zqb, zqc, zqd, zqe])) | ((with_reducible first | apply wpl_load Tryd.isAgg33 | apply wpl_load Tryd.isAgg37); exact rfl; exact rfl; assumption; (with_reducible repeat first | exact pH | apply pT); ((try simp only [zqf, zqg, zqh]) <;> exact rfl); (try simp only [Act.put, zqa, zqb, zqc, zqd, zqe])) | ((with_reducible first | apply wpl_load_rd Tryd.isAgg33 | apply wpl_load_rd Tryd.isAgg37); exact rfl; exact rfl; assumption; (first | assumption | (apply Rd.own; focus ((with_reducible repeat first | exact pH | apply pT); done)) | (focus ((repeat first | assumption | with_reducible apply Rd.cons); done)) | with_reducible exact Rd.nil); (first | assumption | exact rfl); (try simp only [Act.put, zqa, zqb, zqc, zqd, zqe])) | ((with_reducible apply wpl_index sl33); exact rfl; exact rfl; exact rfl; assumption; (first | assumption | (apply Rd.own; focus ((with_reducible repeat first | exact pH | apply pT); done)) | (focus ((repeat first | assumption | with_reducible apply Rd.cons); done)) | with_reducible exact Rd.nil); omega; omega; (first | assumption | (simp only [bv_length]; omega) | (simp only [iv_length, List.length_append, List.length_singleton]; omega) | (simp <;> omega)); (try simp only [Act.put, zqa, zqb, zqc, zqd, zqe])))
                go_roundw
                case rel =>
                  refine ⟨j + 1, by omega, by go_num, ?_, by assumption⟩
                  rw [HST.out, show ((2 : Int) ^ j % 256) = IntKind.u8.wrap (2 ^ j) from by simp [IntKind.wrap, IntKind.bits, IntKind.signed], hor]
                  simp
                case measure => simp [intOf]; omega
              | none =>
                rw [hx] at hg hstep
                have hv := pc_none hn2 hg
                rw [← e1] at hv
                have HST := Lib.hid hstep
                clear hg hx hstep e1 hkp
                go_wp2_with (first | ((with_reducible refine wpl_off ?_ ?_); exact rfl; (try simp only [Act.put, zqa, zqb, zqc, zqd, zqe])) | ((with_reducible first | apply wpl_load Tryd.isAgg33 | apply wpl_load Tryd.isAgg37); exact rfl; exact rfl; assumption; (with_reducible repeat first | exact pH | apply pT); ((try simp only [zqf, zqg, zqh]) <;> exact rfl); (try simp only [Act.put, zqa, zqb, zqc, zqd, zqe])) | ((with_reducible first | apply wpl_load_rd Tryd.isAgg33 | apply wpl_load_rd Tryd.isAgg37); exact rfl; exact rfl; assumption; (first | assumption | (apply Rd.own; focus ((with_reducible repeat first | exact pH | apply pT); done)) | (focus ((repeat first | assumption | with_reducible apply Rd.cons); done)) | with_reducible exact Rd.nil); (first | assumption | exact rfl); (try simp only [Act.put, zqa, zqb, zqc, zqd, zqe])) | ((with_reducible apply wpl_index sl33); exact rfl; exact rfl; exact rfl; assumption; (first | assumption | (apply Rd.own; focus ((with_reducible repeat first | exact pH | apply pT); done)) | (focus ((repeat first | assumption | with_reducible apply Rd.cons); done)) | with_reducible exact Rd.nil); omega; omega; (first | assumption | (simp only [bv_length]; omega) | (simp only [iv_length, List.length_append, List.length_singleton]; omega) | (simp <;> omega)); (try simp only [Act.put, zqa, zqb, zqc, zqd, zqe])))
                go_roundw
                case rel =>
                  refine ⟨j + 1, by omega, by go_num, ?_, by assumption⟩
                  rw [HST.out] <;> simp
                case measure => simp [intOf]; omega
            · have hno : s.parts[k + 1 + j]? = none := List.getElem?_eq_none (by rw [HPL.out]; omega)
              rw [hno] at hstep
              have HST := Lib.hid hstep
              clear hstep hno
              go_wp2_with (first | ((with_reducible refine wpl_off ?_ ?_); exact rfl; (try simp only [Act.put, zqa, zqb, zqc, zqd, zqe])) | ((with_reducible first | apply wpl_load Tryd.isAgg33 | apply wpl_load Tryd.isAgg37); exact rfl; exact rfl; assumption; (with_reducible repeat first | exact pH | apply pT); ((try simp only [zqf, zqg, zqh]) <;> exact rfl); (try simp only [Act.put, zqa, zqb, zqc, zqd, zqe])) | ((with_reducible first | apply wpl_load_rd Tryd.isAgg33 | apply wpl_load_rd Tryd.isAgg37); exact rfl; exact rfl; assumption; (first | assumption | (apply Rd.own; focus ((with_reducible repeat first | exact pH | apply pT); done)) | (focus ((repeat first | assumption | with_reducible apply Rd.cons); done)) | with_reducible exact Rd.nil); (first | assumption | exact rfl); (try simp only [Act.put, zqa, zqb, zqc, zqd, zqe])) | ((with_reducible apply wpl_index sl33); exact rfl; exact rfl; exact rfl; assumption; (first | assumption | (apply Rd.own; focus ((with_reducible repeat first | exact pH | apply pT); done)) | (focus ((repeat first | assumption | with_reducible apply Rd.cons); done)) | with_reducible exact Rd.nil); omega; omega; (first | assumption | (simp only [bv_length]; omega) | (simp only [iv_length, List.length_append, List.length_singleton]; omega) | (simp <;> omega)); (try simp only [Act.put, zqa, zqb, zqc, zqd, zqe])))
              go_roundw
              case rel =>
                refine ⟨j + 1, by omega, by go_num, ?_, by assumption⟩
                rw [HST.out] <;> simp
              case measure => simp [intOf]; omega
          · obtain rfl : j = 8 := by omega
            have hack : s.ack = ⟨2, s.len, s.sum, k, [UInt8.ofNat (flagsTo s.parts k 8)]⟩ := by unfold Rc.ack; rw [HLOW.out]
            have hbv : bv [UInt8.ofNat (flagsTo s.parts k 8)] = [.int .u8 (flagsTo s.parts k 8 : Nat)] := by
              have e : (UInt8.ofNat (flagsTo s.parts k 8)).toNat = flagsTo s.parts k 8 := by
                rw [UInt8.toNat_ofNat']; exact Nat.mod_eq_of_lt hfl
              simp [bv, e]
            have HACK := Lib.hid hack
            have HBV := Lib.hid hbv
            clear hack hbv
            go_wp2_with (first | (go_at_call 83; refine (lay_spec (p := ⟨2, s.len, s.sum, k, [UInt8.ofNat (flagsTo s.parts k 8)]⟩) (by show 2 ≤ 255; decide) (by show s.len < _; omega) hsum (by show k ≤ _; omega) (by show 1 ≤ _; decide) rfl (by assumption) (by show Rd _ _ (bv [UInt8.ofNat (flagsTo s.parts k 8)]); rw [HBV.out]; exact Rd.own (by (with_reducible repeat first | exact pH | apply pT)))).mono ?_; rintro _ _ ⟨C, d2, rfl, hl2⟩) | ((with_reducible refine wpl_off ?_ ?_); exact rfl; (try simp only [Act.put, zqa, zqb, zqc, zqd, zqe])) | ((with_reducible apply wpl_load_agg Tryd.isAgg135 Tryd.sizeOf135); exact rfl; exact rfl; assumption; (with_reducible repeat first | exact pH | apply pT); (exact Nat.le_of_ble_eq_true rfl); ((try simp only [zqi, zqj, zqk, zql, zqm, zqn, Nat.reduceAdd, Nat.reduceSub]) <;> exact rfl); (try simp only [Act.put, zqa, zqb, zqc, zqd, zqe])) | ((with_reducible apply wpl_load_rd_agg2 Tryd.isAgg135 Tryd.sizeOf135); exact rfl; exact rfl; assumption; (first | assumption | (apply Rd.own; focus ((with_reducible repeat first | exact pH | apply pT); done)) | (focus ((repeat first | assumption | with_reducible apply Rd.cons); done)) | with_reducible exact Rd.nil); assumption; (first | rfl | assumption); (try simp only [Act.put, zqa, zqb, zqc, zqd, zqe])) | ((with_reducible apply wpl_build1 sl37); exact rfl; ((conv => lhs; whnf) <;> exact rfl); rfl; assumption; intro _ _ _; (try simp only [Act.put, zqa, zqb, zqc, zqd, zqe])))
            go_ret
            rw [HACK.out]
            exact ⟨C, d2, rfl, Sat.swap (RcvP.shut (A := A) (c := c) HOK.out (Sat.sub hl2 (by (with_reducible repeat first | exact pH | exact Sub.refl _ | exact Sub.nil | apply pT | apply Sub.cons | apply Sub.skip))))⟩
    · have hlow := lowOf_eq s.parts k (by rw [HPL.out]; exact hk) (fun i hi => HALL.out i (by rw [HPL.out]; omega) hi) (fun h => by rw [HPL.out] at h; omega)
      go_wp2_with (first | ((with_reducible refine wpl_off ?_ ?_); exact rfl; (try simp only [Act.put, zqa, zqb, zqc, zqd, zqe])) | ((with_reducible first | apply wpl_load Tryd.isAgg33 | apply wpl_load Tryd.isAgg37); exact rfl; exact rfl; assumption; (with_reducible repeat first | exact pH | apply pT); ((try simp only [zqf, zqg, zqh]) <;> exact rfl); (try simp only [Act.put, zqa, zqb, zqc, zqd, zqe])) | ((with_reducible first | apply wpl_load_rd Tryd.isAgg33 | apply wpl_load_rd Tryd.isAgg37); exact rfl; exact rfl; assumption; (first | assumption | (apply Rd.own; focus ((with_reducible repeat first | exact pH | apply pT); done)) | (focus ((repeat first | assumption | with_reducible apply Rd.cons); done)) | with_reducible exact Rd.nil); (first | assumption | exact rfl); (try simp only [Act.put, zqa, zqb, zqc, zqd, zqe])) | ((with_reducible apply wpl_index sl33); exact rfl; exact rfl; exact rfl; assumption; (first | assumption | (apply Rd.own; focus ((with_reducible repeat first | exact pH | apply pT); done)) | (focus ((repeat first | assumption | with_reducible apply Rd.cons); done)) | with_reducible exact Rd.nil); omega; omega; (first | assumption | (simp only [bv_length]; omega) | (simp only [iv_length, List.length_append, List.length_singleton]; omega) | (simp <;> omega)); (try simp only [Act.put, zqa, zqb, zqc, zqd, zqe])))
      have HLOW := Lib.hid hlow
      clear hlow
      go_loopw [4, 26] (fun t i wr => ∃ j : Nat, j ≤ 8 ∧ i = .int .i64 (j : Int) ∧ t = .int .u8 (flagsTo s.parts k j : Nat) ∧ Sat w0 (blk b (.cells #[.bool s.begun, .int .i64 (s.len : Int), .int .u32 (s.sum : Int), .slice A ps.length c] 137) :: own 37 1 A ps.length c (pcV ps) :: pcP ps :: L) wr) (fun _ i _ => 8 - (intOf i).toNat)
      case atStart => exact ⟨0, by omega, rfl, by simp [flagsTo], by assumption⟩
      case round =>
        obtain ⟨j, hj, rfl, rfl, h⟩ := hrel
        have hfl := flagsTo_lt s.parts k j
        by_cases hj8 : j < 8
        · have hstep : flagsTo s.parts k (j + 1) = flagsTo s.parts k j + (if (s.parts[k + 1 + j]?.join).isSome then 2 ^ j else 0) := rfl
          have hor := or_flag (flagsTo s.parts k j) j hj8 hfl
          have HFL := Lib.hid hfl
          clear hfl
          generalize flagsTo s.parts k j = F at HFL hor hstep
          by_cases hlt2 : (k : Int) + 1 + (j : Int) < (ps.length : Int)
          · exfalso; omega
          · have hno : s.parts[k + 1 + j]? = none := List.getElem?_eq_none (by rw [HPL.out]; omega)
            rw [hno] at hstep
            have HST := Lib.hid hstep
            clear hstep hno
            go_wp2_with (first | ((with_reducible refine wpl_off ?_ ?_); exact rfl; (try simp only [Act.put, zqa, zqb, zqc, zqd, zqe])) | ((with_reducible first | apply wpl_load Tryd.isAgg33 | apply wpl_load Tryd.isAgg37); exact rfl; exact rfl; assumption; (with_reducible repeat first | exact pH | apply pT); ((try simp only [zqf, zqg, zqh]) <;> exact rfl); (try simp only [Act.put, zqa, zqb, zqc, zqd, zqe])) | ((with_reducible first | apply wpl_load_rd Tryd.isAgg33 | apply wpl_load_rd Tryd.isAgg37); exact rfl; exact rfl; assumption; (first | assumption | (apply Rd.own; focus ((with_reducible repeat first | exact pH | apply pT); done)) | (focus ((repeat first | assumption | with_reducible apply Rd.cons); done)) | with_reducible exact Rd.nil); (first | assumption | exact rfl); (try simp only [Act.put, zqa, zqb, zqc, zqd, zqe])) | ((with_reducible apply wpl_index sl33); exact rfl; exact rfl; exact rfl; assumption; (first | assumption | (apply Rd.own; focus ((with_reducible repeat first | exact pH | apply pT); done)) | (focus ((repeat first | assumption | with_reducible apply Rd.cons); done)) | with_reducible exact Rd.nil); omega; omega; (first | assumption | (simp only [bv_length]; omega) | (simp only [iv_length, List.length_append, List.length_singleton]; omega) | (simp <;> omega)); (try simp only [Act.put, zqa, zqb, zqc, zqd, zqe])))
            go_roundw
            case rel =>
              refine ⟨j + 1, by omega, by go_num, ?_, by assumption⟩
              rw [HST.out] <;> simp
            case measure => simp [intOf]; omega
        · obtain rfl : j = 8 := by omega
          have hack : s.ack = ⟨2, s.len, s.sum, k, [UInt8.ofNat (flagsTo s.parts k 8)]⟩ := by unfold Rc.ack; rw [HLOW.out]
          have hbv : bv [UInt8.ofNat (flagsTo s.parts k 8)] = [.int .u8 (flagsTo s.parts k 8 : Nat)] := by
            have e : (UInt8.ofNat (flagsTo s.parts k 8)).toNat = flagsTo s.parts k 8 := by
              rw [UInt8.toNat_ofNat']; exact Nat.mod_eq_of_lt hfl
            simp [bv, e]
          have HACK := Lib.hid hack
          have HBV := Lib.hid hbv
          clear hack hbv
          go_wp2_with (first | (go_at_call 83; refine (lay_spec (p := ⟨2, s.len, s.sum, k, [UInt8.ofNat (flagsTo s.parts k 8)]⟩) (by show 2 ≤ 255; decide) (by show s.len < _; omega) hsum (by show k ≤ _; omega) (by show 1 ≤ _; decide) rfl (by assumption) (by show Rd _ _ (bv [UInt8.ofNat (flagsTo s.parts k 8)]); rw [HBV.out]; exact Rd.own (by (with_reducible repeat first | exact pH | apply pT)))).mono ?_; rintro _ _ ⟨C, d2, rfl, hl2⟩) | ((with_reducible refine wpl_off ?_ ?_); exact rfl; (try simp only [Act.put, zqa, zqb, zqc, zqd, zqe])) | ((with_reducible apply wpl_load_agg Tryd.isAgg135 Tryd.sizeOf135); exact rfl; exact rfl; assumption; (with_reducible repeat first | exact pH | apply pT); (exact Nat.le_of_ble_eq_true rfl); ((try simp only [zqi, zqj, zqk, zql, zqm, zqn, Nat.reduceAdd, Nat.reduceSub]) <;> exact rfl); (try simp only [Act.put, zqa, zqb, zqc, zqd, zqe])) | ((with_reducible apply wpl_load_rd_agg2 Tryd.isAgg135 Tryd.sizeOf135); exact rfl; exact rfl; assumption; (first | assumption | (apply Rd.own; focus ((with_reducible repeat first | exact pH | apply pT); done)) | (focus ((repeat first | assumption | with_reducible apply Rd.cons); done)) | with_reducible exact Rd.nil); assumption; (first | rfl | assumption); (try simp only [Act.put, zqa, zqb, zqc, zqd, zqe])) | ((with_reducible apply wpl_build1 sl37); exact rfl; ((conv => lhs; whnf) <;> exact rfl); rfl; assumption; intro _ _ _; (try simp only [Act.put, zqa, zqb, zqc, zqd, zqe])))
          go_ret
          rw [HACK.out]
          exact ⟨C, d2, rfl, Sat.swap (RcvP.shut (A := A) (c := c) HOK.out (Sat.sub hl2 (by (with_reducible repeat first | exact pH | exact Sub.refl _ | exact Sub.nil | apply pT | apply Sub.cons | apply Sub.skip))))⟩
end
end Go.Proofs.YtgobibgpkcdmdaaDoor
