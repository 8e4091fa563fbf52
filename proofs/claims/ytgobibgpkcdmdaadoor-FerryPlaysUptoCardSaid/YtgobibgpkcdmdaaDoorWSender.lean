/- The walks of package ferry's Sender. -/
import Derived.Test.YtgobibgpkcdmdaaDoorWReadB
set_option linter.all false
namespace Go.Proofs.YtgobibgpkcdmdaaDoor
open Go Go.RowKit
attribute [local irreducible] Calls
/-- A sender: its cargo, what is acknowledged. -/
structure Sd where
  cargo : List UInt8
  acked : List Bool
def boolV (l : List Bool) : List Value := l.map Value.bool
@[simp] theorem boolV_length (l : List Bool) : (boolV l).length = l.length := by simp [boolV]
theorem boolV_get (l : List Bool) (i : Nat) (h : i < l.length) : (boolV l)[i]? = some (.bool l[i]) := by simp [boolV, h]
def Sd.parts (s : Sd) : Nat := (s.cargo.length + 63) / 64
def Sd.ok (s : Sd) : Prop := 1 ≤ s.cargo.length ∧ s.cargo.length ≤ 40960 ∧ s.acked.length = s.parts
def SenderP (b : Nat) (s : Sd) : SProp := ex fun A => ex fun c => ex fun B => ex fun d =>
  star [blk b (.cells #[.int .i64 (s.cargo.length : Int), .int .u32 (csum s.cargo : Int), .slice A s.cargo.length c, .slice B s.acked.length d] 144), own 5 1 A s.cargo.length c (bv s.cargo), own 4 1 B s.acked.length d (boolV s.acked), fact s.ok]
section
variable {w0 w : World} {L L' : List SProp} {b : Nat} {s : Sd}
theorem SenderP.open_ (h : Sat w0 (SenderP b s :: L) w) : ∃ A c B d, s.ok ∧
    Sat w0 (blk b (.cells #[.int .i64 (s.cargo.length : Int), .int .u32 (csum s.cargo : Int), .slice A s.cargo.length c, .slice B s.acked.length d] 144) :: own 5 1 A s.cargo.length c (bv s.cargo) :: own 4 1 B s.acked.length d (boolV s.acked) :: L) w := by
  obtain ⟨A, h⟩ := Sat.ex_iff.1 h
  obtain ⟨c, h⟩ := Sat.ex_iff.1 h
  obtain ⟨B, h⟩ := Sat.ex_iff.1 h
  obtain ⟨d, h⟩ := Sat.ex_iff.1 h
  have h := Sat.star_iff.1 h
  simp only [List.cons_append, List.nil_append] at h
  obtain ⟨hok, h⟩ := Sat.fact_iff.1 (h.pull (.there (.there (.there .here))))
  exact ⟨A, c, B, d, hok, h⟩
theorem SenderP.shut {A B : Option Addr} {c d : Nat} (hok : s.ok)
    (h : Sat w0 (blk b (.cells #[.int .i64 (s.cargo.length : Int), .int .u32 (csum s.cargo : Int), .slice A s.cargo.length c, .slice B s.acked.length d] 144) :: own 5 1 A s.cargo.length c (bv s.cargo) :: own 4 1 B s.acked.length d (boolV s.acked) :: L) w) : Sat w0 (SenderP b s :: L) w := by
  refine Sat.ex_iff.2 ⟨A, Sat.ex_iff.2 ⟨c, Sat.ex_iff.2 ⟨B, Sat.ex_iff.2 ⟨d, Sat.star_iff.2 ?_⟩⟩⟩⟩
  simp only [List.cons_append, List.nil_append]
  exact (Sat.fact_iff.2 ⟨hok, h⟩).perm (by
    refine (List.Perm.swap _ _ _).trans (.cons _ ?_)
    refine (List.Perm.swap _ _ _).trans (.cons _ ?_)
    exact List.Perm.swap _ _ _)
/-- How many are not acknowledged. -/
def Sd.left (s : Sd) : Nat := s.acked.count false
theorem count_take (l : List Bool) (k : Nat) (h : k < l.length) : (l.take (k + 1)).count false = (l.take k).count false + (if l[k] then 0 else 1) := by
  rw [List.take_succ_eq_append_getElem h, List.count_append]
  cases l[k] <;> simp
set_option maxRecDepth 100000 in
set_option maxHeartbeats 800000 in
theorem SLeft_spec (h : Sat w0 (SenderP b s :: L) w) :
    Calls Tryd.prog 29 #[.pointer (some ⟨b, 0, none⟩)] w fun e w' => e = .returned (.int .i64 (s.left : Int)) ∧ Sat w0 (SenderP b s :: L) w' := by
  obtain ⟨A, c, B, d, hok, h⟩ := SenderP.open_ h
  have HOK := Lib.hid hok
  have hlen : s.acked.length ≤ 640 := by have := hok.2.2; unfold Sd.parts at this; have := hok.2.1; omega
  clear hok
  go_enter Tryd.func29, Tryd.ntmps29
  go_wp2_with (first | ((with_reducible first | apply wpl_load Tryd.isAgg62 | apply wpl_load Tryd.isAgg4); exact rfl; exact rfl; assumption; (with_reducible repeat first | exact pH | apply pT); ((try simp only [zqf, zqg, zqh]) <;> exact rfl); (try simp only [Act.put, zqa, zqb, zqc, zqd, zqe])) | ((with_reducible first | apply wpl_load_rd Tryd.isAgg62 | apply wpl_load_rd Tryd.isAgg4); exact rfl; exact rfl; assumption; (first | assumption | (apply Rd.own; focus ((with_reducible repeat first | exact pH | apply pT); done)) | (focus ((repeat first | assumption | with_reducible apply Rd.cons); done)) | with_reducible exact Rd.nil); (first | assumption | exact rfl); (try simp only [Act.put, zqa, zqb, zqc, zqd, zqe])) | ((with_reducible apply wpl_index sl62); exact rfl; exact rfl; exact rfl; assumption; (first | assumption | (apply Rd.own; focus ((with_reducible repeat first | exact pH | apply pT); done)) | (focus ((repeat first | assumption | with_reducible apply Rd.cons); done)) | with_reducible exact Rd.nil); omega; omega; (first | assumption | (simp only [bv_length]; omega) | (simp only [iv_length, List.length_append, List.length_singleton]; omega) | (simp <;> omega)); (try simp only [Act.put, zqa, zqb, zqc, zqd, zqe])))
  go_loopw [3, 11] (fun t i wr => ∃ k : Nat, k ≤ s.acked.length ∧ i = .int .i64 (k : Int) ∧ t = .int .i64 ((s.acked.take k).count false : Nat) ∧ Sat w0 (blk b (.cells #[.int .i64 (s.cargo.length : Int), .int .u32 (csum s.cargo : Int), .slice A s.cargo.length c, .slice B s.acked.length d] 144) :: own 5 1 A s.cargo.length c (bv s.cargo) :: own 4 1 B s.acked.length d (boolV s.acked) :: L) wr) (fun _ i _ => s.acked.length - (intOf i).toNat)
  case atStart => exact ⟨0, by omega, rfl, by simp, by assumption⟩
  case round =>
    obtain ⟨k, hk, rfl, rfl, h⟩ := hrel
    have hcn : (s.acked.take k).count false ≤ 640 := Nat.le_trans List.count_le_length (by rw [List.length_take]; omega)
    by_cases hlt : k < s.acked.length
    · have hv := boolV_get s.acked k hlt
      have hct := count_take s.acked k hlt
      generalize s.acked[k] = x at hv hct
      cases x
      all_goals
        go_wp2_with (first | ((with_reducible first | apply wpl_load Tryd.isAgg62 | apply wpl_load Tryd.isAgg4); exact rfl; exact rfl; assumption; (with_reducible repeat first | exact pH | apply pT); ((try simp only [zqf, zqg, zqh]) <;> exact rfl); (try simp only [Act.put, zqa, zqb, zqc, zqd, zqe])) | ((with_reducible first | apply wpl_load_rd Tryd.isAgg62 | apply wpl_load_rd Tryd.isAgg4); exact rfl; exact rfl; assumption; (first | assumption | (apply Rd.own; focus ((with_reducible repeat first | exact pH | apply pT); done)) | (focus ((repeat first | assumption | with_reducible apply Rd.cons); done)) | with_reducible exact Rd.nil); (first | assumption | exact rfl); (try simp only [Act.put, zqa, zqb, zqc, zqd, zqe])) | ((with_reducible apply wpl_index sl62); exact rfl; exact rfl; exact rfl; assumption; (first | assumption | (apply Rd.own; focus ((with_reducible repeat first | exact pH | apply pT); done)) | (focus ((repeat first | assumption | with_reducible apply Rd.cons); done)) | with_reducible exact Rd.nil); omega; omega; (first | assumption | (simp only [bv_length]; omega) | (simp only [iv_length, List.length_append, List.length_singleton]; omega) | (simp <;> omega)); (try simp only [Act.put, zqa, zqb, zqc, zqd, zqe])))
        go_roundw
        case rel => exact ⟨k + 1, by omega, by go_num, by rw [hct]; simp, by assumption⟩
        case measure => simp [intOf]; omega
    · obtain rfl : k = s.acked.length := by omega
      go_wp2_with (first | ((with_reducible first | apply wpl_load Tryd.isAgg62 | apply wpl_load Tryd.isAgg4); exact rfl; exact rfl; assumption; (with_reducible repeat first | exact pH | apply pT); ((try simp only [zqf, zqg, zqh]) <;> exact rfl); (try simp only [Act.put, zqa, zqb, zqc, zqd, zqe])) | ((with_reducible first | apply wpl_load_rd Tryd.isAgg62 | apply wpl_load_rd Tryd.isAgg4); exact rfl; exact rfl; assumption; (first | assumption | (apply Rd.own; focus ((with_reducible repeat first | exact pH | apply pT); done)) | (focus ((repeat first | assumption | with_reducible apply Rd.cons); done)) | with_reducible exact Rd.nil); (first | assumption | exact rfl); (try simp only [Act.put, zqa, zqb, zqc, zqd, zqe])) | ((with_reducible apply wpl_index sl62); exact rfl; exact rfl; exact rfl; assumption; (first | assumption | (apply Rd.own; focus ((with_reducible repeat first | exact pH | apply pT); done)) | (focus ((repeat first | assumption | with_reducible apply Rd.cons); done)) | with_reducible exact Rd.nil); omega; omega; (first | assumption | (simp only [bv_length]; omega) | (simp only [iv_length, List.length_append, List.length_singleton]; omega) | (simp <;> omega)); (try simp only [Act.put, zqa, zqb, zqc, zqd, zqe])))
      go_ret
      refine ⟨by simp [Sd.left], SenderP.shut HOK.out (by assumption)⟩
set_option maxHeartbeats 1600000 in
theorem NewSender_bad {l : List UInt8} {A : Option Addr} {n c : Nat} (hb : ¬ (1 ≤ l.length ∧ l.length ≤ 40960)) (hm : l.length ≤ 9223372036854775807) (hn : n = l.length) (h : Sat w0 L w) (hl : Rd L A (bv l)) :
    Calls Tryd.prog 25 #[.slice A n c] w fun e w' => e = .returned (.tuple #[.pointer none, .int .i64 41]) ∧ Sat w0 L w' := by
  subst hn
  have hG : decide (1 ≤ l.length ∧ l.length ≤ 40960) = false := by simpa using hb
  go_enter Tryd.func25, Tryd.ntmps25
  go_wp2_with (first | (go_at_call 55; refine (sum_spec (l := l) (by assumption) hl rfl hm).mono ?_; rintro _ _ ⟨rfl, rfl⟩) | (go_at_call 78; refine (good_spec (n := l.length) (s := csum l) (by assumption)).mono ?_; rintro _ _ ⟨he, hq9⟩; rw [hG] at he; subst he) | ((with_reducible apply wpl_alloc_agg Tryd.zeroValue135); assumption; intro _ _ _; (try simp only [Act.put, zqa, zqb, zqc, zqd, zqe])) | ((with_reducible apply wpl_store_agg Tryd.sizeOf135); exact rfl; exact rfl; ((conv => lhs; whnf) <;> exact rfl); exact rfl; simp [Value.oneCell']; assumption; (with_reducible repeat first | exact pH | apply pT); (exact Nat.le_of_ble_eq_true rfl); ((try simp only [zqi, zqj, zqk, zql, zqm, zqn, Nat.reduceAdd, Nat.reduceSub]) <;> exact rfl); intro _ _; (try simp only [Act.put, zqa, zqb, zqc, zqd, zqe])) | ((with_reducible apply wpl_load_agg Tryd.isAgg135 Tryd.sizeOf135); exact rfl; exact rfl; assumption; (with_reducible repeat first | exact pH | apply pT); (exact Nat.le_of_ble_eq_true rfl); ((try simp only [zqi, zqj, zqk, zql, zqm, zqn, Nat.reduceAdd, Nat.reduceSub]) <;> exact rfl); (try simp only [Act.put, zqa, zqb, zqc, zqd, zqe])) | ((with_reducible apply wpl_load_rd_agg2 Tryd.isAgg135 Tryd.sizeOf135); exact rfl; exact rfl; assumption; (first | assumption | (apply Rd.own; focus ((with_reducible repeat first | exact pH | apply pT); done)) | (focus ((repeat first | assumption | with_reducible apply Rd.cons); done)) | with_reducible exact Rd.nil); assumption; (first | rfl | assumption); (try simp only [Act.put, zqa, zqb, zqc, zqd, zqe])))
  go_ret2
  exact ⟨rfl, Sat.sub (by assumption) (by (with_reducible repeat first | exact pH | exact Sub.refl _ | exact Sub.nil | apply pT | apply Sub.cons | apply Sub.skip))⟩
set_option maxHeartbeats 1600000 in
theorem NewSender_ok {l : List UInt8} {A : Option Addr} {n c : Nat} (hb : 1 ≤ l.length ∧ l.length ≤ 40960) (hn : n = l.length) (h : Sat w0 L w) (hl : Rd L A (bv l)) :
    Calls Tryd.prog 25 #[.slice A n c] w fun e w' => ∃ b, e = .returned (.tuple #[.pointer (some ⟨b, 0, none⟩), .int .i64 0]) ∧ Sat w0 (SenderP b ⟨l, List.replicate ((l.length + 63) / 64) false⟩ :: L) w' := by
  subst hn
  have hG : decide (1 ≤ l.length ∧ l.length ≤ 40960) = true := by simpa using hb
  obtain ⟨P, hP⟩ : ∃ P, (l.length + 63) / 64 = P := ⟨_, rfl⟩
  have hPm : P ≤ 640 := by omega
  obtain ⟨hb1, hb2⟩ := hb
  have hm : l.length ≤ maxLen := by show l.length ≤ 9223372036854775807; omega
  go_enter Tryd.func25, Tryd.ntmps25
  go_wp2_with (first | (go_at_call 55; refine (sum_spec (l := l) (by assumption) hl rfl hm).mono ?_; rintro _ _ ⟨rfl, rfl⟩) | (go_at_call 78; refine (good_spec (n := l.length) (s := csum l) (by assumption)).mono ?_; rintro _ _ ⟨he, hq9⟩; rw [hG] at he; subst he) | (go_at_call 79; refine (parts_spec (n := l.length) (s := csum l) hP (by omega) (by assumption)).mono ?_; rintro _ _ ⟨rfl, h'⟩) | ((with_reducible apply wpl_alloc_agg Tryd.zeroValue135); assumption; intro _ _ _; (try simp only [Act.put, zqa, zqb, zqc, zqd, zqe])) | ((with_reducible apply wpl_store_agg Tryd.sizeOf135); exact rfl; exact rfl; ((conv => lhs; whnf) <;> exact rfl); exact rfl; simp [Value.oneCell']; assumption; (with_reducible repeat first | exact pH | apply pT); (exact Nat.le_of_ble_eq_true rfl); ((try simp only [zqi, zqj, zqk, zql, zqm, zqn, Nat.reduceAdd, Nat.reduceSub]) <;> exact rfl); intro _ _; (try simp only [Act.put, zqa, zqb, zqc, zqd, zqe])) | ((with_reducible apply wpl_load_agg Tryd.isAgg135 Tryd.sizeOf135); exact rfl; exact rfl; assumption; (with_reducible repeat first | exact pH | apply pT); (exact Nat.le_of_ble_eq_true rfl); ((try simp only [zqi, zqj, zqk, zql, zqm, zqn, Nat.reduceAdd, Nat.reduceSub]) <;> exact rfl); (try simp only [Act.put, zqa, zqb, zqc, zqd, zqe])) | ((with_reducible apply wpl_load_rd_agg2 Tryd.isAgg135 Tryd.sizeOf135); exact rfl; exact rfl; assumption; (first | assumption | (apply Rd.own; focus ((with_reducible repeat first | exact pH | apply pT); done)) | (focus ((repeat first | assumption | with_reducible apply Rd.cons); done)) | with_reducible exact Rd.nil); assumption; (first | rfl | assumption); (try simp only [Act.put, zqa, zqb, zqc, zqd, zqe])) | ((with_reducible apply (wp_draw 4 10 _ (by kernel_rfl))); exact rfl; assumption; (exact Sub.refl _); intro _ _ _; ((apply (take_value (k := 0) rfl (by kernel_rfl) (by kernel_rfl) (by kernel_rfl) (fun _ _ _ => id))); exact rfl; assumption; (first | (apply (q_load_agg Tryd.isAgg135 Tryd.sizeOf135); exact rfl; (with_reducible repeat first | exact pH | apply pT); (exact Nat.le_of_ble_eq_true rfl); ((try simp only [zqi, zqj, zqk, zql, zqm, zqn, Nat.reduceAdd, Nat.reduceSub]) <;> exact rfl)) | (apply (q_load_rd_agg Tryd.isAgg135 Tryd.sizeOf135); exact rfl; (first | assumption | (apply Rd.own; focus ((with_reducible repeat first | exact pH | apply pT); done)) | (focus ((repeat first | assumption | with_reducible apply Rd.cons); done)) | with_reducible exact Rd.nil); exact rfl; assumption)); (try simp only [Act.put, zqa, zqb, zqc, zqd, zqe])); ((apply (take_value (k := 1) rfl (by kernel_rfl) (by kernel_rfl) (by kernel_rfl) (fun _ _ _ => id))); exact rfl; assumption; (apply q_move; ((conv => lhs; whnf) <;> exact rfl)); (try simp only [Act.put, zqa, zqb, zqc, zqd, zqe])); ((apply (take_value (k := 3) rfl (by kernel_rfl) (by kernel_rfl) (by kernel_rfl) (fun _ _ _ => id))); exact rfl; assumption; (first | (apply (q_load_agg Tryd.isAgg135 Tryd.sizeOf135); exact rfl; (with_reducible repeat first | exact pH | apply pT); (exact Nat.le_of_ble_eq_true rfl); ((try simp only [zqi, zqj, zqk, zql, zqm, zqn, Nat.reduceAdd, Nat.reduceSub]) <;> exact rfl)) | (apply (q_load_rd_agg Tryd.isAgg135 Tryd.sizeOf135); exact rfl; (first | assumption | (apply Rd.own; focus ((with_reducible repeat first | exact pH | apply pT); done)) | (focus ((repeat first | assumption | with_reducible apply Rd.cons); done)) | with_reducible exact Rd.nil); exact rfl; assumption)); (try simp only [Act.put, zqa, zqb, zqc, zqd, zqe])); (apply (take_active (k := 2) (by kernel_rfl) rfl)); (first | ((with_reducible apply wpl_append_nil sl37); exact rfl; exact rfl; exact rfl; assumption; (first | assumption | (apply Rd.own; focus ((with_reducible repeat first | exact pH | apply pT); done)) | (focus ((repeat first | assumption | with_reducible apply Rd.cons); done)) | with_reducible exact Rd.nil); (first | rfl | assumption | (simp <;> done) | (simp <;> omega)); (first | exact bv_one _ | exact iv_one _ | exact pcV_one _ | assumption | (simp [Value.oneCell'] <;> done)); (first | omega | (simp <;> omega)); (show _ ≤ 9223372036854775807; omega); intro _ _ _ _; (try simp only [Act.put, zqa, zqb, zqc, zqd, zqe])) | ((with_reducible apply wpl_append sl37); exact rfl; exact rfl; exact rfl; assumption; (with_reducible repeat first | exact pH | apply pT); (first | assumption | (apply Rd.own; focus ((with_reducible repeat first | exact pH | apply pT); done)) | (focus ((repeat first | assumption | with_reducible apply Rd.cons); done)) | with_reducible exact Rd.nil); (first | rfl | assumption | (simp <;> done) | (simp <;> omega)); (first | exact bv_one _ | exact iv_one _ | exact pcV_one _ | assumption | (simp [Value.oneCell'] <;> done)); (first | omega | (simp <;> omega)); (show _ ≤ 9223372036854775807; omega); intro _ _ _ _; (try simp only [Act.put, zqa, zqb, zqc, zqd, zqe]))); (refine KQ_nil ⟨Sat.sub (by assumption) ?_⟩ ?_); (with_reducible repeat first | exact pH | exact Sub.refl _ | exact Sub.nil | apply pT | apply Sub.cons | apply Sub.skip); intro _; (try simp only [Act.put, zqa, zqb, zqc, zqd, zqe]); (apply (take_active (k := 4) (by kernel_rfl) rfl)); ((apply (wpl_call Tryd.call79)); exact rfl; (simp only [List.map_toArray, List.map_cons, List.map_nil]; exact rfl); refine (parts_spec (n := l.length) (s := csum l) hP (by omega) (by assumption)).mono ?_; rintro _ _ ⟨rfl, h'⟩; (refine ⟨_, rfl, ?_⟩); (try simp only [Act.put, zqa, zqb, zqc, zqd, zqe])); (refine KQ_nil ⟨Sat.sub (by assumption) ?_⟩ ?_); (with_reducible repeat first | exact pH | exact Sub.refl _ | exact Sub.nil | apply pT | apply Sub.cons | apply Sub.skip); intro _; (try simp only [Act.put, zqa, zqb, zqc, zqd, zqe]); (apply (take_active (k := 5) (by kernel_rfl) rfl)); (first | ((with_reducible apply wpl_make sl62); exact rfl; exact rfl; exact rfl; omega; rfl; omega; omega; assumption; intro _ _ _; (try simp only [Act.put, zqa, zqb, zqc, zqd, zqe]))); (refine KQ_nil ⟨Sat.sub (by assumption) ?_⟩ ?_); (with_reducible repeat first | exact pH | exact Sub.refl _ | exact Sub.nil | apply pT | apply Sub.cons | apply Sub.skip); intro _; (try simp only [Act.put, zqa, zqb, zqc, zqd, zqe]); ((apply (take_value (k := 6) rfl (by kernel_rfl) (by kernel_rfl) (by kernel_rfl) (fun _ _ _ => id))); exact rfl; assumption; (intro _ _; go_simp; (try exact rfl)); (try simp only [Act.put, zqa, zqb, zqc, zqd, zqe])); (apply (take_active (k := 7) (by kernel_rfl) rfl)); (first | ((with_reducible apply wpl_box (T := 144)); ((conv => lhs; whnf) <;> exact rfl); ((conv => lhs; whnf) <;> exact rfl); assumption; intro _ _ _; (try simp only [Act.put, zqa, zqb, zqc, zqd, zqe]))); (refine KQ_nil ⟨Sat.sub (by assumption) ?_⟩ ?_); (with_reducible repeat first | exact pH | exact Sub.refl _ | exact Sub.nil | apply pT | apply Sub.cons | apply Sub.skip); intro _; (try simp only [Act.put, zqa, zqb, zqc, zqd, zqe]); ((apply (take_value (k := 8) rfl (by kernel_rfl) (by kernel_rfl) (by kernel_rfl) (fun _ _ _ => id))); exact rfl; assumption; (apply q_assign; ((conv => lhs; whnf) <;> exact rfl)); (try simp only [Act.put, zqa, zqb, zqc, zqd, zqe])); ((apply (take_value (k := 9) rfl (by kernel_rfl) (by kernel_rfl) (by kernel_rfl) (fun _ _ _ => id))); exact rfl; assumption; (apply q_assign; ((conv => lhs; whnf) <;> exact rfl)); (try simp only [Act.put, zqa, zqb, zqc, zqd, zqe])); (refine take_done (by kernel_rfl) ?_)))
  go_ret2
  refine ⟨_, rfl, ?_⟩
  rw [hP]
  rw [Int.toNat_natCast, Nat.mul_one, show (Value.bool false).cells = #[.bool false] from rfl, toList_madeCells_one] at *
  apply SenderP.shut (s := ⟨l, List.replicate P false⟩) ⟨hb1, hb2, by simp [Sd.parts, hP]⟩
  refine Sat.sub (by assumption) ?_
  simp only [List.length_replicate, boolV, List.map_replicate]
  (with_reducible repeat first | exact pH | exact Sub.refl _ | exact Sub.nil | apply pT | apply Sub.cons | apply Sub.skip)
end
end Go.Proofs.YtgobibgpkcdmdaaDoor
