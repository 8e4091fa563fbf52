/- The walk of package ferry's read, by kinds. -/
import Derived.Test.YtgobibgpkcdmdaaDoorWRead
set_option linter.all false
namespace Go.Proofs.YtgobibgpkcdmdaaDoor
open Go Go.RowKit
attribute [local irreducible] Calls
section
variable {w0 w : World} {L L' : List SProp} {b : List UInt8} {n s : Nat}

set_option maxRecDepth 100000 in
set_option maxHeartbeats 3200000 in
theorem read_short_1 {A : Option Addr} {c : Nat} {y : List UInt8} (hb : b.length ≤ 2000000) (hr : raw b = some y) (hform : ((rs5 y).ended != 0) = true ∧ Pk.of y = Pk.of y) (h : Sat w0 L w) (hl : Rd L A (bv b)) :
    Calls Tryd.prog 85 #[.slice A b.length c, .int .i64 1] w fun e w' => (∃ (v0 v1 v2 v3 : Int) (v4 : Option Addr) (v5 v6 : Nat), e = .returned (.tuple #[.agg #[.int .i64 v0, .int .i64 v1, .int .u32 v2, .int .i64 v3, .slice v4 v5 v6], .bool false])) ∧ Sat w0 L w' := by
  have hb' : b.length ≤ 140737488351232 := by omega
  have hyl := raw_le hr
  have hy : y.length ≤ 140737488351232 := by omega
  have ES := seal_some hr
  have EE : Rr.ended ⟨b, b.length, 0⟩ = 0 := by simp [Rr.ended]
  have h1 := pk_le y
  obtain ⟨p, hp⟩ : ∃ p, Pk.of y = p := ⟨_, rfl⟩
  obtain ⟨s1, E1⟩ : ∃ s, Rr.take ⟨y, 0, 0⟩ 1 = s := ⟨_, rfl⟩
  obtain ⟨s2, E2⟩ : ∃ s, s1.take 4 = s := ⟨_, rfl⟩
  obtain ⟨s3, E3⟩ : ∃ s, s2.take 4 = s := ⟨_, rfl⟩
  obtain ⟨s4, E4⟩ : ∃ s, s3.take 2 = s := ⟨_, rfl⟩
  have e1 : rs1 y = s1 := E1
  have e2 : rs2 y = s2 := by unfold rs2; rw [e1]; exact E2
  have e3 : rs3 y = s3 := by unfold rs3; rw [e2]; exact E3
  have e4 : rs4 y = s4 := by unfold rs4; rw [e3]; exact E4
  have hi4 := rs4_inp y
  have ha4 := rs4_at y
  obtain ⟨n5, hlen⟩ : ∃ z, (s4.inp.length : Int) - s4.at_ = z := ⟨_, rfl⟩
  obtain ⟨s5, E5⟩ : ∃ s, s4.blkd n5 = s := ⟨_, rfl⟩
  have HE : s5.ended = (rs5 y).ended := by rw [← E5, ← hlen, ← e4]; rfl
  have hv1 : Rr.val ⟨y, 0, 0⟩ 1 = p.kind := by rw [← hp]; rfl
  have hv2 : s1.val 4 = p.len := by rw [← hp, ← e1]; rfl
  have hv3 : s2.val 4 = p.sum := by rw [← hp, ← e2]; rfl
  have hv4 : s3.val 2 = p.num := by rw [← hp, ← e3]; rfl
  have hv5 : s4.blk n5 = p.rest := by rw [← hp, ← hlen, ← e4]; rfl
  rw [e4] at hi4 ha4
  have hn5 : -9223372036854775808 ≤ n5 ∧ n5 < 9223372036854775808 := by rw [hi4] at hlen ha4; omega
  rw [hp] at h1 hform
  obtain ⟨b1, b2, b3, b4, b5⟩ := h1
  clear hr e1 e2 e3 e4 hi4 ha4
  obtain ⟨hE, -⟩ := hform
  generalize (rs5 y).ended = E at HE hE
  have hE2 : ((E : Int) != 0) = true := by simp at hE ⊢; omega
  go_enter Tryd.func85, Tryd.ntmps85
  go_wp2_with (first | (go_at_call 104; refine (NewReader_spec hb' (by assumption) (Rd.cons hl) rfl).mono ?_; rintro _ _ ⟨r1, rfl, hr1⟩) | (go_at_call 137; refine (Sealed_spec (by omega) hr1).mono ?_; rintro _ _ ⟨B, d, he, hs1⟩; rw [ES] at he hs1; subst he) | (go_at_call 104; refine (NewReader_spec (l := y) hy hs1 (Rd.own .here) rfl).mono ?_; rintro _ _ ⟨r2, rfl, hr2⟩) | (go_at_call 106; refine (End_spec (hr2.pull (.there (.there .here)))).mono ?_; rintro _ _ ⟨he, hq0⟩; rw [EE] at he; subst he) | (go_at_call 138; refine (RU8_spec hq0.swap).mono ?_; rintro _ _ ⟨he, hq1⟩; rw [hv1] at he; rw [E1] at hq1; subst he) | (go_at_call 116; refine (RU32_spec hq1).mono ?_; rintro _ _ ⟨he, hq2⟩; rw [hv2] at he; rw [E2] at hq2; subst he) | (go_at_call 116; refine (RU32_spec hq2).mono ?_; rintro _ _ ⟨he, hq3⟩; rw [hv3] at he; rw [E3] at hq3; subst he) | (go_at_call 139; refine (RU16_spec hq3).mono ?_; rintro _ _ ⟨he, hq4⟩; rw [hv4] at he; rw [E4] at hq4; subst he) | (go_at_call 105; refine (Left_spec (Sat.swap (by assumption))).mono ?_; rintro _ _ ⟨he, hq5⟩; rw [hlen] at he; subst he) | (go_at_call 140; refine (RBlock_spec hn5 hq5).mono ?_; rintro _ _ ⟨C, c2, he, hq6⟩; rw [hv5] at he hq6; rw [E5] at hq6; subst he) | (go_at_call 106; refine (End_spec (Sat.pull (by assumption) (.there (.there .here)))).mono ?_; rintro _ _ ⟨he, hq8⟩; rw [HE] at he; subst he) | (go_at_call 78; refine (good_spec (n := p.len) (s := p.sum) (by assumption)).mono ?_; rintro _ _ ⟨he, hq9⟩; rw [hG] at he; subst he) | ((with_reducible refine wpl_off ?_ ?_); exact rfl; (try simp only [Act.put, zqa, zqb, zqc, zqd, zqe])) | ((with_reducible apply wpl_alloc_agg Tryd.zeroValue150); assumption; intro _ _ _; (try simp only [Act.put, zqa, zqb, zqc, zqd, zqe])) | ((with_reducible apply wpl_store_agg Tryd.sizeOf150); exact rfl; exact rfl; ((conv => lhs; whnf) <;> exact rfl); exact rfl; simp [Value.oneCell']; assumption; (with_reducible repeat first | exact pH | apply pT); (exact Nat.le_of_ble_eq_true rfl); ((try simp only [zqi, zqj, zqk, zql, zqm, zqn, Nat.reduceAdd, Nat.reduceSub]) <;> exact rfl); intro _ _; (try simp only [Act.put, zqa, zqb, zqc, zqd, zqe])) | ((with_reducible apply wpl_store Tryd.sizeOf37); exact rfl; exact rfl; ((conv => lhs; whnf) <;> exact rfl); exact rfl; assumption; (with_reducible repeat first | exact pH | apply pT); (exact Nat.le_of_ble_eq_true rfl); ((try simp only [zqa, zqb, zqc]) <;> exact rfl); intro _ _; (try simp only [Act.put, zqa, zqb, zqc, zqd, zqe])) | ((with_reducible apply wpl_store_own Tryd.sizeOf37); exact rfl; exact rfl; ((conv => lhs; whnf) <;> exact rfl); exact rfl; assumption; (with_reducible repeat first | exact pH | apply pT); (first | assumption | (simp <;> omega)); intro _ _; (try simp only [Act.put, zqa, zqb, zqc, zqd, zqe])) | ((with_reducible apply wpl_load Tryd.isAgg3); exact rfl; exact rfl; assumption; (with_reducible repeat first | exact pH | apply pT); ((try simp only [zqf, zqg, zqh]) <;> exact rfl); (try simp only [Act.put, zqa, zqb, zqc, zqd, zqe])) | ((with_reducible apply wpl_load_rd Tryd.isAgg3); exact rfl; exact rfl; assumption; (first | assumption | (apply Rd.own; focus ((with_reducible repeat first | exact pH | apply pT); done)) | (focus ((repeat first | assumption | with_reducible apply Rd.cons); done)) | with_reducible exact Rd.nil); (first | assumption | exact rfl); (try simp only [Act.put, zqa, zqb, zqc, zqd, zqe])) | ((with_reducible apply wpl_load_agg Tryd.isAgg135 Tryd.sizeOf135); exact rfl; exact rfl; assumption; (with_reducible repeat first | exact pH | apply pT); (exact Nat.le_of_ble_eq_true rfl); ((try simp only [zqi, zqj, zqk, zql, zqm, zqn, Nat.reduceAdd, Nat.reduceSub]) <;> exact rfl); (try simp only [Act.put, zqa, zqb, zqc, zqd, zqe])) | ((with_reducible apply wpl_load_rd_agg2 Tryd.isAgg135 Tryd.sizeOf135); exact rfl; exact rfl; assumption; (first | assumption | (apply Rd.own; focus ((with_reducible repeat first | exact pH | apply pT); done)) | (focus ((repeat first | assumption | with_reducible apply Rd.cons); done)) | with_reducible exact Rd.nil); assumption; (first | rfl | assumption); (try simp only [Act.put, zqa, zqb, zqc, zqd, zqe])))
  refine bodyPost_ret (ret_cell_tmp rfl Tryd.isAgg150 Tryd.sizeOf150 rfl (by assumption) .here (n := 5) rfl) rfl ?_
  refine ⟨⟨0, 0, 0, 0, none, 0, 0, rfl⟩, ?_⟩
  refine Sat.sub (by assumption) ?_
  (with_reducible repeat first | exact pH | exact Sub.refl _ | exact Sub.nil | apply pT | apply Sub.cons | apply Sub.skip)

set_option maxRecDepth 100000 in
set_option maxHeartbeats 3200000 in
theorem read_kind_1 {A : Option Addr} {c : Nat} {y : List UInt8} (hb : b.length ≤ 2000000) (hr : raw b = some y) (hform : (rs5 y).ended = 0 ∧ (Pk.of y).kind ≠ 1) (h : Sat w0 L w) (hl : Rd L A (bv b)) :
    Calls Tryd.prog 85 #[.slice A b.length c, .int .i64 1] w fun e w' => (∃ (v0 v1 v2 v3 : Int) (v4 : Option Addr) (v5 v6 : Nat), e = .returned (.tuple #[.agg #[.int .i64 v0, .int .i64 v1, .int .u32 v2, .int .i64 v3, .slice v4 v5 v6], .bool false])) ∧ Sat w0 L w' := by
  have hb' : b.length ≤ 140737488351232 := by omega
  have hyl := raw_le hr
  have hy : y.length ≤ 140737488351232 := by omega
  have ES := seal_some hr
  have EE : Rr.ended ⟨b, b.length, 0⟩ = 0 := by simp [Rr.ended]
  have h1 := pk_le y
  obtain ⟨p, hp⟩ : ∃ p, Pk.of y = p := ⟨_, rfl⟩
  obtain ⟨s1, E1⟩ : ∃ s, Rr.take ⟨y, 0, 0⟩ 1 = s := ⟨_, rfl⟩
  obtain ⟨s2, E2⟩ : ∃ s, s1.take 4 = s := ⟨_, rfl⟩
  obtain ⟨s3, E3⟩ : ∃ s, s2.take 4 = s := ⟨_, rfl⟩
  obtain ⟨s4, E4⟩ : ∃ s, s3.take 2 = s := ⟨_, rfl⟩
  have e1 : rs1 y = s1 := E1
  have e2 : rs2 y = s2 := by unfold rs2; rw [e1]; exact E2
  have e3 : rs3 y = s3 := by unfold rs3; rw [e2]; exact E3
  have e4 : rs4 y = s4 := by unfold rs4; rw [e3]; exact E4
  have hi4 := rs4_inp y
  have ha4 := rs4_at y
  obtain ⟨n5, hlen⟩ : ∃ z, (s4.inp.length : Int) - s4.at_ = z := ⟨_, rfl⟩
  obtain ⟨s5, E5⟩ : ∃ s, s4.blkd n5 = s := ⟨_, rfl⟩
  have HE : s5.ended = (rs5 y).ended := by rw [← E5, ← hlen, ← e4]; rfl
  have hv1 : Rr.val ⟨y, 0, 0⟩ 1 = p.kind := by rw [← hp]; rfl
  have hv2 : s1.val 4 = p.len := by rw [← hp, ← e1]; rfl
  have hv3 : s2.val 4 = p.sum := by rw [← hp, ← e2]; rfl
  have hv4 : s3.val 2 = p.num := by rw [← hp, ← e3]; rfl
  have hv5 : s4.blk n5 = p.rest := by rw [← hp, ← hlen, ← e4]; rfl
  rw [e4] at hi4 ha4
  have hn5 : -9223372036854775808 ≤ n5 ∧ n5 < 9223372036854775808 := by rw [hi4] at hlen ha4; omega
  rw [hp] at h1 hform
  obtain ⟨b1, b2, b3, b4, b5⟩ := h1
  clear hr e1 e2 e3 e4 hi4 ha4
  obtain ⟨hE, hK⟩ := hform
  rw [hE] at HE
  have hK2 : ((p.kind : Int) != 1) = true := by simp; omega
  go_enter Tryd.func85, Tryd.ntmps85
  go_wp2_with (first | (go_at_call 104; refine (NewReader_spec hb' (by assumption) (Rd.cons hl) rfl).mono ?_; rintro _ _ ⟨r1, rfl, hr1⟩) | (go_at_call 137; refine (Sealed_spec (by omega) hr1).mono ?_; rintro _ _ ⟨B, d, he, hs1⟩; rw [ES] at he hs1; subst he) | (go_at_call 104; refine (NewReader_spec (l := y) hy hs1 (Rd.own .here) rfl).mono ?_; rintro _ _ ⟨r2, rfl, hr2⟩) | (go_at_call 106; refine (End_spec (hr2.pull (.there (.there .here)))).mono ?_; rintro _ _ ⟨he, hq0⟩; rw [EE] at he; subst he) | (go_at_call 138; refine (RU8_spec hq0.swap).mono ?_; rintro _ _ ⟨he, hq1⟩; rw [hv1] at he; rw [E1] at hq1; subst he) | (go_at_call 116; refine (RU32_spec hq1).mono ?_; rintro _ _ ⟨he, hq2⟩; rw [hv2] at he; rw [E2] at hq2; subst he) | (go_at_call 116; refine (RU32_spec hq2).mono ?_; rintro _ _ ⟨he, hq3⟩; rw [hv3] at he; rw [E3] at hq3; subst he) | (go_at_call 139; refine (RU16_spec hq3).mono ?_; rintro _ _ ⟨he, hq4⟩; rw [hv4] at he; rw [E4] at hq4; subst he) | (go_at_call 105; refine (Left_spec (Sat.swap (by assumption))).mono ?_; rintro _ _ ⟨he, hq5⟩; rw [hlen] at he; subst he) | (go_at_call 140; refine (RBlock_spec hn5 hq5).mono ?_; rintro _ _ ⟨C, c2, he, hq6⟩; rw [hv5] at he hq6; rw [E5] at hq6; subst he) | (go_at_call 106; refine (End_spec (Sat.pull (by assumption) (.there (.there .here)))).mono ?_; rintro _ _ ⟨he, hq8⟩; rw [HE] at he; subst he) | (go_at_call 78; refine (good_spec (n := p.len) (s := p.sum) (by assumption)).mono ?_; rintro _ _ ⟨he, hq9⟩; rw [hG] at he; subst he) | ((with_reducible refine wpl_off ?_ ?_); exact rfl; (try simp only [Act.put, zqa, zqb, zqc, zqd, zqe])) | ((with_reducible apply wpl_alloc_agg Tryd.zeroValue150); assumption; intro _ _ _; (try simp only [Act.put, zqa, zqb, zqc, zqd, zqe])) | ((with_reducible apply wpl_store_agg Tryd.sizeOf150); exact rfl; exact rfl; ((conv => lhs; whnf) <;> exact rfl); exact rfl; simp [Value.oneCell']; assumption; (with_reducible repeat first | exact pH | apply pT); (exact Nat.le_of_ble_eq_true rfl); ((try simp only [zqi, zqj, zqk, zql, zqm, zqn, Nat.reduceAdd, Nat.reduceSub]) <;> exact rfl); intro _ _; (try simp only [Act.put, zqa, zqb, zqc, zqd, zqe])) | ((with_reducible apply wpl_store Tryd.sizeOf37); exact rfl; exact rfl; ((conv => lhs; whnf) <;> exact rfl); exact rfl; assumption; (with_reducible repeat first | exact pH | apply pT); (exact Nat.le_of_ble_eq_true rfl); ((try simp only [zqa, zqb, zqc]) <;> exact rfl); intro _ _; (try simp only [Act.put, zqa, zqb, zqc, zqd, zqe])) | ((with_reducible apply wpl_store_own Tryd.sizeOf37); exact rfl; exact rfl; ((conv => lhs; whnf) <;> exact rfl); exact rfl; assumption; (with_reducible repeat first | exact pH | apply pT); (first | assumption | (simp <;> omega)); intro _ _; (try simp only [Act.put, zqa, zqb, zqc, zqd, zqe])) | ((with_reducible apply wpl_load Tryd.isAgg3); exact rfl; exact rfl; assumption; (with_reducible repeat first | exact pH | apply pT); ((try simp only [zqf, zqg, zqh]) <;> exact rfl); (try simp only [Act.put, zqa, zqb, zqc, zqd, zqe])) | ((with_reducible apply wpl_load_rd Tryd.isAgg3); exact rfl; exact rfl; assumption; (first | assumption | (apply Rd.own; focus ((with_reducible repeat first | exact pH | apply pT); done)) | (focus ((repeat first | assumption | with_reducible apply Rd.cons); done)) | with_reducible exact Rd.nil); (first | assumption | exact rfl); (try simp only [Act.put, zqa, zqb, zqc, zqd, zqe])) | ((with_reducible apply wpl_load_agg Tryd.isAgg135 Tryd.sizeOf135); exact rfl; exact rfl; assumption; (with_reducible repeat first | exact pH | apply pT); (exact Nat.le_of_ble_eq_true rfl); ((try simp only [zqi, zqj, zqk, zql, zqm, zqn, Nat.reduceAdd, Nat.reduceSub]) <;> exact rfl); (try simp only [Act.put, zqa, zqb, zqc, zqd, zqe])) | ((with_reducible apply wpl_load_rd_agg2 Tryd.isAgg135 Tryd.sizeOf135); exact rfl; exact rfl; assumption; (first | assumption | (apply Rd.own; focus ((with_reducible repeat first | exact pH | apply pT); done)) | (focus ((repeat first | assumption | with_reducible apply Rd.cons); done)) | with_reducible exact Rd.nil); assumption; (first | rfl | assumption); (try simp only [Act.put, zqa, zqb, zqc, zqd, zqe])))
  refine bodyPost_ret (ret_cell_tmp rfl Tryd.isAgg150 Tryd.sizeOf150 rfl (by assumption) .here (n := 5) rfl) rfl ?_
  refine ⟨⟨0, 0, 0, 0, none, 0, 0, rfl⟩, ?_⟩
  refine Sat.sub (by assumption) ?_
  (with_reducible repeat first | exact pH | exact Sub.refl _ | exact Sub.nil | apply pT | apply Sub.cons | apply Sub.skip)

set_option maxRecDepth 100000 in
set_option maxHeartbeats 3200000 in
theorem read_good_1 {A : Option Addr} {c : Nat} {y : List UInt8} (hb : b.length ≤ 2000000) (hr : raw b = some y) (hform : (rs5 y).ended = 0 ∧ (Pk.of y).kind = 1 ∧ decide (1 ≤ (Pk.of y).len ∧ (Pk.of y).len ≤ 40960) = false) (h : Sat w0 L w) (hl : Rd L A (bv b)) :
    Calls Tryd.prog 85 #[.slice A b.length c, .int .i64 1] w fun e w' => (∃ (v0 v1 v2 v3 : Int) (v4 : Option Addr) (v5 v6 : Nat), e = .returned (.tuple #[.agg #[.int .i64 v0, .int .i64 v1, .int .u32 v2, .int .i64 v3, .slice v4 v5 v6], .bool false])) ∧ Sat w0 L w' := by
  have hb' : b.length ≤ 140737488351232 := by omega
  have hyl := raw_le hr
  have hy : y.length ≤ 140737488351232 := by omega
  have ES := seal_some hr
  have EE : Rr.ended ⟨b, b.length, 0⟩ = 0 := by simp [Rr.ended]
  have h1 := pk_le y
  obtain ⟨p, hp⟩ : ∃ p, Pk.of y = p := ⟨_, rfl⟩
  obtain ⟨s1, E1⟩ : ∃ s, Rr.take ⟨y, 0, 0⟩ 1 = s := ⟨_, rfl⟩
  obtain ⟨s2, E2⟩ : ∃ s, s1.take 4 = s := ⟨_, rfl⟩
  obtain ⟨s3, E3⟩ : ∃ s, s2.take 4 = s := ⟨_, rfl⟩
  obtain ⟨s4, E4⟩ : ∃ s, s3.take 2 = s := ⟨_, rfl⟩
  have e1 : rs1 y = s1 := E1
  have e2 : rs2 y = s2 := by unfold rs2; rw [e1]; exact E2
  have e3 : rs3 y = s3 := by unfold rs3; rw [e2]; exact E3
  have e4 : rs4 y = s4 := by unfold rs4; rw [e3]; exact E4
  have hi4 := rs4_inp y
  have ha4 := rs4_at y
  obtain ⟨n5, hlen⟩ : ∃ z, (s4.inp.length : Int) - s4.at_ = z := ⟨_, rfl⟩
  obtain ⟨s5, E5⟩ : ∃ s, s4.blkd n5 = s := ⟨_, rfl⟩
  have HE : s5.ended = (rs5 y).ended := by rw [← E5, ← hlen, ← e4]; rfl
  have hv1 : Rr.val ⟨y, 0, 0⟩ 1 = p.kind := by rw [← hp]; rfl
  have hv2 : s1.val 4 = p.len := by rw [← hp, ← e1]; rfl
  have hv3 : s2.val 4 = p.sum := by rw [← hp, ← e2]; rfl
  have hv4 : s3.val 2 = p.num := by rw [← hp, ← e3]; rfl
  have hv5 : s4.blk n5 = p.rest := by rw [← hp, ← hlen, ← e4]; rfl
  rw [e4] at hi4 ha4
  have hn5 : -9223372036854775808 ≤ n5 ∧ n5 < 9223372036854775808 := by rw [hi4] at hlen ha4; omega
  rw [hp] at h1 hform
  obtain ⟨b1, b2, b3, b4, b5⟩ := h1
  clear hr e1 e2 e3 e4 hi4 ha4
  obtain ⟨hE, hK, hG⟩ := hform
  rw [hE] at HE
  have hK2 : ((p.kind : Int) != 1) = false := by simp; omega
  go_enter Tryd.func85, Tryd.ntmps85
  go_wp2_with (first | (go_at_call 104; refine (NewReader_spec hb' (by assumption) (Rd.cons hl) rfl).mono ?_; rintro _ _ ⟨r1, rfl, hr1⟩) | (go_at_call 137; refine (Sealed_spec (by omega) hr1).mono ?_; rintro _ _ ⟨B, d, he, hs1⟩; rw [ES] at he hs1; subst he) | (go_at_call 104; refine (NewReader_spec (l := y) hy hs1 (Rd.own .here) rfl).mono ?_; rintro _ _ ⟨r2, rfl, hr2⟩) | (go_at_call 106; refine (End_spec (hr2.pull (.there (.there .here)))).mono ?_; rintro _ _ ⟨he, hq0⟩; rw [EE] at he; subst he) | (go_at_call 138; refine (RU8_spec hq0.swap).mono ?_; rintro _ _ ⟨he, hq1⟩; rw [hv1] at he; rw [E1] at hq1; subst he) | (go_at_call 116; refine (RU32_spec hq1).mono ?_; rintro _ _ ⟨he, hq2⟩; rw [hv2] at he; rw [E2] at hq2; subst he) | (go_at_call 116; refine (RU32_spec hq2).mono ?_; rintro _ _ ⟨he, hq3⟩; rw [hv3] at he; rw [E3] at hq3; subst he) | (go_at_call 139; refine (RU16_spec hq3).mono ?_; rintro _ _ ⟨he, hq4⟩; rw [hv4] at he; rw [E4] at hq4; subst he) | (go_at_call 105; refine (Left_spec (Sat.swap (by assumption))).mono ?_; rintro _ _ ⟨he, hq5⟩; rw [hlen] at he; subst he) | (go_at_call 140; refine (RBlock_spec hn5 hq5).mono ?_; rintro _ _ ⟨C, c2, he, hq6⟩; rw [hv5] at he hq6; rw [E5] at hq6; subst he) | (go_at_call 106; refine (End_spec (Sat.pull (by assumption) (.there (.there .here)))).mono ?_; rintro _ _ ⟨he, hq8⟩; rw [HE] at he; subst he) | (go_at_call 78; refine (good_spec (n := p.len) (s := p.sum) (by assumption)).mono ?_; rintro _ _ ⟨he, hq9⟩; rw [hG] at he; subst he) | ((with_reducible refine wpl_off ?_ ?_); exact rfl; (try simp only [Act.put, zqa, zqb, zqc, zqd, zqe])) | ((with_reducible apply wpl_alloc_agg Tryd.zeroValue150); assumption; intro _ _ _; (try simp only [Act.put, zqa, zqb, zqc, zqd, zqe])) | ((with_reducible apply wpl_store_agg Tryd.sizeOf150); exact rfl; exact rfl; ((conv => lhs; whnf) <;> exact rfl); exact rfl; simp [Value.oneCell']; assumption; (with_reducible repeat first | exact pH | apply pT); (exact Nat.le_of_ble_eq_true rfl); ((try simp only [zqi, zqj, zqk, zql, zqm, zqn, Nat.reduceAdd, Nat.reduceSub]) <;> exact rfl); intro _ _; (try simp only [Act.put, zqa, zqb, zqc, zqd, zqe])) | ((with_reducible apply wpl_store Tryd.sizeOf37); exact rfl; exact rfl; ((conv => lhs; whnf) <;> exact rfl); exact rfl; assumption; (with_reducible repeat first | exact pH | apply pT); (exact Nat.le_of_ble_eq_true rfl); ((try simp only [zqa, zqb, zqc]) <;> exact rfl); intro _ _; (try simp only [Act.put, zqa, zqb, zqc, zqd, zqe])) | ((with_reducible apply wpl_store_own Tryd.sizeOf37); exact rfl; exact rfl; ((conv => lhs; whnf) <;> exact rfl); exact rfl; assumption; (with_reducible repeat first | exact pH | apply pT); (first | assumption | (simp <;> omega)); intro _ _; (try simp only [Act.put, zqa, zqb, zqc, zqd, zqe])) | ((with_reducible apply wpl_load Tryd.isAgg3); exact rfl; exact rfl; assumption; (with_reducible repeat first | exact pH | apply pT); ((try simp only [zqf, zqg, zqh]) <;> exact rfl); (try simp only [Act.put, zqa, zqb, zqc, zqd, zqe])) | ((with_reducible apply wpl_load_rd Tryd.isAgg3); exact rfl; exact rfl; assumption; (first | assumption | (apply Rd.own; focus ((with_reducible repeat first | exact pH | apply pT); done)) | (focus ((repeat first | assumption | with_reducible apply Rd.cons); done)) | with_reducible exact Rd.nil); (first | assumption | exact rfl); (try simp only [Act.put, zqa, zqb, zqc, zqd, zqe])) | ((with_reducible apply wpl_load_agg Tryd.isAgg135 Tryd.sizeOf135); exact rfl; exact rfl; assumption; (with_reducible repeat first | exact pH | apply pT); (exact Nat.le_of_ble_eq_true rfl); ((try simp only [zqi, zqj, zqk, zql, zqm, zqn, Nat.reduceAdd, Nat.reduceSub]) <;> exact rfl); (try simp only [Act.put, zqa, zqb, zqc, zqd, zqe])) | ((with_reducible apply wpl_load_rd_agg2 Tryd.isAgg135 Tryd.sizeOf135); exact rfl; exact rfl; assumption; (first | assumption | (apply Rd.own; focus ((with_reducible repeat first | exact pH | apply pT); done)) | (focus ((repeat first | assumption | with_reducible apply Rd.cons); done)) | with_reducible exact Rd.nil); assumption; (first | rfl | assumption); (try simp only [Act.put, zqa, zqb, zqc, zqd, zqe])))
  refine bodyPost_ret (ret_cell_tmp rfl Tryd.isAgg150 Tryd.sizeOf150 rfl (by assumption) .here (n := 5) rfl) rfl ?_
  refine ⟨⟨0, 0, 0, 0, none, 0, 0, rfl⟩, ?_⟩
  refine Sat.sub (by assumption) ?_
  (with_reducible repeat first | exact pH | exact Sub.refl _ | exact Sub.nil | apply pT | apply Sub.cons | apply Sub.skip)

set_option maxRecDepth 100000 in
set_option maxHeartbeats 3200000 in
theorem read_ok_1 {A : Option Addr} {c : Nat} {y : List UInt8} (hb : b.length ≤ 2000000) (hr : raw b = some y) (hform : (rs5 y).ended = 0 ∧ (Pk.of y).kind = 1 ∧ decide (1 ≤ (Pk.of y).len ∧ (Pk.of y).len ≤ 40960) = true) (hf : Rd L (some ⟨10, 1, none⟩) [.func (.func 244) #[] #[]]) (h : Sat w0 L w) (hl : Rd L A (bv b)) :
    Calls Tryd.prog 85 #[.slice A b.length c, .int .i64 1] w fun e w' => ∃ C d, e = .returned (.tuple #[pkV 1 (Pk.of y) C d, .bool (Pk.of y).form1]) ∧ Sat w0 (own 5 1 C (Pk.of y).rest.length d (bv (Pk.of y).rest) :: L) w' := by
  have hb' : b.length ≤ 140737488351232 := by omega
  have hyl := raw_le hr
  have hy : y.length ≤ 140737488351232 := by omega
  have ES := seal_some hr
  have EE : Rr.ended ⟨b, b.length, 0⟩ = 0 := by simp [Rr.ended]
  have h1 := pk_le y
  obtain ⟨p, hp⟩ : ∃ p, Pk.of y = p := ⟨_, rfl⟩
  obtain ⟨s1, E1⟩ : ∃ s, Rr.take ⟨y, 0, 0⟩ 1 = s := ⟨_, rfl⟩
  obtain ⟨s2, E2⟩ : ∃ s, s1.take 4 = s := ⟨_, rfl⟩
  obtain ⟨s3, E3⟩ : ∃ s, s2.take 4 = s := ⟨_, rfl⟩
  obtain ⟨s4, E4⟩ : ∃ s, s3.take 2 = s := ⟨_, rfl⟩
  have e1 : rs1 y = s1 := E1
  have e2 : rs2 y = s2 := by unfold rs2; rw [e1]; exact E2
  have e3 : rs3 y = s3 := by unfold rs3; rw [e2]; exact E3
  have e4 : rs4 y = s4 := by unfold rs4; rw [e3]; exact E4
  have hi4 := rs4_inp y
  have ha4 := rs4_at y
  obtain ⟨n5, hlen⟩ : ∃ z, (s4.inp.length : Int) - s4.at_ = z := ⟨_, rfl⟩
  obtain ⟨s5, E5⟩ : ∃ s, s4.blkd n5 = s := ⟨_, rfl⟩
  have HE : s5.ended = (rs5 y).ended := by rw [← E5, ← hlen, ← e4]; rfl
  have hv1 : Rr.val ⟨y, 0, 0⟩ 1 = p.kind := by rw [← hp]; rfl
  have hv2 : s1.val 4 = p.len := by rw [← hp, ← e1]; rfl
  have hv3 : s2.val 4 = p.sum := by rw [← hp, ← e2]; rfl
  have hv4 : s3.val 2 = p.num := by rw [← hp, ← e3]; rfl
  have hv5 : s4.blk n5 = p.rest := by rw [← hp, ← hlen, ← e4]; rfl
  rw [e4] at hi4 ha4
  have hn5 : -9223372036854775808 ≤ n5 ∧ n5 < 9223372036854775808 := by rw [hi4] at hlen ha4; omega
  rw [hp] at h1 hform
  obtain ⟨b1, b2, b3, b4, b5⟩ := h1
  clear hr e1 e2 e3 e4 hi4 ha4
  obtain ⟨hE, hK, hG⟩ := hform
  rw [hE] at HE
  rw [hp]
  have hK2 : ((p.kind : Int) != 1) = false := by simp; omega
  go_enter Tryd.func85, Tryd.ntmps85
  go_wp2_with (first | (go_at_call 104; refine (NewReader_spec hb' (by assumption) (Rd.cons hl) rfl).mono ?_; rintro _ _ ⟨r1, rfl, hr1⟩) | (go_at_call 137; refine (Sealed_spec (by omega) hr1).mono ?_; rintro _ _ ⟨B, d, he, hs1⟩; rw [ES] at he hs1; subst he) | (go_at_call 104; refine (NewReader_spec (l := y) hy hs1 (Rd.own .here) rfl).mono ?_; rintro _ _ ⟨r2, rfl, hr2⟩) | (go_at_call 106; refine (End_spec (hr2.pull (.there (.there .here)))).mono ?_; rintro _ _ ⟨he, hq0⟩; rw [EE] at he; subst he) | (go_at_call 138; refine (RU8_spec hq0.swap).mono ?_; rintro _ _ ⟨he, hq1⟩; rw [hv1] at he; rw [E1] at hq1; subst he) | (go_at_call 116; refine (RU32_spec hq1).mono ?_; rintro _ _ ⟨he, hq2⟩; rw [hv2] at he; rw [E2] at hq2; subst he) | (go_at_call 116; refine (RU32_spec hq2).mono ?_; rintro _ _ ⟨he, hq3⟩; rw [hv3] at he; rw [E3] at hq3; subst he) | (go_at_call 139; refine (RU16_spec hq3).mono ?_; rintro _ _ ⟨he, hq4⟩; rw [hv4] at he; rw [E4] at hq4; subst he) | (go_at_call 105; refine (Left_spec (Sat.swap (by assumption))).mono ?_; rintro _ _ ⟨he, hq5⟩; rw [hlen] at he; subst he) | (go_at_call 140; refine (RBlock_spec hn5 hq5).mono ?_; rintro _ _ ⟨C, c2, he, hq6⟩; rw [hv5] at he hq6; rw [E5] at hq6; subst he) | (go_at_call 106; refine (End_spec (Sat.pull (by assumption) (.there (.there .here)))).mono ?_; rintro _ _ ⟨he, hq8⟩; rw [HE] at he; subst he) | (go_at_call 78; refine (good_spec (n := p.len) (s := p.sum) (by assumption)).mono ?_; rintro _ _ ⟨he, hq9⟩; rw [hG] at he; subst he) | ((with_reducible refine wpl_off ?_ ?_); exact rfl; (try simp only [Act.put, zqa, zqb, zqc, zqd, zqe])) | ((with_reducible apply wpl_alloc_agg Tryd.zeroValue150); assumption; intro _ _ _; (try simp only [Act.put, zqa, zqb, zqc, zqd, zqe])) | ((with_reducible apply wpl_store_agg Tryd.sizeOf150); exact rfl; exact rfl; ((conv => lhs; whnf) <;> exact rfl); exact rfl; simp [Value.oneCell']; assumption; (with_reducible repeat first | exact pH | apply pT); (exact Nat.le_of_ble_eq_true rfl); ((try simp only [zqi, zqj, zqk, zql, zqm, zqn, Nat.reduceAdd, Nat.reduceSub]) <;> exact rfl); intro _ _; (try simp only [Act.put, zqa, zqb, zqc, zqd, zqe])) | ((with_reducible apply wpl_store Tryd.sizeOf37); exact rfl; exact rfl; ((conv => lhs; whnf) <;> exact rfl); exact rfl; assumption; (with_reducible repeat first | exact pH | apply pT); (exact Nat.le_of_ble_eq_true rfl); ((try simp only [zqa, zqb, zqc]) <;> exact rfl); intro _ _; (try simp only [Act.put, zqa, zqb, zqc, zqd, zqe])) | ((with_reducible apply wpl_store_own Tryd.sizeOf37); exact rfl; exact rfl; ((conv => lhs; whnf) <;> exact rfl); exact rfl; assumption; (with_reducible repeat first | exact pH | apply pT); (first | assumption | (simp <;> omega)); intro _ _; (try simp only [Act.put, zqa, zqb, zqc, zqd, zqe])) | ((with_reducible apply wpl_load Tryd.isAgg3); exact rfl; exact rfl; assumption; (with_reducible repeat first | exact pH | apply pT); ((try simp only [zqf, zqg, zqh]) <;> exact rfl); (try simp only [Act.put, zqa, zqb, zqc, zqd, zqe])) | ((with_reducible apply wpl_load_rd Tryd.isAgg3); exact rfl; exact rfl; assumption; (first | assumption | (apply Rd.own; focus ((with_reducible repeat first | exact pH | apply pT); done)) | (focus ((repeat first | assumption | with_reducible apply Rd.cons); done)) | with_reducible exact Rd.nil); (first | assumption | exact rfl); (try simp only [Act.put, zqa, zqb, zqc, zqd, zqe])) | ((with_reducible apply wpl_load_agg Tryd.isAgg135 Tryd.sizeOf135); exact rfl; exact rfl; assumption; (with_reducible repeat first | exact pH | apply pT); (exact Nat.le_of_ble_eq_true rfl); ((try simp only [zqi, zqj, zqk, zql, zqm, zqn, Nat.reduceAdd, Nat.reduceSub]) <;> exact rfl); (try simp only [Act.put, zqa, zqb, zqc, zqd, zqe])) | ((with_reducible apply wpl_load_rd_agg2 Tryd.isAgg135 Tryd.sizeOf135); exact rfl; exact rfl; assumption; (first | assumption | (apply Rd.own; focus ((with_reducible repeat first | exact pH | apply pT); done)) | (focus ((repeat first | assumption | with_reducible apply Rd.cons); done)) | with_reducible exact Rd.nil); assumption; (first | rfl | assumption); (try simp only [Act.put, zqa, zqb, zqc, zqd, zqe])) | ((with_reducible apply (wp_draw 9 9 _ (by kernel_rfl))); exact rfl; assumption; (exact Sub.cons .here (Sub.cons .here (Sub.cons .here (Sub.cons .here (Sub.cons .here (Sub.skip (Sub.refl _))))))); intro _ _ _; ((apply (take_value (k := 0) rfl (by kernel_rfl) (by kernel_rfl) (by kernel_rfl) (fun _ _ _ => id))); exact rfl; assumption; (first | (apply (q_load_agg Tryd.isAgg150 Tryd.sizeOf150); exact rfl; (with_reducible repeat first | exact pH | apply pT); (exact Nat.le_of_ble_eq_true rfl); ((try simp only [zqi, zqj, zqk, zql, zqm, zqn, Nat.reduceAdd, Nat.reduceSub]) <;> exact rfl)) | (apply (q_load_rd_agg Tryd.isAgg150 Tryd.sizeOf150); exact rfl; (first | assumption | (apply Rd.own; focus ((with_reducible repeat first | exact pH | apply pT); done)) | (focus ((repeat first | assumption | with_reducible apply Rd.cons); done)) | with_reducible exact Rd.nil); exact rfl; assumption)); (try simp only [Act.put, zqa, zqb, zqc, zqd, zqe])); ((apply (take_value (k := 1) rfl (by kernel_rfl) (by kernel_rfl) (by kernel_rfl) (fun _ _ _ => id))); exact rfl; assumption; (apply q_move; ((conv => lhs; whnf) <;> exact rfl)); (try simp only [Act.put, zqa, zqb, zqc, zqd, zqe])); ((apply (take_value (k := 2) rfl (by kernel_rfl) (by kernel_rfl) (by kernel_rfl) (fun _ _ _ => id))); exact rfl; assumption; (intro _ _; go_simp; (try exact rfl)); (try simp only [Act.put, zqa, zqb, zqc, zqd, zqe])); ((apply (take_value (k := 3) rfl (by kernel_rfl) (by kernel_rfl) (by kernel_rfl) (fun _ _ _ => id))); exact rfl; assumption; (intro _ _; go_simp; (try exact rfl)); (try simp only [Act.put, zqa, zqb, zqc, zqd, zqe])); ((apply (take_value (k := 4) rfl (by kernel_rfl) (by kernel_rfl) (by kernel_rfl) (fun _ _ _ => id))); exact rfl; assumption; (first | (apply (q_load Tryd.isAgg216); exact rfl; (with_reducible repeat first | exact pH | apply pT); ((try simp only [zqf, zqg, zqh]) <;> exact rfl)) | (apply (q_load_rd Tryd.isAgg216); exact rfl; (first | assumption | (apply Rd.own; focus ((with_reducible repeat first | exact pH | apply pT); done)) | (focus ((repeat first | assumption | with_reducible apply Rd.cons); done)) | with_reducible exact Rd.nil); (first | assumption | exact rfl)) | (apply (q_load_at Tryd.isAgg216); exact rfl; (first | assumption | (apply Rd.own; focus ((with_reducible repeat first | exact pH | apply pT); done)) | (focus ((repeat first | assumption | with_reducible apply Rd.cons); done)) | with_reducible exact Rd.nil))); (try simp only [Act.put, zqa, zqb, zqc, zqd, zqe])); ((apply (take_value (k := 5) rfl (by kernel_rfl) (by kernel_rfl) (by kernel_rfl) (fun _ _ _ => id))); exact rfl; assumption; (first | (apply (q_load_agg Tryd.isAgg150 Tryd.sizeOf150); exact rfl; (with_reducible repeat first | exact pH | apply pT); (exact Nat.le_of_ble_eq_true rfl); ((try simp only [zqi, zqj, zqk, zql, zqm, zqn, Nat.reduceAdd, Nat.reduceSub]) <;> exact rfl)) | (apply (q_load_rd_agg Tryd.isAgg150 Tryd.sizeOf150); exact rfl; (first | assumption | (apply Rd.own; focus ((with_reducible repeat first | exact pH | apply pT); done)) | (focus ((repeat first | assumption | with_reducible apply Rd.cons); done)) | with_reducible exact Rd.nil); exact rfl; assumption)); (try simp only [Act.put, zqa, zqb, zqc, zqd, zqe])); (apply (take_active (k := 6) (by kernel_rfl) rfl)); ((apply (wpl_callV Tryd.call244)); exact rfl; exact rfl; (simp only [List.map_toArray, List.map_cons, List.map_nil]; exact rfl); refine (form1_spec (p := p) b2 (by omega) rfl (by assumption)).mono ?_; rintro _ _ ⟨rfl, hq10⟩; (refine ⟨_, rfl, ?_⟩); (try simp only [Act.put, zqa, zqb, zqc, zqd, zqe])); (refine KQ_nil ⟨Sat.sub (by assumption) ?_⟩ ?_); (with_reducible repeat first | exact pH | exact Sub.refl _ | exact Sub.nil | apply pT | apply Sub.cons | apply Sub.skip); intro _; (try simp only [Act.put, zqa, zqb, zqc, zqd, zqe]); (apply (take_active (k := 7) (by kernel_rfl) rfl)); (first | ((with_reducible apply wpl_store_agg Tryd.sizeOf150); exact rfl; exact rfl; ((conv => lhs; whnf) <;> exact rfl); exact rfl; simp [Value.oneCell']; assumption; (with_reducible repeat first | exact pH | apply pT); (exact Nat.le_of_ble_eq_true rfl); ((try simp only [zqi, zqj, zqk, zql, zqm, zqn, Nat.reduceAdd, Nat.reduceSub]) <;> exact rfl); intro _ _; (try simp only [Act.put, zqa, zqb, zqc, zqd, zqe]))); (refine KQ_nil ⟨Sat.sub (by assumption) ?_⟩ ?_); (with_reducible repeat first | exact pH | exact Sub.refl _ | exact Sub.nil | apply pT | apply Sub.cons | apply Sub.skip); intro _; (try simp only [Act.put, zqa, zqb, zqc, zqd, zqe]); ((apply (take_value (k := 8) rfl (by kernel_rfl) (by kernel_rfl) (by kernel_rfl) (fun _ _ _ => id))); exact rfl; assumption; (apply q_assign; ((conv => lhs; whnf) <;> exact rfl)); (try simp only [Act.put, zqa, zqb, zqc, zqd, zqe])); (refine take_done (by kernel_rfl) ?_)))
  refine bodyPost_ret (ret_cell_tmp rfl Tryd.isAgg150 Tryd.sizeOf150 rfl (by assumption) .here (n := 5) rfl) rfl ?_
  refine ⟨C, c2, rfl, ?_⟩
  refine Sat.sub (by assumption) ?_
  (with_reducible repeat first | exact pH | exact Sub.refl _ | exact Sub.nil | apply pT | apply Sub.cons | apply Sub.skip)

end
end Go.Proofs.YtgobibgpkcdmdaaDoor
