/- The walk of package ferry's Receiver: Take. -/
import Derived.Test.YtgobibgpkcdmdaaDoorWAnswer
set_option linter.all false
namespace Go.Proofs.YtgobibgpkcdmdaaDoor
open Go Go.RowKit
attribute [local irreducible] Calls
def Rc.begin_ (s : Rc) (p : Pk) : Rc := if s.begun then s else ⟨true, p.len, p.sum, List.replicate p.parts none⟩
def Rc.put (s : Rc) (p : Pk) : Rc := { s with parts := if s.parts[p.num]? = some none then s.parts.set p.num (some p.rest) else s.parts }
/-- The receiver behind Take, what it tells, the error. -/
def Rc.take (s : Rc) (l : List UInt8) : Rc × List UInt8 × Nat := match rd1 l with
  | none => (s, [], 220)
  | some p => if s.begun = true ∧ ¬ (p.len = s.len ∧ p.sum = s.sum) then (s, [], 221)
    else if ((s.begin_ p).put p).have_ = ((s.begin_ p).put p).parts.length ∧ csum ((s.begin_ p).put p).whole ≠ ((s.begin_ p).put p).sum then (Rc.fresh, [], 221)
    else ((s.begin_ p).put p, ((s.begin_ p).put p).ack.bytes, 0)
theorem rd1_form {l : List UInt8} {p : Pk} (h : rd1 l = some p) : p.num < p.parts ∧ (1 ≤ p.rest.length ∧ p.rest.length ≤ 64) ∧ (1 ≤ p.len ∧ p.len ≤ 40960) ∧ p.sum < 4294967296 := by
  unfold rd1 at h
  split at h
  · cases h
  · rename_i y hr
    split at h
    · rename_i hc
      have hl := pk_le y
      obtain rfl := Option.some.inj h
      obtain ⟨-, -, hg, hf⟩ := hc
      have hg := of_decide_eq_true hg
      unfold Pk.form1 at hf
      have hf := of_decide_eq_true hf
      obtain ⟨f1, f2⟩ := hf
      refine ⟨f1, ?_, hg, hl.2.2.1⟩
      unfold Pk.parts at f1
      omega
    · cases h
theorem begin_ok {s : Rc} {p : Pk} (hs : s.ok) (hp : 1 ≤ p.len ∧ p.len ≤ 40960) (hsum : p.sum < 4294967296) : (s.begin_ p).ok ∧ (s.begin_ p).begun = true := by
  unfold Rc.begin_
  cases hb : s.begun with
  | true => simpa [hb] using hs
  | false =>
    refine ⟨⟨?_, ?_, ?_, ?_, ?_⟩, rfl⟩
    · simp [Pk.parts]; omega
    · intro l hl
      simp at hl
    · simp
    · intro _
      exact ⟨hp.1, hp.2, by simp [Pk.parts]⟩
    · exact hsum
theorem put_ok2 {s : Rc} {p : Pk} (hs : s.ok) (hb : s.begun = true) (hp : 1 ≤ p.rest.length ∧ p.rest.length ≤ 64) : (s.put p).ok := by
  obtain ⟨h1, h2, h3, h4, h5⟩ := hs
  by_cases hc : s.parts[p.num]? = some none
  · have e : s.put p = { s with parts := s.parts.set p.num (some p.rest) } := by unfold Rc.put; rw [if_pos hc]
    rw [e]
    refine ⟨?_, ?_, ?_, ?_, h5⟩
    · simpa using h1
    · intro l hl
      rcases List.mem_or_eq_of_mem_set hl with h | h
      · exact h2 l h
      · obtain rfl := Option.some.inj h; exact hp
    · intro h
      have h : s.begun = false := h
      rw [hb] at h; cases h
    · intro h
      have := h4 h
      exact ⟨this.1, this.2.1, by simpa using this.2.2⟩
  · have e : s.put p = s := by unfold Rc.put; rw [if_neg hc]
    rw [e]
    exact ⟨h1, h2, h3, h4, h5⟩
def noPc : Pc := ⟨none, none, 0⟩
section
variable {w0 w : World} {L L' : List SProp} {b : Nat} {s : Rc}
theorem pcP_nones (n : Nat) (h : Sat w0 L w) : Sat w0 (pcP (List.replicate n noPc) :: L) w := by
  induction n with
  | zero => exact pcP_nil h
  | succ n ih =>
    rw [List.replicate_succ]
    exact pcP_cons.2 (Sat.fact_iff.2 ⟨trivial, ih⟩)
theorem pcV_nones (n : Nat) : pcV (List.replicate n noPc) = List.replicate n (.slice none 0 0) := by simp [pcV, noPc, Pc.v]
set_option maxRecDepth 100000 in
set_option maxHeartbeats 1600000 in
theorem RTake_none {l : List UInt8} {A : Option Addr} {n c : Nat} (hr : rd1 l = none) (hn : n = l.length) (hb : l.length ≤ 2000000) (h : Sat w0 (RcvP b s :: L) w) (hl : Rd L A (bv l)) (hf : Rd L (some ⟨10, 1, none⟩) [.func (.func 244) #[] #[]]) :
    Calls Tryd.prog 35 #[.pointer (some ⟨b, 0, none⟩), .slice A n c] w fun e w' => e = .returned (.tuple #[.slice none 0 0, .int .i64 220]) ∧ Sat w0 (RcvP b s :: L) w' := by
  subst hn
  have HR2 := Lib.hid ((read1_spec (c := c) rfl hb h hl.cons hf.cons).mono (R' := fun e w' => (∃ (v0 v1 v2 v3 : Int) (v4 : Option Addr) (v5 v6 : Nat), e = .returned (.tuple #[.agg #[.int .i64 v0, .int .i64 v1, .int .u32 v2, .int .i64 v3, .slice v4 v5 v6], .bool false])) ∧ Sat w0 (RcvP b s :: L) w') (fun e w' hh => by
    rcases hh with ⟨p, C, d, h1, _⟩ | ⟨_, h1, h2⟩
    · rw [hr] at h1; cases h1
    · exact ⟨h1, h2⟩))
  clear h
  go_enter Tryd.func35, Tryd.ntmps35
  go_wp2_with (first | (go_at_call 85; refine HR2.out.mono ?_; rintro _ _ ⟨⟨v0, v1, v2, v3, v4, v5, v6, rfl⟩, h'⟩) | ((with_reducible apply wpl_alloc_agg Tryd.zeroValue150); assumption; intro _ _ _; (try simp only [Act.put, zqa, zqb, zqc, zqd, zqe])) | ((with_reducible first | apply wpl_store_agg Tryd.sizeOf150 | apply wpl_store_agg Tryd.sizeOf137); exact rfl; exact rfl; ((conv => lhs; whnf) <;> exact rfl); exact rfl; simp [Value.oneCell']; assumption; (with_reducible repeat first | exact pH | apply pT); (exact Nat.le_of_ble_eq_true rfl); ((try simp only [zqi, zqj, zqk, zql, zqm, zqn, Nat.reduceAdd, Nat.reduceSub]) <;> exact rfl); intro _ _; (try simp only [Act.put, zqa, zqb, zqc, zqd, zqe])) | ((with_reducible apply wpl_load Tryd.isAgg4); exact rfl; exact rfl; assumption; (with_reducible repeat first | exact pH | apply pT); ((try simp only [zqf, zqg, zqh]) <;> exact rfl); (try simp only [Act.put, zqa, zqb, zqc, zqd, zqe])) | ((with_reducible apply wpl_load_rd Tryd.isAgg4); exact rfl; exact rfl; assumption; (first | assumption | (apply Rd.own; focus ((with_reducible repeat first | exact pH | apply pT); done)) | (focus ((repeat first | assumption | with_reducible apply Rd.cons); done)) | with_reducible exact Rd.nil); (first | assumption | exact rfl); (try simp only [Act.put, zqa, zqb, zqc, zqd, zqe])))
  go_ret2
  exact ⟨rfl, Sat.sub (by assumption) (by (with_reducible repeat first | exact pH | exact Sub.refl _ | exact Sub.nil | apply pT | apply Sub.cons | apply Sub.skip))⟩
set_option maxRecDepth 100000 in
set_option maxHeartbeats 1600000 in
theorem RTake_other {l : List UInt8} {A : Option Addr} {n c : Nat} {p : Pk} (hr : rd1 l = some p) (hs : s.begun = true) (ho : ¬ (p.len = s.len ∧ p.sum = s.sum)) (hn : n = l.length) (hb : l.length ≤ 2000000) (h : Sat w0 (RcvP b s :: L) w) (hl : Rd L A (bv l)) (hf : Rd L (some ⟨10, 1, none⟩) [.func (.func 244) #[] #[]]) :
    Calls Tryd.prog 35 #[.pointer (some ⟨b, 0, none⟩), .slice A n c] w fun e w' => e = .returned (.tuple #[.slice none 0 0, .int .i64 221]) ∧ Sat w0 (RcvP b s :: L) w' := by
  subst hn
  have HR2 := Lib.hid ((read1_spec (c := c) rfl hb h hl.cons hf.cons).mono (R' := fun e w' => ∃ C d, e = .returned (.tuple #[pkV 1 p C d, .bool true]) ∧ Sat w0 (own 5 1 C p.rest.length d (bv p.rest) :: RcvP b s :: L) w') (fun e w' hh => by
    rcases hh with ⟨q, C, d, h1, h2, h3⟩ | ⟨h1, _⟩
    · rw [hr] at h1; obtain rfl := Option.some.inj h1; exact ⟨C, d, h2, h3⟩
    · rw [hr] at h1; cases h1))
  have hval : ∀ {α : Type} (x y : α), (if (p.len : Int) = (s.len : Int) then (if (p.sum : Int) = (s.sum : Int) then x else y) else y) = y := fun x y => by
    split
    · split
      · exact absurd ⟨by omega, by omega⟩ ho
      · rfl
    · rfl
  clear h ho hr
  go_enter Tryd.func35, Tryd.ntmps35
  go_wp2_with (first | (go_at_call 85; refine HR2.out.mono ?_; rintro _ _ ⟨C, d, rfl, h'⟩; unfold pkV; obtain ⟨A1, c1, ps, hok1, hS1⟩ := RcvP.open_ h'.swap; have HOK := Lib.hid hok1; clear hok1 h'; rw [hs] at hS1) | ((with_reducible apply wpl_alloc_agg Tryd.zeroValue150); assumption; intro _ _ _; (try simp only [Act.put, zqa, zqb, zqc, zqd, zqe])) | ((with_reducible first | apply wpl_store_agg Tryd.sizeOf150 | apply wpl_store_agg Tryd.sizeOf137); exact rfl; exact rfl; ((conv => lhs; whnf) <;> exact rfl); exact rfl; simp [Value.oneCell']; assumption; (with_reducible repeat first | exact pH | apply pT); (exact Nat.le_of_ble_eq_true rfl); ((try simp only [zqi, zqj, zqk, zql, zqm, zqn, Nat.reduceAdd, Nat.reduceSub]) <;> exact rfl); intro _ _; (try simp only [Act.put, zqa, zqb, zqc, zqd, zqe])) | ((with_reducible apply (wp_draw 4 13 _ (by kernel_rfl))); exact rfl; assumption; (exact Sub.refl _); intro _ _ _; ((apply (take_value (k := 0) rfl (by kernel_rfl) (by kernel_rfl) (by kernel_rfl) (fun _ _ _ => id))); exact rfl; assumption; (apply q_move; ((conv => lhs; whnf) <;> exact rfl)); (try simp only [Act.put, zqa, zqb, zqc, zqd, zqe])); ((apply (take_value (k := 1) rfl (by kernel_rfl) (by kernel_rfl) (by kernel_rfl) (fun _ _ _ => id))); exact rfl; assumption; (exact q_nilCheck rfl); (try simp only [Act.put, zqa, zqb, zqc, zqd, zqe])); ((apply (take_value (k := 2) rfl (by kernel_rfl) (by kernel_rfl) (by kernel_rfl) (fun _ _ _ => id))); exact rfl; assumption; (intro _ _; go_simp; (try simp only [hval]); (try exact rfl)); (try simp only [Act.put, zqa, zqb, zqc, zqd, zqe])); ((apply (take_value (k := 3) rfl (by kernel_rfl) (by kernel_rfl) (by kernel_rfl) (fun _ _ _ => id))); exact rfl; assumption; (first | (apply (q_load Tryd.isAgg4); exact rfl; (with_reducible repeat first | exact pH | apply pT); ((try simp only [zqf, zqg, zqh]) <;> exact rfl)) | (apply (q_load_rd Tryd.isAgg4); exact rfl; (first | assumption | (apply Rd.own; focus ((with_reducible repeat first | exact pH | apply pT); done)) | (focus ((repeat first | assumption | with_reducible apply Rd.cons); done)) | with_reducible exact Rd.nil); (first | assumption | exact rfl)) | (apply (q_load_at Tryd.isAgg4); exact rfl; (first | assumption | (apply Rd.own; focus ((with_reducible repeat first | exact pH | apply pT); done)) | (focus ((repeat first | assumption | with_reducible apply Rd.cons); done)) | with_reducible exact Rd.nil))); (try simp only [Act.put, zqa, zqb, zqc, zqd, zqe])); ((apply (take_value (k := 4) rfl (by kernel_rfl) (by kernel_rfl) (by kernel_rfl) (fun _ _ _ => id))); exact rfl; assumption; (apply q_move; ((conv => lhs; whnf) <;> exact rfl)); (try simp only [Act.put, zqa, zqb, zqc, zqd, zqe])); (first | ((apply (take_skip (k := 5) rfl (by kernel_rfl) (by kernel_rfl) (by kernel_rfl) (fun _ _ _ => id))); exact rfl; assumption; (try simp only [Act.put, zqa, zqb, zqc, zqd, zqe])) | ((apply (take_value (k := 5) rfl (by kernel_rfl) (by kernel_rfl) (by kernel_rfl) (fun _ _ _ => id))); exact rfl; assumption; (intro _ _; go_simp; (try simp only [hval]); (try exact rfl)); (try simp only [Act.put, zqa, zqb, zqc, zqd, zqe]))); (first | ((apply (take_skip (k := 6) rfl (by kernel_rfl) (by kernel_rfl) (by kernel_rfl) (fun _ _ _ => id))); exact rfl; assumption; (try simp only [Act.put, zqa, zqb, zqc, zqd, zqe])) | ((apply (take_value (k := 6) rfl (by kernel_rfl) (by kernel_rfl) (by kernel_rfl) (fun _ _ _ => id))); exact rfl; assumption; (first | (apply (q_load_agg Tryd.isAgg135 Tryd.sizeOf135); exact rfl; (with_reducible repeat first | exact pH | apply pT); (exact Nat.le_of_ble_eq_true rfl); ((try simp only [zqi, zqj, zqk, zql, zqm, zqn, Nat.reduceAdd, Nat.reduceSub]) <;> exact rfl)) | (apply (q_load_rd_agg Tryd.isAgg135 Tryd.sizeOf135); exact rfl; (first | assumption | (apply Rd.own; focus ((with_reducible repeat first | exact pH | apply pT); done)) | (focus ((repeat first | assumption | with_reducible apply Rd.cons); done)) | with_reducible exact Rd.nil); exact rfl; assumption)); (try simp only [Act.put, zqa, zqb, zqc, zqd, zqe]))); (first | ((apply (take_skip (k := 7) rfl (by kernel_rfl) (by kernel_rfl) (by kernel_rfl) (fun _ _ _ => id))); exact rfl; assumption; (try simp only [Act.put, zqa, zqb, zqc, zqd, zqe])) | ((apply (take_value (k := 7) rfl (by kernel_rfl) (by kernel_rfl) (by kernel_rfl) (fun _ _ _ => id))); exact rfl; assumption; (apply q_move; ((conv => lhs; whnf) <;> exact rfl)); (try simp only [Act.put, zqa, zqb, zqc, zqd, zqe]))); (first | ((apply (take_skip (k := 8) rfl (by kernel_rfl) (by kernel_rfl) (by kernel_rfl) (fun _ _ _ => id))); exact rfl; assumption; (try simp only [Act.put, zqa, zqb, zqc, zqd, zqe])) | ((apply (take_value (k := 8) rfl (by kernel_rfl) (by kernel_rfl) (by kernel_rfl) (fun _ _ _ => id))); exact rfl; assumption; (exact q_nilCheck rfl); (try simp only [Act.put, zqa, zqb, zqc, zqd, zqe]))); (first | ((apply (take_skip (k := 9) rfl (by kernel_rfl) (by kernel_rfl) (by kernel_rfl) (fun _ _ _ => id))); exact rfl; assumption; (try simp only [Act.put, zqa, zqb, zqc, zqd, zqe])) | ((apply (take_value (k := 9) rfl (by kernel_rfl) (by kernel_rfl) (by kernel_rfl) (fun _ _ _ => id))); exact rfl; assumption; (intro _ _; go_simp; (try simp only [hval]); (try exact rfl)); (try simp only [Act.put, zqa, zqb, zqc, zqd, zqe]))); (first | ((apply (take_skip (k := 10) rfl (by kernel_rfl) (by kernel_rfl) (by kernel_rfl) (fun _ _ _ => id))); exact rfl; assumption; (try simp only [Act.put, zqa, zqb, zqc, zqd, zqe])) | ((apply (take_value (k := 10) rfl (by kernel_rfl) (by kernel_rfl) (by kernel_rfl) (fun _ _ _ => id))); exact rfl; assumption; (first | (apply (q_load_agg Tryd.isAgg135 Tryd.sizeOf135); exact rfl; (with_reducible repeat first | exact pH | apply pT); (exact Nat.le_of_ble_eq_true rfl); ((try simp only [zqi, zqj, zqk, zql, zqm, zqn, Nat.reduceAdd, Nat.reduceSub]) <;> exact rfl)) | (apply (q_load_rd_agg Tryd.isAgg135 Tryd.sizeOf135); exact rfl; (first | assumption | (apply Rd.own; focus ((with_reducible repeat first | exact pH | apply pT); done)) | (focus ((repeat first | assumption | with_reducible apply Rd.cons); done)) | with_reducible exact Rd.nil); exact rfl; assumption)); (try simp only [Act.put, zqa, zqb, zqc, zqd, zqe]))); (first | ((apply (take_skip (k := 11) rfl (by kernel_rfl) (by kernel_rfl) (by kernel_rfl) (fun _ _ _ => id))); exact rfl; assumption; (try simp only [Act.put, zqa, zqb, zqc, zqd, zqe])) | ((apply (take_value (k := 11) rfl (by kernel_rfl) (by kernel_rfl) (by kernel_rfl) (fun _ _ _ => id))); exact rfl; assumption; (intro _ _; go_simp; (try simp only [hval]); (try exact rfl)); (try simp only [Act.put, zqa, zqb, zqc, zqd, zqe]))); ((apply (take_value (k := 12) rfl (by kernel_rfl) (by kernel_rfl) (by kernel_rfl) (fun _ _ _ => id))); exact rfl; assumption; (intro _ _; go_simp; (try simp only [hval]); (try exact rfl)); (try simp only [Act.put, zqa, zqb, zqc, zqd, zqe])); (refine take_done (by kernel_rfl) ?_)) | ((with_reducible apply wpl_load Tryd.isAgg4); exact rfl; exact rfl; assumption; (with_reducible repeat first | exact pH | apply pT); ((try simp only [zqf, zqg, zqh]) <;> exact rfl); (try simp only [Act.put, zqa, zqb, zqc, zqd, zqe])) | ((with_reducible apply wpl_load_rd Tryd.isAgg4); exact rfl; exact rfl; assumption; (first | assumption | (apply Rd.own; focus ((with_reducible repeat first | exact pH | apply pT); done)) | (focus ((repeat first | assumption | with_reducible apply Rd.cons); done)) | with_reducible exact Rd.nil); (first | assumption | exact rfl); (try simp only [Act.put, zqa, zqb, zqc, zqd, zqe])))
  go_ret2
  exact ⟨rfl, RcvP.shut (A := A1) (c := c1) HOK.out (by rw [hs]; exact Sat.sub (by assumption) (by (with_reducible repeat first | exact pH | exact Sub.refl _ | exact Sub.nil | apply pT | apply Sub.cons | apply Sub.skip)))⟩
end
end Go.Proofs.YtgobibgpkcdmdaaDoor
