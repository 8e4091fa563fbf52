/- The walks of law 22's line: round. -/
import Derived.Test.YtgobibgpkcdmdaaDoorWLine2
set_option linter.all false
namespace Go.Proofs.YtgobibgpkcdmdaaDoor
open Go Go.RowKit
attribute [local irreducible] Calls
theorem Ln.t3 {C : List UInt8} (hC : 1 ≤ C.length) {s : Ln} (h : s.ok C) : T3 C (s.sd C) (s.rc C) := by
  have hnp : 1 ≤ np C := by unfold np; omega
  have hl : (s.sd C).left = s.a.count false := rfl
  have hcl : s.a.count false ≤ np C := by rw [← h.len]; exact List.count_le_length
  unfold Ln.rc rst
  cases hb : s.b with
  | false =>
    refine ⟨Nat.le_refl _, .inl rfl, rfl, ?_, by rw [hl]; exact hcl⟩
    have : s.a.count false = s.a.length := List.count_eq_length.2 fun x hx => by
      cases x with
      | false => rfl
      | true =>
        obtain ⟨i, hi, he⟩ := List.getElem_of_mem hx
        have := h.sub i (by rw [List.getElem?_eq_getElem hi, he])
        rw [h.beg hb i] at this
        cases this
    show np C ≤ s.a.count false + 0
    rw [this, h.len]; omega
  | true =>
    have e : (if true = true then rcOf C s.g else Rc.fresh) = rcOf C s.g := rfl
    rw [e]
    refine ⟨by rw [rcOf_length]; exact have_le C s.g, .inr (rcOf_length C s.g), ?_, ?_, by rw [hl]; exact hcl⟩
    · unfold Rc.cargo
      by_cases hh : (rcOf C s.g).have_ = (rcOf C s.g).parts.length
      · rw [if_pos ⟨rfl, hh⟩, if_pos ⟨hh, by rw [rcOf_length]; exact hnp⟩]
        rw [whole_all (have_all.1 (by rw [hh, rcOf_length]))]
      · rw [if_neg (fun hx => hh hx.2), if_neg (fun hx => hh hx.1)]
    · rw [hl, have_eq]
      have e1 : s.a.count false = (List.range (np C)).countP fun i => !(s.a[i]?.getD false) := by
        rw [← h.len]
        clear h hcl hl e hb
        generalize s.a = a
        induction a with
        | nil => rfl
        | cons x a ih =>
          rw [List.length_cons, List.range_succ_eq_map, List.countP_cons, List.countP_map, List.count_cons, ih]
          have : ((fun i => !((x :: a)[i]?.getD false)) ∘ Nat.succ) = fun i => !(a[i]?.getD false) := by funext i; simp
          rw [this]
          cases x <;> simp
      rw [e1]
      have e2 := List.countP_eq_countP_filter_add (List.range (np C)) s.g (fun i => s.g i)
      have e3 : ∀ l : List Nat, (∀ i, i ∈ l → (s.a[i]?.getD false) = true → s.g i = true) → l.length ≤ l.countP (fun i => !(s.a[i]?.getD false)) + l.countP s.g := by
        intro l
        induction l with
        | nil => intro _; simp
        | cons i l ih =>
          intro hi
          have := ih fun j hj => hi j (List.mem_cons_of_mem _ hj)
          have hx := hi i (List.mem_cons_self ..)
          rw [List.countP_cons, List.countP_cons, List.length_cons]
          cases ha : s.a[i]?.getD false with
          | false => simp; omega
          | true => rw [hx ha]; simp; omega
      have := e3 (List.range (np C)) fun i _ hi => h.sub i (by
        cases hs : s.a[i]? with
        | none => rw [hs] at hi; cases hi
        | some x => rw [hs] at hi; exact congrArg some hi)
      simpa using this
theorem Ln.all_nil (C : List UInt8) (s : Ln) : s.all C [] = s := rfl
theorem Ln.due_np {C : List UInt8} {s : Ln} (h : s.ok C) {i : Nat} (hi : i ∈ due s.a s.a.length) : i < np C := by have := due_lt s.a _ i hi; rw [h.len] at this; exact this
theorem pk_len (C : List UInt8) (i : Nat) : (pkC C i).bytes.length ≤ 79 := by
  rw [Pk.bytes_length]
  show 15 + (part C i).length ≤ 79
  rw [part_length]; omega
theorem pk_len1 (C : List UInt8) (i : Nat) : 1 ≤ (pkC C i).bytes.length := by rw [Pk.bytes_length]; omega
theorem ack_len (s : Rc) : s.ack.bytes.length = 16 := by rw [Pk.bytes_length]; rfl
section
variable {w0 w : World} {L L' : List SProp}
variable {b cc : Nat} {C : List UInt8} {CA : Option Addr} {ps qs : List Pc}
theorem FormsIn.mono {X : List SProp} (h : FormsIn L) : FormsIn (X ++ L) := by
  induction X with
  | nil => exact h
  | cons _ _ ih => exact ih.cons
set_option maxRecDepth 100000 in
set_option maxHeartbeats 3200000 in
theorem round_spec {s : Ln} (hC : 1 ≤ C.length ∧ C.length ≤ 40960) (hs : s.ok C) (hcr : Rd L CA (bv C)) (hf : FormsIn L) (h : Sat w0 (LineP b C CA cc (s.sd C) (s.rc C) ps qs :: L) w) :
    Calls Tryd.prog 30 #[.pointer (some ⟨b, 0, none⟩)] w fun e w' => e = .returned (.bool true) ∧ Sat w0 (LineP b C CA cc ((s.all C (due s.a s.a.length)).sd C) ((s.all C (due s.a s.a.length)).rc C) ps qs :: L) w' := by
  obtain ⟨sb, rb, A, c, B, d, h⟩ := LineP.open_ h
  have HC := Lib.hid hC
  obtain ⟨D, hD⟩ : ∃ D, due s.a s.a.length = D := ⟨_, rfl⟩
  have hdn : ∀ i, i ∈ D → i < np C := fun i hi => Ln.due_np hs (by rw [hD]; exact hi)
  have hd8 : D.length ≤ 8 := by rw [← hD]; exact due_le _ _
  have htk : (s.sd C).tick = D.map fun i => (pkC C i).bytes := by rw [← hD]; rfl
  rw [hD]
  have HT := Lib.hid htk
  clear htk hD
  go_enter Tryd.func30, Tryd.ntmps30
  go_wp2_with (first | (go_at_call 33; refine (Tick_spec (Sat.pull (by assumption) (by (with_reducible repeat first | exact pH | apply pT)))).mono ?_; rintro _ _ ⟨TA, tc, tp, htp, rfl, h1⟩; rw [HT.out] at htp) | ((with_reducible refine wpl_off ?_ ?_); exact rfl; (try simp only [Act.put, zqa, zqb, zqc, zqd, zqe])) | ((with_reducible apply wpl_load Tryd.isAgg29); exact rfl; exact rfl; assumption; (with_reducible repeat first | exact pH | apply pT); ((try simp only [zqf, zqg, zqh]) <;> exact rfl); (try simp only [Act.put, zqa, zqb, zqc, zqd, zqe])) | ((with_reducible apply wpl_load_rd Tryd.isAgg29); exact rfl; exact rfl; assumption; (first | assumption | (apply Rd.own; focus ((with_reducible repeat first | exact pH | apply pT); done)) | (focus ((repeat first | assumption | with_reducible apply Rd.cons); done)) | with_reducible exact Rd.nil); (first | assumption | exact rfl); (try simp only [Act.put, zqa, zqb, zqc, zqd, zqe])))
  have htl0 : tp.length = D.length := by simpa using congrArg List.length htp
  have htl : tp.length ≤ D.length ∧ D.length ≤ tp.length := ⟨Nat.le_of_eq htl0, Nat.le_of_eq htl0.symm⟩
  clear htl0
  have HTP := Lib.hid htp
  clear htp
  go_loopw [4] (fun i wr => ∃ k : Nat, k ≤ tp.length ∧ i = .int .i64 (k : Int) ∧ Sat w0 (blk b (.cells #[.pointer (some ⟨sb, 0, none⟩), .pointer (some ⟨rb, 0, none⟩), .slice CA C.length cc, .slice A ps.length c, .slice B qs.length d] 54) :: SenderP sb ((s.all C (D.take k)).sd C) :: RcvP rb ((s.all C (D.take k)).rc C) :: own 37 1 TA tp.length tc (pcV tp) :: pcP tp :: own 37 1 A ps.length c (pcV ps) :: pcP ps :: own 37 1 B qs.length d (pcV qs) :: pcP qs :: L) wr) (fun i _ => tp.length - (intOf i).toNat)
  case atStart => exact ⟨0, by omega, rfl, by rw [List.take_zero, Ln.all_nil]; exact Sat.sub h1 (by (with_reducible repeat first | exact pH | exact Sub.refl _ | exact Sub.nil | apply pT | apply Sub.cons | apply Sub.skip))⟩
  case round =>
    obtain ⟨k, hk, rfl, h⟩ := hrel
    have hok := Ln.all_ok (D.take k) hs
    have hq : ∀ n, tp.length = n → n ≤ 8 := fun n hn => by omega
    by_cases hlt : k < tp.length
    · have hkD : k < D.length := by omega
      have hi : D[k] < np C := hdn _ (List.getElem_mem hkD)
      have hxl : tp[k].l = some (pkC C D[k]).bytes := by
        have := pc_get HTP.out hlt
        rw [this]; simp
      obtain ⟨i, hieq⟩ : ∃ i, D[k] = i := ⟨_, rfl⟩
      rw [hieq] at hi hxl
      have hnext : s.all C (D.take (k + 1)) = (s.all C (D.take k)).deliver C i := by
        rw [take_get _ _ hkD, hieq, Ln.all_snoc]
      generalize s.all C (D.take k) = t at hok hnext h
      have HN := Lib.hid hnext
      have hr2 : (t.rc C).take (pkC C i).bytes = ((t.deliver C i).rc C, (rcOf C (upd t.g i)).ack.bytes, 0) := Ln.part_rc HC.out hok hi
      have HR := Lib.hid hr2
      have hs2 : (t.sd C).take (rcOf C (upd t.g i)).ack.bytes = ((t.deliver C i).sd C, 0) := Ln.ack_sd HC.out (t.part i) (upd t.g i)
      have HS := Lib.hid hs2
      clear hr2 hs2
      obtain ⟨a0, q0, hq0, hv, hR, hRa⟩ := row_at (Sat.perm h (Pull.perm (.there (.there (.there .here))) |>.trans (.cons _ (Pull.perm (.there (.there (.there .here))))))) hlt hxl (pk_len1 C i)
      have hpl := pk_len C i
      have hkI : (k : Int) < tp.length := by omega
      clear hnext hieq
      go_wp2_with (first | ((with_reducible refine wpl_off ?_ ?_); exact rfl; (try simp only [Act.put, zqa, zqb, zqc, zqd, zqe])) | ((with_reducible apply wpl_load Tryd.isAgg29); exact rfl; exact rfl; assumption; (with_reducible repeat first | exact pH | apply pT); ((try simp only [zqf, zqg, zqh]) <;> exact rfl); (try simp only [Act.put, zqa, zqb, zqc, zqd, zqe])) | ((with_reducible apply wpl_load_rd Tryd.isAgg29); exact rfl; exact rfl; assumption; (first | assumption | (apply Rd.own; focus ((with_reducible repeat first | exact pH | apply pT); done)) | (focus ((repeat first | assumption | with_reducible apply Rd.cons); done)) | with_reducible exact Rd.nil); (first | assumption | exact rfl); (try simp only [Act.put, zqa, zqb, zqc, zqd, zqe])))
      first | ((with_reducible refine wpl_off ?_ ?_); exact rfl; (try simp only [Act.put, zqa, zqb, zqc, zqd, zqe])) | (go_at_call 35; refine (RTake_spec (s := t.rc C) (l := (pkC C i).bytes) rfl (by omega) (Sat.pull (by assumption) (by (with_reducible repeat first | exact pH | apply pT))) (by repeat (first | exact hRa _ | apply Rd.cons)) (by repeat (first | exact hf.1 | apply Rd.cons))).mono ?_; rintro _ _ ⟨B5, d5, he, h6⟩; rw [HR.out] at he h6; simp only [ack_len] at he h6; subst he) | ((with_reducible apply (wp_draw 5 14 [blk b (.cells #[.pointer (some ⟨sb, 0, none⟩), .pointer (some ⟨rb, 0, none⟩), .slice CA C.length cc, .slice A ps.length c, .slice B qs.length d] 54), own 37 1 TA tp.length tc (pcV tp)] (by kernel_rfl))); exact rfl; assumption; (with_reducible repeat first | exact pH | exact Sub.refl _ | exact Sub.nil | apply pT | apply Sub.cons | apply Sub.skip); intro _ _ _; ((apply (take_value (k := 0) rfl (by kernel_rfl) (by kernel_rfl) (by kernel_rfl) (fun _ _ _ => id))); exact rfl; assumption; (apply q_move; ((conv => lhs; whnf) <;> exact rfl)); (try simp only [Act.put, zqa, zqb, zqc, zqd, zqe])); ((apply (take_value (k := 1) rfl (by kernel_rfl) (by kernel_rfl) (by kernel_rfl) (fun _ _ _ => id))); exact rfl; assumption; (exact q_nilCheck rfl); (try simp only [Act.put, zqa, zqb, zqc, zqd, zqe])); ((apply (take_value (k := 2) rfl (by kernel_rfl) (by kernel_rfl) (by kernel_rfl) (fun _ _ _ => id))); exact rfl; assumption; (intro _ _; go_simp; (try exact rfl)); (try simp only [Act.put, zqa, zqb, zqc, zqd, zqe])); ((apply (take_value (k := 3) rfl (by kernel_rfl) (by kernel_rfl) (by kernel_rfl) (fun _ _ _ => id))); exact rfl; assumption; (first | (apply (q_load Tryd.isAgg25); exact rfl; (with_reducible repeat first | exact pH | apply pT); ((try simp only [zqf, zqg, zqh]) <;> exact rfl)) | (apply (q_load_rd Tryd.isAgg25); exact rfl; (first | assumption | (apply Rd.own; focus ((with_reducible repeat first | exact pH | apply pT); done)) | (focus ((repeat first | assumption | with_reducible apply Rd.cons); done)) | with_reducible exact Rd.nil); (first | assumption | exact rfl)) | (apply (q_load_at Tryd.isAgg25); exact rfl; (first | assumption | (apply Rd.own; focus ((with_reducible repeat first | exact pH | apply pT); done)) | (focus ((repeat first | assumption | with_reducible apply Rd.cons); done)) | with_reducible exact Rd.nil))); (try simp only [Act.put, zqa, zqb, zqc, zqd, zqe])); ((apply (take_value (k := 4) rfl (by kernel_rfl) (by kernel_rfl) (by kernel_rfl) (fun _ _ _ => id))); exact rfl; assumption; (apply q_move; ((conv => lhs; whnf) <;> exact rfl)); (try simp only [Act.put, zqa, zqb, zqc, zqd, zqe])); ((apply (take_value (k := 5) rfl (by kernel_rfl) (by kernel_rfl) (by kernel_rfl) (fun _ _ _ => id))); exact rfl; assumption; (apply q_move; ((conv => lhs; whnf) <;> exact rfl)); (try simp only [Act.put, zqa, zqb, zqc, zqd, zqe])); ((apply (take_value (k := 6) rfl (by kernel_rfl) (by kernel_rfl) (by kernel_rfl) (fun _ _ _ => id))); exact rfl; assumption; (apply (q_index sl33); exact rfl; exact rfl; (first | assumption | (apply Rd.own; focus ((with_reducible repeat first | exact pH | apply pT); done)) | (focus ((repeat first | assumption | with_reducible apply Rd.cons); done)) | with_reducible exact Rd.nil); omega; omega; (first | assumption | (simp only [bv_length]; omega) | (simp only [iv_length, List.length_append, List.length_singleton]; omega) | (simp <;> omega))); (try simp only [Act.put, zqa, zqb, zqc, zqd, zqe])); ((apply (take_value (k := 7) rfl (by kernel_rfl) (by kernel_rfl) (by kernel_rfl) (fun _ _ _ => id))); exact rfl; assumption; (first | (apply (q_load Tryd.isAgg37); exact rfl; (with_reducible repeat first | exact pH | apply pT); ((try simp only [zqf, zqg, zqh]) <;> exact rfl)) | (apply (q_load_rd Tryd.isAgg37); exact rfl; (first | assumption | (apply Rd.own; focus ((with_reducible repeat first | exact pH | apply pT); done)) | (focus ((repeat first | assumption | with_reducible apply Rd.cons); done)) | with_reducible exact Rd.nil); (first | assumption | exact rfl)) | (apply (q_load_at Tryd.isAgg37); exact rfl; (first | assumption | (apply Rd.own; focus ((with_reducible repeat first | exact pH | apply pT); done)) | (focus ((repeat first | assumption | with_reducible apply Rd.cons); done)) | with_reducible exact Rd.nil))); (try simp only [Act.put, zqa, zqb, zqc, zqd, zqe])); (apply (take_active (k := 8) (by kernel_rfl) rfl)); ((apply (wpl_call Tryd.call35)); exact rfl; (simp only [List.map_toArray, List.map_cons, List.map_nil]; exact rfl); refine (RTake_spec (s := t.rc C) (l := (pkC C i).bytes) rfl (by omega) (Sat.pull (by assumption) (by (with_reducible repeat first | exact pH | apply pT))) (by repeat (first | exact hRa _ | apply Rd.cons)) (by repeat (first | exact hf.1 | apply Rd.cons))).mono ?_; rintro _ _ ⟨B5, d5, he, h6⟩; rw [HR.out] at he h6; simp only [ack_len] at he h6; subst he; (refine ⟨_, rfl, ?_⟩); (try simp only [Act.put, zqa, zqb, zqc, zqd, zqe])); (refine KQ_nil ⟨Sat.sub (by assumption) ?_⟩ ?_); (with_reducible repeat first | exact pH | exact Sub.refl _ | exact Sub.nil | apply pT | apply Sub.cons | apply Sub.skip); intro _; (try simp only [Act.put, zqa, zqb, zqc, zqd, zqe]); ((apply (take_value (k := 9) rfl (by kernel_rfl) (by kernel_rfl) (by kernel_rfl) (fun _ _ _ => id))); exact rfl; assumption; (apply q_move; ((conv => lhs; whnf) <;> exact rfl)); (try simp only [Act.put, zqa, zqb, zqc, zqd, zqe])); ((apply (take_value (k := 10) rfl (by kernel_rfl) (by kernel_rfl) (by kernel_rfl) (fun _ _ _ => id))); exact rfl; assumption; (intro _ _; go_simp; (try exact rfl)); (try simp only [Act.put, zqa, zqb, zqc, zqd, zqe])); ((apply (take_value (k := 11) rfl (by kernel_rfl) (by kernel_rfl) (by kernel_rfl) (fun _ _ _ => id))); exact rfl; assumption; (intro _ _; go_simp; (try exact rfl)); (try simp only [Act.put, zqa, zqb, zqc, zqd, zqe])); ((apply (take_value (k := 12) rfl (by kernel_rfl) (by kernel_rfl) (by kernel_rfl) (fun _ _ _ => id))); exact rfl; assumption; (apply q_assign; ((conv => lhs; whnf) <;> exact rfl)); (try simp only [Act.put, zqa, zqb, zqc, zqd, zqe])); ((apply (take_value (k := 13) rfl (by kernel_rfl) (by kernel_rfl) (by kernel_rfl) (fun _ _ _ => id))); exact rfl; assumption; (apply q_assign; ((conv => lhs; whnf) <;> exact rfl)); (try simp only [Act.put, zqa, zqb, zqc, zqd, zqe])); (refine take_done (by kernel_rfl) ?_))
      go_wp2_with (first | (go_at_call 69; refine (STake_spec (s := t.sd C) (l := (rcOf C (upd t.g i)).ack.bytes) (ack_len _).symm (by rw [ack_len]; decide) (Sat.pull h6 (by (with_reducible repeat first | exact pH | apply pT))) (Rd.own (by (with_reducible repeat first | exact pH | apply pT))) (by repeat (first | exact hf.2 | apply Rd.cons))).mono ?_; rintro _ _ ⟨he, h8⟩; rw [HS.out] at he h8; subst he) | ((with_reducible refine wpl_off ?_ ?_); exact rfl; (try simp only [Act.put, zqa, zqb, zqc, zqd, zqe])) | ((with_reducible apply wpl_load Tryd.isAgg29); exact rfl; exact rfl; assumption; (with_reducible repeat first | exact pH | apply pT); ((try simp only [zqf, zqg, zqh]) <;> exact rfl); (try simp only [Act.put, zqa, zqb, zqc, zqd, zqe])) | ((with_reducible apply wpl_load_rd Tryd.isAgg29); exact rfl; exact rfl; assumption; (first | assumption | (apply Rd.own; focus ((with_reducible repeat first | exact pH | apply pT); done)) | (focus ((repeat first | assumption | with_reducible apply Rd.cons); done)) | with_reducible exact Rd.nil); (first | assumption | exact rfl); (try simp only [Act.put, zqa, zqb, zqc, zqd, zqe])))
      go_roundw
      case rel =>
        refine ⟨k + 1, by omega, by go_num, ?_⟩
        rw [HN.out]
        refine Sat.sub h8 ?_
        (with_reducible repeat first | exact pH | exact Sub.refl _ | exact Sub.nil | apply pT | apply Sub.cons | apply Sub.skip)
      case measure => simp [intOf]; omega
    · obtain rfl : k = tp.length := by omega
      rw [List.take_of_length_le (by omega)] at h
      have h3 := Ln.t3 HC.out.1 (Ln.all_ok D hs)
      go_wp2_with (first | (go_at_call 27; refine (true3_spec HC.out h3 hcr (LineP.shut (Sat.sub h (by (with_reducible repeat first | exact pH | exact Sub.refl _ | exact Sub.nil | apply pT | apply Sub.cons | apply Sub.skip))))).mono ?_; rintro _ _ ⟨rfl, h4⟩) | ((with_reducible refine wpl_off ?_ ?_); exact rfl; (try simp only [Act.put, zqa, zqb, zqc, zqd, zqe])) | ((with_reducible apply wpl_load Tryd.isAgg29); exact rfl; exact rfl; assumption; (with_reducible repeat first | exact pH | apply pT); ((try simp only [zqf, zqg, zqh]) <;> exact rfl); (try simp only [Act.put, zqa, zqb, zqc, zqd, zqe])) | ((with_reducible apply wpl_load_rd Tryd.isAgg29); exact rfl; exact rfl; assumption; (first | assumption | (apply Rd.own; focus ((with_reducible repeat first | exact pH | apply pT); done)) | (focus ((repeat first | assumption | with_reducible apply Rd.cons); done)) | with_reducible exact Rd.nil); (first | assumption | exact rfl); (try simp only [Act.put, zqa, zqb, zqc, zqd, zqe])))
      go_ret
      exact ⟨rfl, h4⟩
end
end Go.Proofs.YtgobibgpkcdmdaaDoor
