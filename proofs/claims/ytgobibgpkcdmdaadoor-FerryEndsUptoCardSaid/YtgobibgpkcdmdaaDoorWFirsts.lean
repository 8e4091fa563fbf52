/- The walks of law 22's line: firsts. -/
import Derived.Test.YtgobibgpkcdmdaaDoorWRound
set_option linter.all false
namespace Go.Proofs.YtgobibgpkcdmdaaDoor
open Go Go.RowKit
attribute [local irreducible] Calls
/-- The line on which the first m parts have come and are acknowledged. -/
def pre (C : List UInt8) (m : Nat) : Ln := ⟨(List.range (np C)).map fun i => decide (i < m), fun i => decide (i < m), decide (0 < m)⟩
theorem pre_ok (C : List UInt8) (m : Nat) : (pre C m).ok C := by
  refine ⟨by simp [pre], fun i hi => ?_, fun hb i => ?_⟩
  · simp only [pre, List.getElem?_map] at hi
    by_cases h : i < np C
    · rw [List.getElem?_range h] at hi
      exact Option.some.inj hi
    · rw [List.getElem?_eq_none (by simp; omega)] at hi
      cases hi
  · simp only [pre, decide_eq_false_iff_not] at hb ⊢
    omega
theorem pre_left (C : List UInt8) {m : Nat} (hm : m ≤ np C) : ((pre C m).sd C).left = np C - m := by
  show ((List.range (np C)).map fun i => decide (i < m)).count false = _
  obtain ⟨d, hd⟩ : ∃ d, np C = m + d := ⟨np C - m, by omega⟩
  rw [hd, List.range_add, List.map_append, List.count_append, List.map_map]
  have e1 : ((List.range m).map fun i => decide (i < m)).count false = 0 := by
    rw [List.count_eq_zero]
    intro h
    obtain ⟨i, hi, he⟩ := List.mem_map.1 h
    have := List.mem_range.1 hi
    simp at he; omega
  have e2 : ((List.range d).map ((fun i => decide (i < m)) ∘ fun x => m + x)) = List.replicate d false := by
    rw [List.map_congr_left (g := fun _ => false) (by intro i _; simp), List.map_const', List.length_range]
  rw [e1, e2, List.count_replicate]
  simp
theorem pre_deliver {C : List UInt8} {k : Nat} (hk : k < np C) : (pre C k).deliver C k = pre C (k + 1) := by
  have hg : upd (pre C k).g k = (pre C (k + 1)).g := by
    funext j
    simp only [upd, pre]
    by_cases h : j = k
    · subst h; simp
    · rw [if_neg h, decide_eq_decide]; omega
  unfold Ln.deliver Ln.part Ln.ack
  simp only [hg]
  have hb : (pre C (k + 1)).b = true := by simp [pre]
  have hl : (pre C k).a.length = np C := (pre_ok C k).len
  have ha : ackTo (rcOf C (pre C (k + 1)).g).ack (pre C k).a (pre C k).a.length = (pre C (k + 1)).a := by
    refine List.ext_getElem? fun i => ?_
    by_cases hi : i < np C
    · rw [ackTo_get _ _ _ (by rw [hl]; exact hi)]
      have e1 : (pre C k).a[i]'(by rw [hl]; exact hi) = decide (i < k) := by simp [pre]
      have e2 : (pre C (k + 1)).a[i]? = some (decide (i < k + 1)) := by simp [pre, List.getElem?_range hi]
      rw [e1, e2]
      congr 1
      rw [Bool.eq_iff_iff, Bool.or_eq_true]
      simp only [decide_eq_true_eq]
      constructor
      · rintro (h | h)
        · omega
        · have := ack_got hi h
          simpa [pre] using this
      · intro h
        exact .inr (ack_names hi fun j hj => by simp [pre]; omega)
    · rw [List.getElem?_eq_none (by rw [ackTo_length, hl]; omega), List.getElem?_eq_none (by rw [(pre_ok C (k + 1)).len]; omega)]
  rw [ha, ← hb]
theorem due_pre (C : List UInt8) (m : Nat) : ∀ k, k ≤ np C → due (pre C m).a k = if k ≤ m then [] else List.range' m (min 8 (k - m)) := by
  intro k
  induction k with
  | zero => intro _; simp [due]
  | succ k ih =>
    intro hk
    have ih := ih (by omega)
    have e : (pre C m).a[k]? = some (decide (k < m)) := by simp [pre, List.getElem?_range (show k < np C by omega)]
    unfold due
    rw [e, ih]
    by_cases h1 : k < m
    · rw [if_pos (show k ≤ m by omega), if_neg (by simp [h1]), if_pos (show k + 1 ≤ m by omega)]
    · rw [if_neg (show ¬ k + 1 ≤ m by omega)]
      by_cases h2 : k = m
      · subst h2
        simp
      · rw [if_neg (show ¬ k ≤ m by omega)]
        by_cases h8 : k - m < 8
        · rw [if_pos (by simp [h1]; omega), show min 8 (k - m) = k - m by omega, show min 8 (k + 1 - m) = (k - m) + 1 by omega, List.range'_concat]
          congr 2
          omega
        · rw [if_neg (by simp; omega), show min 8 (k - m) = 8 by omega, show min 8 (k + 1 - m) = 8 by omega]
theorem due_pre2 {C : List UInt8} {m : Nat} (hm : m ≤ np C) : due (pre C m).a (pre C m).a.length = List.range' m (min 8 (np C - m)) := by
  rw [(pre_ok C m).len, due_pre C m _ (Nat.le_refl _)]
  split
  · rw [show np C - m = 0 by omega]; rfl
  · rfl
theorem all_pre {C : List UInt8} : ∀ (d m : Nat), m + d ≤ np C → (pre C m).all C (List.range' m d) = pre C (m + d) := by
  intro d
  induction d with
  | zero => intro m _; rfl
  | succ d ih =>
    intro m hm
    rw [List.range'_succ]
    show ((pre C m).deliver C m).all C _ = _
    rw [pre_deliver (by omega), ih (m + 1) (by omega)]
    congr 1; omega
theorem round_pre {C : List UInt8} {m : Nat} (hm : m ≤ np C) : (pre C m).all C (due (pre C m).a (pre C m).a.length) = pre C (m + min 8 (np C - m)) := by
  rw [due_pre2 hm, all_pre _ _ (by omega)]
theorem tick_pre {C : List UInt8} {m : Nat} (hm : m ≤ np C) : ((pre C m).sd C).tick = (List.range' m (min 8 (np C - m))).map fun i => (pkC C i).bytes := by
  rw [← due_pre2 hm]; rfl
section
variable {w0 w : World} {L L' : List SProp}
variable {b cc : Nat} {C : List UInt8} {CA : Option Addr} {ps qs : List Pc}
theorem pcP_append {ps qs : List Pc} (h : Sat w0 (pcP ps :: pcP qs :: L) w) : Sat w0 (pcP (ps ++ qs) :: L) w := by
  refine Sat.star_iff.2 ?_
  have h2 := Sat.star_iff.1 (Sat.perm (Sat.star_iff.1 h) List.perm_middle)
  rw [List.map_append]
  refine h2.perm ?_
  rw [← List.append_assoc]
  exact List.perm_append_comm.append_right L
theorem pcV_append (ps qs : List Pc) : pcV (ps ++ qs) = pcV ps ++ pcV qs := by simp [pcV]
set_option maxRecDepth 100000 in
set_option maxHeartbeats 3200000 in
theorem firsts_spec (hC : 1 ≤ C.length ∧ C.length ≤ 40960) (hcr : Rd L CA (bv C)) (hf : FormsIn L) (h : Sat w0 L w) :
    Calls Tryd.prog 34 #[.slice CA C.length cc] w fun e w' => ∃ A c ps, ps.map Pc.l = (List.range (np C)).map (fun i => some (pkC C i).bytes) ∧ e = .returned (.slice A ps.length c) ∧ Sat w0 (own 37 1 A ps.length c (pcV ps) :: pcP ps :: L) w' := by
  have HC := Lib.hid hC
  have hnp : 1 ≤ np C ∧ np C ≤ 640 := by unfold np; omega
  obtain ⟨q, hq⟩ : ∃ q, np C = q := ⟨_, rfl⟩
  rw [hq] at hnp ⊢
  have HQ := Lib.hid hq
  clear hC hq
  go_enter Tryd.func34, Tryd.ntmps34
  go_wp2_with (first | (go_at_call 26; refine (line_ok HC.out hcr (by assumption)).mono ?_; rintro _ _ ⟨b, rfl, h1⟩; obtain ⟨sb, rb, A1, c1, B1, d1, h2⟩ := LineP.open_ h1) | (go_at_call 29; refine (SLeft_spec (Sat.pull h2 (by (with_reducible repeat first | exact pH | apply pT)))).mono ?_; rintro _ _ ⟨rfl, h3⟩) | ((with_reducible refine wpl_off ?_ ?_); exact rfl; (try simp only [Act.put, zqa, zqb, zqc, zqd, zqe])) | ((with_reducible apply wpl_load Tryd.isAgg29); exact rfl; exact rfl; assumption; (with_reducible repeat first | exact pH | apply pT); ((try simp only [zqf, zqg, zqh]) <;> exact rfl); (try simp only [Act.put, zqa, zqb, zqc, zqd, zqe])) | ((with_reducible apply wpl_load_rd Tryd.isAgg29); exact rfl; exact rfl; assumption; (first | assumption | (apply Rd.own; focus ((with_reducible repeat first | exact pH | apply pT); done)) | (focus ((repeat first | assumption | with_reducible apply Rd.cons); done)) | with_reducible exact Rd.nil); (first | assumption | exact rfl); (try simp only [Act.put, zqa, zqb, zqc, zqd, zqe])) | ((with_reducible apply wpl_append_nil sl33); exact rfl; exact rfl; exact rfl; assumption; (first | assumption | (apply Rd.own; focus ((with_reducible repeat first | exact pH | apply pT); done)) | (focus ((repeat first | assumption | with_reducible apply Rd.cons); done)) | with_reducible exact Rd.nil); (first | rfl | assumption | (simp <;> done) | (simp <;> omega)); (first | exact bv_one _ | exact iv_one _ | exact pcV_one _ | assumption | (simp [Value.oneCell'] <;> done)); (first | omega | (simp <;> omega)); (show _ ≤ 9223372036854775807; omega); intro _ _ _ _; (try simp only [Act.put, zqa, zqb, zqc, zqd, zqe])) | ((with_reducible apply wpl_append sl33); exact rfl; exact rfl; exact rfl; assumption; (with_reducible repeat first | exact pH | apply pT); (first | assumption | (apply Rd.own; focus ((with_reducible repeat first | exact pH | apply pT); done)) | (focus ((repeat first | assumption | with_reducible apply Rd.cons); done)) | with_reducible exact Rd.nil); (first | rfl | assumption | (simp <;> done) | (simp <;> omega)); (first | exact bv_one _ | exact iv_one _ | exact pcV_one _ | assumption | (simp [Value.oneCell'] <;> done)); (first | omega | (simp <;> omega)); (show _ ≤ 9223372036854775807; omega); intro _ _ _ _; (try simp only [Act.put, zqa, zqb, zqc, zqd, zqe])))
  have e0 : (⟨C, List.replicate (np C) false⟩ : Sd) = (pre C 0).sd C := by
    show (⟨C, _⟩ : Sd) = ⟨C, _⟩
    congr 1
    simp only [pre, Nat.not_lt_zero, decide_false, List.map_const', List.length_range]
  have e1 : Rc.fresh = (pre C 0).rc C := rfl
  have hl0 : (⟨C, List.replicate (np C) false⟩ : Sd).left = q := by rw [e0, pre_left C (Nat.zero_le _), HQ.out]; omega
  rw [hl0]
  rw [e0, e1] at h3
  have h4 : Sat w0 (LineP b C CA cc ((pre C 0).sd C) ((pre C 0).rc C) [] [] :: L) _ := LineP.shut (Sat.sub h3 (by (with_reducible repeat first | exact pH | exact Sub.refl _ | exact Sub.nil | apply pT | apply Sub.cons | apply Sub.skip)))
  clear h1 h2 h3 hl0 e0 e1
  go_loopw [4, 5] (fun o l wr => ∃ m : Nat, m ≤ q ∧ l = .int .i64 ((q : Int) - m) ∧ ∃ A c ps, o = .slice A ps.length c ∧ ps.map Pc.l = (List.range m).map (fun i => some (pkC C i).bytes) ∧ Sat w0 (own 37 1 A ps.length c (pcV ps) :: pcP ps :: LineP b C CA cc ((pre C m).sd C) ((pre C m).rc C) [] [] :: L) wr) (fun _ l _ => (intOf l).toNat)
  case atStart => exact ⟨0, by omega, by simp, none, 0, [], rfl, rfl, own_nil (pcP_nil h4)⟩
  case round =>
    obtain ⟨m, hm, rfl, A, c, ps, rfl, hps, h⟩ := hrel
    have hpl : ps.length ≤ m ∧ m ≤ ps.length := by have : ps.length = m := by simpa using congrArg List.length hps
                                                   exact ⟨Nat.le_of_eq this, Nat.le_of_eq this.symm⟩
    have HPS := Lib.hid hps
    clear hps
    by_cases hlt : m < q
    · obtain ⟨n, hn⟩ : ∃ n, m + min 8 (q - m) = n := ⟨_, rfl⟩
      have hmn : m < n ∧ n ≤ q ∧ n ≤ m + 8 := by omega
      have hR := round_pre (C := C) (m := m) (by rw [HQ.out]; exact hm)
      have hT := tick_pre (C := C) (m := m) (by rw [HQ.out]; exact hm)
      rw [HQ.out, hn] at hR
      rw [HQ.out, show min 8 (q - m) = n - m by omega] at hT
      have hL := pre_left C (m := n) (by rw [HQ.out]; exact hmn.2.1)
      rw [HQ.out] at hL
      have HR := Lib.hid hR
      have HT := Lib.hid hT
      have HL := Lib.hid hL
      clear hR hT hL hn
      obtain ⟨sb, rb, A1, c1, B1, d1, h2⟩ := LineP.open_ (Sat.pull h (.there (.there .here)))
      have hgt : (0 : Int) < (q : Int) - m := by omega
      have hge : ¬ (q : Int) - m ≤ ((q - n : Nat) : Int) := by omega
      go_wp2_with (first | (go_at_call 33; refine (Tick_spec (Sat.pull h2 (by (with_reducible repeat first | exact pH | apply pT)))).mono ?_; rintro _ _ ⟨TA, tc, tp, htp, rfl, h3⟩; rw [HT.out] at htp; have htl : tp.length ≤ 8 := (by have := congrArg List.length htp; simp at this; omega); have HTP := Lib.hid htp; clear htp) | (go_at_call 30; refine (round_spec HC.out (pre_ok C m) (L := own 37 1 _ (ps.length + tp.length) _ (pcV ps ++ pcV tp) :: pcP tp :: pcP ps :: L) (by repeat (first | exact hcr | apply Rd.cons)) (by repeat (first | exact hf | apply FormsIn.cons)) (LineP.shut (ps := []) (qs := []) (Sat.sub (by assumption) (by (with_reducible repeat first | exact pH | exact Sub.refl _ | exact Sub.nil | apply pT | apply Sub.cons | apply Sub.skip))))).mono ?_; rintro _ _ ⟨rfl, h5⟩; rw [HR.out] at h5; obtain ⟨sb2, rb2, A2, c2, B2, d2, h6⟩ := LineP.open_ h5; clear h5) | (go_at_call 29; refine (SLeft_spec (Sat.pull (by assumption) (by (with_reducible repeat first | exact pH | apply pT)))).mono ?_; rintro _ _ ⟨he, h7⟩; rw [HL.out] at he; subst he) | ((with_reducible refine wpl_off ?_ ?_); exact rfl; (try simp only [Act.put, zqa, zqb, zqc, zqd, zqe])) | ((with_reducible apply wpl_load Tryd.isAgg29); exact rfl; exact rfl; assumption; (with_reducible repeat first | exact pH | apply pT); ((try simp only [zqf, zqg, zqh]) <;> exact rfl); (try simp only [Act.put, zqa, zqb, zqc, zqd, zqe])) | ((with_reducible apply wpl_load_rd Tryd.isAgg29); exact rfl; exact rfl; assumption; (first | assumption | (apply Rd.own; focus ((with_reducible repeat first | exact pH | apply pT); done)) | (focus ((repeat first | assumption | with_reducible apply Rd.cons); done)) | with_reducible exact Rd.nil); (first | assumption | exact rfl); (try simp only [Act.put, zqa, zqb, zqc, zqd, zqe])) | ((with_reducible apply wpl_append_nil sl33); exact rfl; exact rfl; exact rfl; assumption; (first | assumption | (apply Rd.own; focus ((with_reducible repeat first | exact pH | apply pT); done)) | (focus ((repeat first | assumption | with_reducible apply Rd.cons); done)) | with_reducible exact Rd.nil); (first | rfl | assumption | (simp <;> done) | (simp <;> omega)); (first | exact bv_one _ | exact iv_one _ | exact pcV_one _ | assumption | (simp [Value.oneCell'] <;> done)); (first | omega | (simp <;> omega)); (show _ ≤ 9223372036854775807; omega); intro _ _ _ _; (try simp only [Act.put, zqa, zqb, zqc, zqd, zqe])) | ((with_reducible apply wpl_append sl33); exact rfl; exact rfl; exact rfl; assumption; (with_reducible repeat first | exact pH | apply pT); (first | assumption | (apply Rd.own; focus ((with_reducible repeat first | exact pH | apply pT); done)) | (focus ((repeat first | assumption | with_reducible apply Rd.cons); done)) | with_reducible exact Rd.nil); (first | rfl | assumption | (simp <;> done) | (simp <;> omega)); (first | exact bv_one _ | exact iv_one _ | exact pcV_one _ | assumption | (simp [Value.oneCell'] <;> done)); (first | omega | (simp <;> omega)); (show _ ≤ 9223372036854775807; omega); intro _ _ _ _; (try simp only [Act.put, zqa, zqb, zqc, zqd, zqe])))
      go_roundw
      case rel =>
        refine ⟨n, by omega, ?_, Exists.intro ?zA (Exists.intro ?zc ⟨ps ++ tp, ?zv, ?zl, ?zs⟩)⟩
        case zv => rw [List.length_append]
        case zl =>
          rw [List.map_append, HPS.out, HTP.out, List.map_map, show n = m + (n - m) by omega, List.range_add, List.map_append, Nat.add_sub_cancel_left, List.map_map, List.range'_eq_map_range, List.map_map]
          rfl
        case zs =>
          rw [List.length_append, pcV_append]
          refine Sat.swap (pcP_append ?_)
          have h8 : Sat w0 (LineP b C CA cc ((pre C n).sd C) ((pre C n).rc C) [] [] :: pcP ps :: pcP tp :: own 37 1 _ (ps.length + tp.length) _ (pcV ps ++ pcV tp) :: L) _ := LineP.shut (Sat.sub (by assumption) (by (with_reducible repeat first | exact pH | exact Sub.refl _ | exact Sub.nil | apply pT | apply Sub.cons | apply Sub.skip)))
          refine Sat.sub h8 ?_
          (with_reducible repeat first | exact pH | exact Sub.refl _ | exact Sub.nil | apply pT | apply Sub.cons | apply Sub.skip)
        · go_num
      case measure => simp [intOf]; omega
    · obtain rfl : m = q := by omega
      have hgt : ¬ (0 : Int) < (m : Int) - m := by omega
      go_wp2_with (first | ((with_reducible refine wpl_off ?_ ?_); exact rfl; (try simp only [Act.put, zqa, zqb, zqc, zqd, zqe])) | ((with_reducible apply wpl_load Tryd.isAgg29); exact rfl; exact rfl; assumption; (with_reducible repeat first | exact pH | apply pT); ((try simp only [zqf, zqg, zqh]) <;> exact rfl); (try simp only [Act.put, zqa, zqb, zqc, zqd, zqe])) | ((with_reducible apply wpl_load_rd Tryd.isAgg29); exact rfl; exact rfl; assumption; (first | assumption | (apply Rd.own; focus ((with_reducible repeat first | exact pH | apply pT); done)) | (focus ((repeat first | assumption | with_reducible apply Rd.cons); done)) | with_reducible exact Rd.nil); (first | assumption | exact rfl); (try simp only [Act.put, zqa, zqb, zqc, zqd, zqe])) | ((with_reducible apply wpl_append_nil sl33); exact rfl; exact rfl; exact rfl; assumption; (first | assumption | (apply Rd.own; focus ((with_reducible repeat first | exact pH | apply pT); done)) | (focus ((repeat first | assumption | with_reducible apply Rd.cons); done)) | with_reducible exact Rd.nil); (first | rfl | assumption | (simp <;> done) | (simp <;> omega)); (first | exact bv_one _ | exact iv_one _ | exact pcV_one _ | assumption | (simp [Value.oneCell'] <;> done)); (first | omega | (simp <;> omega)); (show _ ≤ 9223372036854775807; omega); intro _ _ _ _; (try simp only [Act.put, zqa, zqb, zqc, zqd, zqe])) | ((with_reducible apply wpl_append sl33); exact rfl; exact rfl; exact rfl; assumption; (with_reducible repeat first | exact pH | apply pT); (first | assumption | (apply Rd.own; focus ((with_reducible repeat first | exact pH | apply pT); done)) | (focus ((repeat first | assumption | with_reducible apply Rd.cons); done)) | with_reducible exact Rd.nil); (first | rfl | assumption | (simp <;> done) | (simp <;> omega)); (first | exact bv_one _ | exact iv_one _ | exact pcV_one _ | assumption | (simp [Value.oneCell'] <;> done)); (first | omega | (simp <;> omega)); (show _ ≤ 9223372036854775807; omega); intro _ _ _ _; (try simp only [Act.put, zqa, zqb, zqc, zqd, zqe])))
      go_ret
      exact ⟨A, c, ps, HPS.out, rfl, Sat.sub h (by (with_reducible repeat first | exact pH | exact Sub.refl _ | exact Sub.nil | apply pT | apply Sub.cons | apply Sub.skip))⟩
end
end Go.Proofs.YtgobibgpkcdmdaaDoor
