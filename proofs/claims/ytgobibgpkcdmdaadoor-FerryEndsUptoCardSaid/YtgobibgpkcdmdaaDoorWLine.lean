/- The walks of law 22's line: line, pieces, true3. -/
import Derived.Test.YtgobibgpkcdmdaaDoorPRound
set_option linter.all false
namespace Go.Proofs.YtgobibgpkcdmdaaDoor
open Go Go.RowKit
attribute [local irreducible] Calls
section
variable {w0 w : World} {L L' : List SProp}
/-- A call that needs one part and gives it back. -/
theorem Calls.at_ {P : Program} {f : FuncId} {args : Array Value} {A B : SProp} {R : Ending → Prop} (p : Pull A L L') (h : Sat w0 L w) (k : Sat w0 (A :: L') w → Calls P f args w fun e w' => R e ∧ Sat w0 (A :: L') w') :
    Calls P f args w fun e w' => R e ∧ Sat w0 L w' := (k (h.pull p)).mono fun e w' ⟨h1, h2⟩ => ⟨h1, h2.push p⟩
/-- The line: both sides, all packets that were given. -/
def LineP (b : Nat) (C : List UInt8) (CA : Option Addr) (cc : Nat) (sd : Sd) (rc : Rc) (ps qs : List Pc) : SProp := ex fun s => ex fun r => ex fun A => ex fun c => ex fun B => ex fun d =>
  star [blk b (.cells #[.pointer (some ⟨s, 0, none⟩), .pointer (some ⟨r, 0, none⟩), .slice CA C.length cc, .slice A ps.length c, .slice B qs.length d] 54), SenderP s sd, RcvP r rc, own 37 1 A ps.length c (pcV ps), pcP ps, own 37 1 B qs.length d (pcV qs), pcP qs]
variable {b cc : Nat} {C : List UInt8} {CA : Option Addr} {sd : Sd} {rc : Rc} {ps qs : List Pc}
theorem LineP.open_ (h : Sat w0 (LineP b C CA cc sd rc ps qs :: L) w) : ∃ s r A c B d,
    Sat w0 (blk b (.cells #[.pointer (some ⟨s, 0, none⟩), .pointer (some ⟨r, 0, none⟩), .slice CA C.length cc, .slice A ps.length c, .slice B qs.length d] 54) :: SenderP s sd :: RcvP r rc :: own 37 1 A ps.length c (pcV ps) :: pcP ps :: own 37 1 B qs.length d (pcV qs) :: pcP qs :: L) w := by
  obtain ⟨s, h⟩ := Sat.ex_iff.1 h
  obtain ⟨r, h⟩ := Sat.ex_iff.1 h
  obtain ⟨A, h⟩ := Sat.ex_iff.1 h
  obtain ⟨c, h⟩ := Sat.ex_iff.1 h
  obtain ⟨B, h⟩ := Sat.ex_iff.1 h
  obtain ⟨d, h⟩ := Sat.ex_iff.1 h
  exact ⟨s, r, A, c, B, d, Sat.star_iff.1 h⟩
theorem LineP.shut {s r c d : Nat} {A B : Option Addr}
    (h : Sat w0 (blk b (.cells #[.pointer (some ⟨s, 0, none⟩), .pointer (some ⟨r, 0, none⟩), .slice CA C.length cc, .slice A ps.length c, .slice B qs.length d] 54) :: SenderP s sd :: RcvP r rc :: own 37 1 A ps.length c (pcV ps) :: pcP ps :: own 37 1 B qs.length d (pcV qs) :: pcP qs :: L) w) :
    Sat w0 (LineP b C CA cc sd rc ps qs :: L) w :=
  Sat.ex_iff.2 ⟨s, Sat.ex_iff.2 ⟨r, Sat.ex_iff.2 ⟨A, Sat.ex_iff.2 ⟨c, Sat.ex_iff.2 ⟨B, Sat.ex_iff.2 ⟨d, Sat.star_iff.2 h⟩⟩⟩⟩⟩⟩
set_option maxHeartbeats 400000 in
theorem pieces_spec {x0 x1 x3 x4 : Value} (hC : C.length ≤ 40960) (h : Sat w0 L w) (p : Pull (blk b (.cells #[x0, x1, .slice CA C.length cc, x3, x4] 54)) L L') :
    Calls Tryd.prog 80 #[.pointer (some ⟨b, 0, none⟩)] w fun e w' => e = .returned (.int .i64 (np C : Int)) ∧ Sat w0 L w' := by
  go_enter Tryd.func80, Tryd.ntmps80
  have hc : w.cell? ⟨b, 2, none⟩ = some (.slice CA C.length cc) := (h.cell p 2).trans rfl
  go_wp2_with (first | ((with_reducible apply wpl_load Tryd.isAgg37); exact rfl; exact rfl; assumption; (with_reducible repeat first | exact pH | apply pT); ((try simp only [zqf, zqg, zqh]) <;> exact rfl); (try simp only [Act.put, zqa, zqb, zqc, zqd, zqe])) | ((with_reducible apply wpl_load_rd Tryd.isAgg37); exact rfl; exact rfl; assumption; (first | assumption | (apply Rd.own; focus ((with_reducible repeat first | exact pH | apply pT); done)) | (focus ((repeat first | assumption | with_reducible apply Rd.cons); done)) | with_reducible exact Rd.nil); (first | assumption | exact rfl); (try simp only [Act.put, zqa, zqb, zqc, zqd, zqe])))
  go_ret
  exact ⟨by unfold np; go_num, by assumption⟩
/-- What true3 asks of both sides. -/
structure T3 (C : List UInt8) (sd : Sd) (rc : Rc) : Prop where
  h1 : rc.have_ ≤ rc.parts.length
  h2 : rc.parts.length = 0 ∨ rc.parts.length = np C
  h3 : rc.cargo = if rc.have_ = rc.parts.length ∧ 0 < rc.parts.length then (C, true) else ([], false)
  h4 : np C ≤ sd.left + rc.have_ ∧ sd.left ≤ np C
set_option maxRecDepth 100000 in
set_option maxHeartbeats 1600000 in
theorem true3_spec (hC : 1 ≤ C.length ∧ C.length ≤ 40960) (ht : T3 C sd rc) (hcr : Rd L CA (bv C)) (h : Sat w0 (LineP b C CA cc sd rc ps qs :: L) w) :
    Calls Tryd.prog 27 #[.pointer (some ⟨b, 0, none⟩)] w fun e w' => e = .returned (.bool true) ∧ Sat w0 (LineP b C CA cc sd rc ps qs :: L) w' := by
  obtain ⟨s, r, A, c, B, d, h⟩ := LineP.open_ h
  obtain ⟨t1, t2, t3, t4⟩ := ht
  have hnp : 1 ≤ np C ∧ np C ≤ 640 := by unfold np; omega
  generalize hN : rc.have_ = N at t1 t3 t4
  generalize hP : rc.parts.length = P at t1 t2 t3
  generalize hl : sd.left = l at t4
  generalize hq : np C = q at t2 t4 hnp
  have HN := Lib.hid hN
  have HP := Lib.hid hP
  have Hl := Lib.hid hl
  have Hq := Lib.hid hq
  have T2 := Lib.hid t2
  have HC := Lib.hid hC
  clear hN hP hl hq t2
  by_cases hw : N = P ∧ 0 < P
  · rw [if_pos hw] at t3
    obtain ⟨rfl, hp⟩ := hw
    obtain rfl : N = q := by have := T2.out; omega
    have H3 := Lib.hid t3
    clear t3 T2
    go_enter Tryd.func27, Tryd.ntmps27
    go_wp2_with (first | (go_at_call 37; refine (Calls.at_ (B := fact True) (.there (.there .here)) h Have_spec).mono ?_; rintro _ _ ⟨he, h1⟩; rw [HN.out, HP.out] at he; subst he) | (go_at_call 31; refine (Cargo_spec (h1.pull (.there (.there .here)))).mono ?_; rintro _ _ ⟨B7, d7, he, h2⟩; rw [H3.out] at he h2; simp only at he h2; subst he) | (go_at_call 29; refine (SLeft_spec (Sat.pull (by assumption) (by (with_reducible repeat first | exact pH | apply pT)))).mono ?_; rintro _ _ ⟨he, h4⟩; rw [Hl.out] at he; subst he) | (go_at_call 80; refine (pieces_spec HC.out.2 (by assumption) (by (with_reducible repeat first | exact pH | apply pT))).mono ?_; rintro _ _ ⟨he, h5⟩; rw [Hq.out] at he; subst he) | (go_at_call 32; refine (same_spec (by assumption) (Rd.own .here) (by repeat (first | exact hcr | apply Rd.cons)) rfl rfl).mono ?_; rintro _ _ ⟨he, h6⟩; rw [decide_eq_true rfl] at he; subst he) | ((with_reducible refine wpl_off ?_ ?_); exact rfl; (try simp only [Act.put, zqa, zqb, zqc, zqd, zqe])) | ((with_reducible apply wpl_load Tryd.isAgg25); exact rfl; exact rfl; assumption; (with_reducible repeat first | exact pH | apply pT); ((try simp only [zqf, zqg, zqh]) <;> exact rfl); (try simp only [Act.put, zqa, zqb, zqc, zqd, zqe])) | ((with_reducible apply wpl_load_rd Tryd.isAgg25); exact rfl; exact rfl; assumption; (first | assumption | (apply Rd.own; focus ((with_reducible repeat first | exact pH | apply pT); done)) | (focus ((repeat first | assumption | with_reducible apply Rd.cons); done)) | with_reducible exact Rd.nil); (first | assumption | exact rfl); (try simp only [Act.put, zqa, zqb, zqc, zqd, zqe])) | ((with_reducible apply wpl_load Tryd.isAgg37); exact rfl; exact rfl; assumption; (with_reducible repeat first | exact pH | apply pT); ((try simp only [zqf, zqg, zqh]) <;> exact rfl); (try simp only [Act.put, zqa, zqb, zqc, zqd, zqe])) | ((with_reducible apply wpl_load_rd Tryd.isAgg37); exact rfl; exact rfl; assumption; (first | assumption | (apply Rd.own; focus ((with_reducible repeat first | exact pH | apply pT); done)) | (focus ((repeat first | assumption | with_reducible apply Rd.cons); done)) | with_reducible exact Rd.nil); (first | assumption | exact rfl); (try simp only [Act.put, zqa, zqb, zqc, zqd, zqe])) | ((with_reducible apply wpl_load Tryd.isAgg29); exact rfl; exact rfl; assumption; (with_reducible repeat first | exact pH | apply pT); ((try simp only [zqf, zqg, zqh]) <;> exact rfl); (try simp only [Act.put, zqa, zqb, zqc, zqd, zqe])) | ((with_reducible apply wpl_load_rd Tryd.isAgg29); exact rfl; exact rfl; assumption; (first | assumption | (apply Rd.own; focus ((with_reducible repeat first | exact pH | apply pT); done)) | (focus ((repeat first | assumption | with_reducible apply Rd.cons); done)) | with_reducible exact Rd.nil); (first | assumption | exact rfl); (try simp only [Act.put, zqa, zqb, zqc, zqd, zqe])))
    go_ret
    exact ⟨rfl, LineP.shut (Sat.sub (by assumption) (by (with_reducible repeat first | exact pH | exact Sub.refl _ | exact Sub.nil | apply pT | apply Sub.cons | apply Sub.skip)))⟩
  · rw [if_neg hw] at t3
    have H3 := Lib.hid t3
    clear t3
    by_cases hp : 0 < P
    · obtain rfl : P = q := by have := T2.out; omega
      have hlt : N < P := by omega
      have e1 : ((N : Int) == (P : Int)) = false := by simp; omega
      clear hw T2
      go_enter Tryd.func27, Tryd.ntmps27
      go_wp2_with (first | (go_at_call 37; refine (Calls.at_ (B := fact True) (.there (.there .here)) h Have_spec).mono ?_; rintro _ _ ⟨he, h1⟩; rw [HN.out, HP.out] at he; subst he) | (go_at_call 31; refine (Cargo_spec (h1.pull (.there (.there .here)))).mono ?_; rintro _ _ ⟨B7, d7, he, h2⟩; rw [H3.out] at he h2; simp only at he h2; subst he) | (go_at_call 29; refine (SLeft_spec (Sat.pull (by assumption) (by (with_reducible repeat first | exact pH | apply pT)))).mono ?_; rintro _ _ ⟨he, h4⟩; rw [Hl.out] at he; subst he) | (go_at_call 80; refine (pieces_spec HC.out.2 (by assumption) (by (with_reducible repeat first | exact pH | apply pT))).mono ?_; rintro _ _ ⟨he, h5⟩; rw [Hq.out] at he; subst he) | (go_at_call 32; refine (same_spec (by assumption) (Rd.own .here) (by repeat (first | exact hcr | apply Rd.cons)) rfl rfl).mono ?_; rintro _ _ ⟨he, h6⟩; rw [decide_eq_true rfl] at he; subst he) | ((with_reducible refine wpl_off ?_ ?_); exact rfl; (try simp only [Act.put, zqa, zqb, zqc, zqd, zqe])) | ((with_reducible apply wpl_load Tryd.isAgg25); exact rfl; exact rfl; assumption; (with_reducible repeat first | exact pH | apply pT); ((try simp only [zqf, zqg, zqh]) <;> exact rfl); (try simp only [Act.put, zqa, zqb, zqc, zqd, zqe])) | ((with_reducible apply wpl_load_rd Tryd.isAgg25); exact rfl; exact rfl; assumption; (first | assumption | (apply Rd.own; focus ((with_reducible repeat first | exact pH | apply pT); done)) | (focus ((repeat first | assumption | with_reducible apply Rd.cons); done)) | with_reducible exact Rd.nil); (first | assumption | exact rfl); (try simp only [Act.put, zqa, zqb, zqc, zqd, zqe])) | ((with_reducible apply wpl_load Tryd.isAgg37); exact rfl; exact rfl; assumption; (with_reducible repeat first | exact pH | apply pT); ((try simp only [zqf, zqg, zqh]) <;> exact rfl); (try simp only [Act.put, zqa, zqb, zqc, zqd, zqe])) | ((with_reducible apply wpl_load_rd Tryd.isAgg37); exact rfl; exact rfl; assumption; (first | assumption | (apply Rd.own; focus ((with_reducible repeat first | exact pH | apply pT); done)) | (focus ((repeat first | assumption | with_reducible apply Rd.cons); done)) | with_reducible exact Rd.nil); (first | assumption | exact rfl); (try simp only [Act.put, zqa, zqb, zqc, zqd, zqe])) | ((with_reducible apply wpl_load Tryd.isAgg29); exact rfl; exact rfl; assumption; (with_reducible repeat first | exact pH | apply pT); ((try simp only [zqf, zqg, zqh]) <;> exact rfl); (try simp only [Act.put, zqa, zqb, zqc, zqd, zqe])) | ((with_reducible apply wpl_load_rd Tryd.isAgg29); exact rfl; exact rfl; assumption; (first | assumption | (apply Rd.own; focus ((with_reducible repeat first | exact pH | apply pT); done)) | (focus ((repeat first | assumption | with_reducible apply Rd.cons); done)) | with_reducible exact Rd.nil); (first | assumption | exact rfl); (try simp only [Act.put, zqa, zqb, zqc, zqd, zqe])))
      go_ret
      exact ⟨rfl, LineP.shut (Sat.sub (by assumption) (by (with_reducible repeat first | exact pH | exact Sub.refl _ | exact Sub.nil | apply pT | apply Sub.cons | apply Sub.skip)))⟩
    · obtain rfl : N = P := by omega
      have e1 : ((N : Int) != 0) = false := by simp; omega
      clear hw T2
      go_enter Tryd.func27, Tryd.ntmps27
      go_wp2_with (first | (go_at_call 37; refine (Calls.at_ (B := fact True) (.there (.there .here)) h Have_spec).mono ?_; rintro _ _ ⟨he, h1⟩; rw [HN.out, HP.out] at he; subst he) | (go_at_call 31; refine (Cargo_spec (h1.pull (.there (.there .here)))).mono ?_; rintro _ _ ⟨B7, d7, he, h2⟩; rw [H3.out] at he h2; simp only at he h2; subst he) | (go_at_call 29; refine (SLeft_spec (Sat.pull (by assumption) (by (with_reducible repeat first | exact pH | apply pT)))).mono ?_; rintro _ _ ⟨he, h4⟩; rw [Hl.out] at he; subst he) | (go_at_call 80; refine (pieces_spec HC.out.2 (by assumption) (by (with_reducible repeat first | exact pH | apply pT))).mono ?_; rintro _ _ ⟨he, h5⟩; rw [Hq.out] at he; subst he) | (go_at_call 32; refine (same_spec (by assumption) (Rd.own .here) (by repeat (first | exact hcr | apply Rd.cons)) rfl rfl).mono ?_; rintro _ _ ⟨he, h6⟩; rw [decide_eq_true rfl] at he; subst he) | ((with_reducible refine wpl_off ?_ ?_); exact rfl; (try simp only [Act.put, zqa, zqb, zqc, zqd, zqe])) | ((with_reducible apply wpl_load Tryd.isAgg25); exact rfl; exact rfl; assumption; (with_reducible repeat first | exact pH | apply pT); ((try simp only [zqf, zqg, zqh]) <;> exact rfl); (try simp only [Act.put, zqa, zqb, zqc, zqd, zqe])) | ((with_reducible apply wpl_load_rd Tryd.isAgg25); exact rfl; exact rfl; assumption; (first | assumption | (apply Rd.own; focus ((with_reducible repeat first | exact pH | apply pT); done)) | (focus ((repeat first | assumption | with_reducible apply Rd.cons); done)) | with_reducible exact Rd.nil); (first | assumption | exact rfl); (try simp only [Act.put, zqa, zqb, zqc, zqd, zqe])) | ((with_reducible apply wpl_load Tryd.isAgg37); exact rfl; exact rfl; assumption; (with_reducible repeat first | exact pH | apply pT); ((try simp only [zqf, zqg, zqh]) <;> exact rfl); (try simp only [Act.put, zqa, zqb, zqc, zqd, zqe])) | ((with_reducible apply wpl_load_rd Tryd.isAgg37); exact rfl; exact rfl; assumption; (first | assumption | (apply Rd.own; focus ((with_reducible repeat first | exact pH | apply pT); done)) | (focus ((repeat first | assumption | with_reducible apply Rd.cons); done)) | with_reducible exact Rd.nil); (first | assumption | exact rfl); (try simp only [Act.put, zqa, zqb, zqc, zqd, zqe])) | ((with_reducible apply wpl_load Tryd.isAgg29); exact rfl; exact rfl; assumption; (with_reducible repeat first | exact pH | apply pT); ((try simp only [zqf, zqg, zqh]) <;> exact rfl); (try simp only [Act.put, zqa, zqb, zqc, zqd, zqe])) | ((with_reducible apply wpl_load_rd Tryd.isAgg29); exact rfl; exact rfl; assumption; (first | assumption | (apply Rd.own; focus ((with_reducible repeat first | exact pH | apply pT); done)) | (focus ((repeat first | assumption | with_reducible apply Rd.cons); done)) | with_reducible exact Rd.nil); (first | assumption | exact rfl); (try simp only [Act.put, zqa, zqb, zqc, zqd, zqe])))
      go_ret
      exact ⟨rfl, LineP.shut (Sat.sub (by assumption) (by (with_reducible repeat first | exact pH | exact Sub.refl _ | exact Sub.nil | apply pT | apply Sub.cons | apply Sub.skip)))⟩
end
end Go.Proofs.YtgobibgpkcdmdaaDoor
