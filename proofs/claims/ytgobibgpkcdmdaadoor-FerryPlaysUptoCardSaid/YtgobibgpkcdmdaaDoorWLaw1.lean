/- The walks of law 22's helpers: bytes. -/
import Derived.Test.YtgobibgpkcdmdaaDoorWRTake2
set_option linter.all false
namespace Go.Proofs.YtgobibgpkcdmdaaDoor
open Go Go.RowKit
attribute [local irreducible] Calls
section
variable {w0 w : World} {L L' : List SProp}
set_option maxHeartbeats 400000 in
theorem copied_spec {l : List UInt8} {A : Option Addr} {n c : Nat} (hm : l.length ≤ 140737488351232) (h : Sat w0 L w) (hl : Rd L A (bv l)) (hn : n = l.length) :
    Calls Tryd.prog 36 #[.slice A n c] w fun e w' => ∃ B d, e = .returned (.slice B l.length d) ∧ Sat w0 (own 5 1 B l.length d (bv l) :: L) w' := by
  subst hn
  go_enter Tryd.func36, Tryd.ntmps36
  go_wp2_with (first | ((with_reducible apply wpl_append_nil sl37); exact rfl; exact rfl; exact rfl; assumption; (first | assumption | (apply Rd.own; focus ((with_reducible repeat first | exact pH | apply pT); done)) | (focus ((repeat first | assumption | with_reducible apply Rd.cons); done)) | with_reducible exact Rd.nil); (first | rfl | assumption | (simp <;> done) | (simp <;> omega)); (first | exact bv_one _ | exact iv_one _ | exact pcV_one _ | assumption | (simp [Value.oneCell'] <;> done)); (first | omega | (simp <;> omega)); (show _ ≤ 9223372036854775807; omega); intro _ _ _ _; (try simp only [Act.put, zqa, zqb, zqc, zqd, zqe])) | ((with_reducible apply wpl_append sl37); exact rfl; exact rfl; exact rfl; assumption; (with_reducible repeat first | exact pH | apply pT); (first | assumption | (apply Rd.own; focus ((with_reducible repeat first | exact pH | apply pT); done)) | (focus ((repeat first | assumption | with_reducible apply Rd.cons); done)) | with_reducible exact Rd.nil); (first | rfl | assumption | (simp <;> done) | (simp <;> omega)); (first | exact bv_one _ | exact iv_one _ | exact pcV_one _ | assumption | (simp [Value.oneCell'] <;> done)); (first | omega | (simp <;> omega)); (show _ ≤ 9223372036854775807; omega); intro _ _ _ _; (try simp only [Act.put, zqa, zqb, zqc, zqd, zqe])))
  go_ret
  exact ⟨_, _, rfl, by assumption⟩
theorem bytes_eq (a b : List UInt8) : decide ((⟨a.toArray⟩ : ByteArray) = ⟨b.toArray⟩) = decide (a = b) := by
  rw [decide_eq_decide]
  constructor
  · intro h
    have := congrArg (fun x : ByteArray => x.data.toList) h
    simpa using this
  · rintro rfl; rfl
set_option maxHeartbeats 400000 in
theorem same_spec {a b : List UInt8} {A B : Option Addr} {n m c d : Nat} (h : Sat w0 L w) (ha : Rd L A (bv a)) (hb : Rd L B (bv b)) (hn : n = a.length) (hm : m = b.length) :
    Calls Tryd.prog 32 #[.slice A n c, .slice B m d] w fun e w' => e = .returned (.bool (decide (a = b))) ∧ Sat w0 L w' := by
  subst hn hm
  go_enter Tryd.func32, Tryd.ntmps32
  go_wp2_with (first | ((with_reducible apply wpl_string Tryd.underlying37 Tryd.underlying5 Tryd.underlying9); exact rfl; exact rfl; assumption; (first | assumption | (apply Rd.own; focus ((with_reducible repeat first | exact pH | apply pT); done)) | (focus ((repeat first | assumption | with_reducible apply Rd.cons); done)) | with_reducible exact Rd.nil); (first | rfl | assumption | (simp <;> done)); (try simp only [Act.put, zqa, zqb, zqc, zqd, zqe])))
  go_ret
  refine ⟨congrArg (fun z => Ending.returned (Value.bool z)) (?_ : _ = _), by assumption⟩
  rw [Bool.eq_iff_iff]
  simp
end
end Go.Proofs.YtgobibgpkcdmdaaDoor
