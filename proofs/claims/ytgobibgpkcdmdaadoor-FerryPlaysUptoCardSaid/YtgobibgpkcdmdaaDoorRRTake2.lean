/- The walk of amberref22's Receiver: Take, every case. -/
import Derived.Test.YtgobibgpkcdmdaaDoorRRTake
set_option linter.all false
namespace Go.Proofs.YtgobibgpkcdmdaaDoor
open Go Go.RowKit
attribute [local irreducible] Calls
section
variable {w0 w : World} {L L' : List SProp} {b : Nat} {s : Rc}
theorem RRTake_spec {l : List UInt8} {A : Option Addr} {n c : Nat} (hn : n = l.length) (hc : l.length ≤ c) (hb : l.length ≤ 2000000) (h : Sat w0 (RRcvP b s :: L) w) (hl : Rd L A (bv l)) :
    Calls Tryd.prog 75 #[.pointer (some ⟨b, 0, none⟩), .slice A n c] w fun e w' => ∃ B d, e = .returned (.tuple #[.slice B (s.take l).2.1.length d, .int .i64 ((s.take l).2.2 : Int)]) ∧
      Sat w0 (own 5 1 B (s.take l).2.1.length d (bv (s.take l).2.1) :: RRcvP b (s.take l).1 :: L) w' := by
  unfold Rc.take
  rw [rd1_isP]
  cases hr : isP l with
  | false =>
    rw [if_neg (by simp)]
    refine (RRTake_none hr hn hc hb h hl).mono ?_
    rintro _ w' ⟨rfl, h1⟩
    exact ⟨none, 0, rfl, own_nil h1⟩
  | true =>
    rw [if_pos rfl]
    simp only
    have e1 : (pkG 1 l).len = gotAt l 1 4 := rfl
    have e2 : (pkG 1 l).sum = gotAt l 5 4 := rfl
    by_cases ho : s.begun = true ∧ ¬ ((pkG 1 l).len = s.len ∧ (pkG 1 l).sum = s.sum)
    · rw [if_pos ho]
      refine (RRTake_other hr ho.1 (by rw [← e1, ← e2]; exact ho.2) hn hc hb h hl).mono ?_
      rintro _ w' ⟨rfl, h1⟩
      exact ⟨none, 0, rfl, own_nil h1⟩
    · rw [if_neg ho]
      refine (RRTake_go hr (fun hb => by rw [← e1, ← e2]; exact Classical.byContradiction fun hx => ho ⟨hb, hx⟩) hn hc hb h hl).mono ?_
      rintro _ w' (⟨h1, h2, rfl, h3⟩ | ⟨h1, B, d, rfl, h3⟩)
      · rw [if_pos ⟨h1, h2⟩]
        exact ⟨none, 0, rfl, own_nil h3⟩
      · rw [if_neg h1]
        exact ⟨B, d, rfl, h3⟩
end
end Go.Proofs.YtgobibgpkcdmdaaDoor
