/- Slices of byte slices. -/
import Derived.Test.YtgobibgpkcdmdaaDoorWSender
set_option linter.all false
namespace Go.Proofs.YtgobibgpkcdmdaaDoor
open Go Go.RowKit
/-- A slice of bytes in a slice: what it holds (none: nil), where, its room. -/
structure Pc where
  l : Option (List UInt8)
  A : Option Addr
  c : Nat
def Pc.v (x : Pc) : Value := match x.l with
  | none => .slice none 0 0
  | some l => .slice x.A l.length x.c
def Pc.P (x : Pc) : SProp := match x.l with
  | none => fact True
  | some l => own 5 1 x.A l.length x.c (bv l)
def pcV (ps : List Pc) : List Value := ps.map Pc.v
def pcP (ps : List Pc) : SProp := star (ps.map Pc.P)
@[simp] theorem pcV_length (ps : List Pc) : (pcV ps).length = ps.length := by simp [pcV]
theorem pcV_get (ps : List Pc) (i : Nat) (h : i < ps.length) : (pcV ps)[i]? = some ps[i].v := by simp [pcV, h]
theorem pcV_one (ps : List Pc) : ∀ u ∈ pcV ps, u.oneCell' = true := by
  intro u hu
  obtain ⟨x, _, rfl⟩ := List.mem_map.1 hu
  unfold Pc.v
  split <;> rfl
section
variable {w0 w : World} {L L' : List SProp}
theorem pcP_nil (h : Sat w0 L w) : Sat w0 (pcP [] :: L) w := Sat.star_iff.2 (by simpa using h)
theorem pcP_snoc {ps : List Pc} {x : Pc} (h : Sat w0 (x.P :: pcP ps :: L) w) : Sat w0 (pcP (ps ++ [x]) :: L) w := by
  refine Sat.star_iff.2 ?_
  have h2 := Sat.star_iff.1 h.swap
  rw [List.map_append, List.append_assoc]
  exact h2
theorem pcP_perm {ps qs : List Pc} (p : ps.Perm qs) (h : Sat w0 (pcP ps :: L) w) : Sat w0 (pcP qs :: L) w :=
  Sat.star_iff.2 ((Sat.star_iff.1 h).perm ((p.map Pc.P).append_right L))
theorem pcP_cons {ps : List Pc} {x : Pc} : Sat w0 (pcP (x :: ps) :: L) w ↔ Sat w0 (x.P :: pcP ps :: L) w := by
  constructor
  · intro h
    have h2 : Sat w0 (x.P :: (ps.map Pc.P ++ L)) w := Sat.star_iff.1 h
    have h3 : Sat w0 (ps.map Pc.P ++ (x.P :: L)) w := h2.perm List.perm_middle.symm
    exact (Sat.star_iff.2 h3).swap
  · intro h
    refine Sat.star_iff.2 ?_
    have h3 : Sat w0 (ps.map Pc.P ++ (x.P :: L)) w := Sat.star_iff.1 h.swap
    exact h3.perm List.perm_middle
theorem split_at (ps : List Pc) (i : Nat) (h : i < ps.length) : ps.Perm (ps[i] :: (ps.take i ++ ps.drop (i + 1))) := by
  have e : ps = ps.take i ++ (ps[i] :: ps.drop (i + 1)) := by rw [List.getElem_cons_drop, List.take_append_drop]
  calc ps.Perm (ps.take i ++ (ps[i] :: ps.drop (i + 1))) := by rw [← e]
    _ |>.Perm (ps[i] :: (ps.take i ++ ps.drop (i + 1))) := List.perm_middle
theorem pcP_take {ps : List Pc} {i : Nat} (hi : i < ps.length) (h : Sat w0 (pcP ps :: L) w) : Sat w0 (ps[i].P :: pcP (ps.take i ++ ps.drop (i + 1)) :: L) w :=
  pcP_cons.1 (pcP_perm (split_at ps i hi) h)
/-- A row is read where it lies. -/
theorem pcP_rd {ps : List Pc} {i : Nat} {l : List UInt8} (hi : i < ps.length) (hl : ps[i].l = some l) : Rd (pcP ps :: L) ps[i].A (bv l) := fun w0 w h => by
  have h2 := pcP_take hi h
  unfold Pc.P at h2
  rw [hl] at h2
  exact (Rd.own .here).at_ h2
theorem pcP_set {ps : List Pc} {i : Nat} {x : Pc} (hi : i < ps.length) (hn : ps[i].l = none) (h : Sat w0 (x.P :: pcP ps :: L) w) : Sat w0 (pcP (ps.set i x) :: L) w := by
  have h2 := pcP_take hi h.swap
  unfold Pc.P at h2
  rw [hn] at h2
  have h3 := (Sat.fact_iff.1 h2).2
  have hs : i < (ps.set i x).length := by simpa using hi
  have hp := split_at (ps.set i x) i hs
  rw [List.getElem_set_self, List.take_set_of_le (Nat.le_refl _), List.drop_set_of_lt (Nat.lt_succ_self _)] at hp
  exact pcP_perm hp.symm (pcP_cons.2 h3.swap)
end
end Go.Proofs.YtgobibgpkcdmdaaDoor
