/- The walks of package wire's Writer. -/
import Derived.Test.YtgobibgpkcdmdaaDoorWCrc
import Derived.Test.YtgobibgpkcdmdaaDoorDraw
set_option linter.all false
namespace Go.Proofs.YtgobibgpkcdmdaaDoor
open Go Go.RowKit

/-- A writer: what is written, its limit, where the open runs begin, the first error. -/
structure Wr where
  out : List UInt8
  limit : Nat
  opn : List Nat
  err : Nat
def iv (l : List Nat) : List Value := l.map fun (n : Nat) => Value.int .i64 (n : Int)
@[simp] theorem iv_length (l : List Nat) : (iv l).length = l.length := by simp [iv]
theorem iv_one (l : List Nat) : ∀ u ∈ iv l, u.oneCell' = true := by
  intro u hu
  obtain ⟨_, _, rfl⟩ := List.mem_map.1 hu
  rfl
def Wr.ok (s : Wr) : Prop := s.limit ≤ 1048576 ∧ s.out.length ≤ s.limit ∧ s.opn.length ≤ 4 ∧ ∀ n ∈ s.opn, n ≤ s.out.length

def wrCells (s : Wr) (A : Option Addr) (c : Nat) (B : Option Addr) (d : Nat) : Array Value := #[.slice A s.out.length c, .int .i64 (s.limit : Int), .slice B s.opn.length d, .int .i64 (s.err : Int)]
def WriterP (b : Nat) (s : Wr) : SProp := ex fun A => ex fun c => ex fun B => ex fun d =>
  star [blk b (.cells #[.slice A s.out.length c, .int .i64 (s.limit : Int), .slice B s.opn.length d, .int .i64 (s.err : Int)] 237), own 5 1 A s.out.length c (bv s.out), own 3 1 B s.opn.length d (iv s.opn), fact s.ok]
section
variable {w0 w : World} {L L' : List SProp} {b : Nat} {s : Wr}
theorem WriterP.open_ (h : Sat w0 (WriterP b s :: L) w) : ∃ A c B d, s.ok ∧
    Sat w0 (blk b (.cells #[.slice A s.out.length c, .int .i64 (s.limit : Int), .slice B s.opn.length d, .int .i64 (s.err : Int)] 237) :: own 5 1 A s.out.length c (bv s.out) :: own 3 1 B s.opn.length d (iv s.opn) :: L) w := by
  obtain ⟨A, h⟩ := Sat.ex_iff.1 h
  obtain ⟨c, h⟩ := Sat.ex_iff.1 h
  obtain ⟨B, h⟩ := Sat.ex_iff.1 h
  obtain ⟨d, h⟩ := Sat.ex_iff.1 h
  have h := Sat.star_iff.1 h
  simp only [List.cons_append, List.nil_append] at h
  obtain ⟨hok, h⟩ := Sat.fact_iff.1 (h.pull (.there (.there (.there .here))))
  exact ⟨A, c, B, d, hok, h⟩
theorem WriterP.shut {A B : Option Addr} {c d : Nat} (hok : s.ok)
    (h : Sat w0 (blk b (.cells #[.slice A s.out.length c, .int .i64 (s.limit : Int), .slice B s.opn.length d, .int .i64 (s.err : Int)] 237) :: own 5 1 A s.out.length c (bv s.out) :: own 3 1 B s.opn.length d (iv s.opn) :: L) w) : Sat w0 (WriterP b s :: L) w := by
  refine Sat.ex_iff.2 ⟨A, Sat.ex_iff.2 ⟨c, Sat.ex_iff.2 ⟨B, Sat.ex_iff.2 ⟨d, Sat.star_iff.2 ?_⟩⟩⟩⟩
  simp only [List.cons_append, List.nil_append]
  exact (Sat.fact_iff.2 ⟨hok, h⟩).perm (by
    refine (List.Perm.swap _ _ _).trans (.cons _ ?_)
    refine (List.Perm.swap _ _ _).trans (.cons _ ?_)
    exact List.Perm.swap _ _ _)
end

/-- Is there room for n more bytes? -/
def Wr.has (s : Wr) (n : Nat) : Bool := decide (s.err = 0 ∧ s.out.length + n ≤ s.limit)
/-- The writer behind 'room(n)'. -/
def Wr.roomed (s : Wr) (n : Nat) : Wr := if s.err = 0 ∧ s.limit < s.out.length + n then { s with err := 2 } else s
theorem Wr.has_yes {s : Wr} {n : Nat} (h : s.has n = true) : s.err = 0 ∧ s.out.length + n ≤ s.limit := by simpa [Wr.has] using h
theorem Wr.roomed_yes {s : Wr} {n : Nat} (h : s.has n = true) : s.roomed n = s := by
  have := Wr.has_yes h
  unfold Wr.roomed
  rw [if_neg (by omega)]

set_option maxHeartbeats 400000 in
theorem room_spec {w0 w : World} {L : List SProp} (b : Nat) (s : Wr) (n : Nat) (hn : n ≤ 140737488351232) (h : Sat w0 (WriterP b s :: L) w) :
    Calls Tryd.prog 165 #[.pointer (some ⟨b, 0, none⟩), .int .i64 (n : Int)] w fun e w' => e = .returned (.bool (s.has n)) ∧ Sat w0 (WriterP b (s.roomed n) :: L) w' := by
  obtain ⟨A, c, B, d, hok, h⟩ := WriterP.open_ h
  have HOK := Lib.hid hok
  obtain ⟨h1, h2, h3, h4⟩ := hok
  clear h4
  by_cases he : s.err = 0
  · have hb0 : ((s.err : Int) != 0) = false := by simp [he]
    by_cases hr : s.limit < s.out.length + n
    · have e1 : s.has n = false := by simp [Wr.has, he]; omega
      have e2 : s.roomed n = { s with err := 2 } := by simp [Wr.roomed, he, hr]
      have E1 := Lib.hid e1
      have E2 := Lib.hid e2
      have HO : Wr.ok { s with err := 2 } := HOK.out
      clear e1 e2 he
      go_enter Tryd.func165, Tryd.ntmps165
      go_wp2_with (first | ((with_reducible apply wpl_load Tryd.isAgg44); exact rfl; exact rfl; assumption; (with_reducible repeat first | exact pH | apply pT); ((try simp only [zqf, zqg, zqh]) <;> exact rfl); (try simp only [Act.put, zqa, zqb, zqc, zqd, zqe])) | ((with_reducible apply wpl_load_rd Tryd.isAgg44); exact rfl; exact rfl; assumption; (first | assumption | (apply Rd.own; focus ((with_reducible repeat first | exact pH | apply pT); done)) | (focus ((repeat first | assumption | with_reducible apply Rd.cons); done)) | with_reducible exact Rd.nil); (first | assumption | exact rfl); (try simp only [Act.put, zqa, zqb, zqc, zqd, zqe])) | ((with_reducible apply (wp_draw 3 12 _ (by kernel_rfl))); exact rfl; assumption; (exact Sub.refl _); intro _ _ _; ((apply (take_value (k := 0) rfl (by kernel_rfl) (by kernel_rfl) (by kernel_rfl) (fun _ _ _ => id))); exact rfl; assumption; (apply q_move; ((conv => lhs; whnf) <;> exact rfl)); (try simp only [Act.put, zqa, zqb, zqc, zqd, zqe])); ((apply (take_value (k := 1) rfl (by kernel_rfl) (by kernel_rfl) (by kernel_rfl) (fun _ _ _ => id))); exact rfl; assumption; (apply q_move; ((conv => lhs; whnf) <;> exact rfl)); (try simp only [Act.put, zqa, zqb, zqc, zqd, zqe])); ((apply (take_value (k := 2) rfl (by kernel_rfl) (by kernel_rfl) (by kernel_rfl) (fun _ _ _ => id))); exact rfl; assumption; (exact q_nilCheck rfl); (try simp only [Act.put, zqa, zqb, zqc, zqd, zqe])); ((apply (take_value (k := 3) rfl (by kernel_rfl) (by kernel_rfl) (by kernel_rfl) (fun _ _ _ => id))); exact rfl; assumption; (intro _ _; go_simp; (try exact rfl)); (try simp only [Act.put, zqa, zqb, zqc, zqd, zqe])); ((apply (take_value (k := 4) rfl (by kernel_rfl) (by kernel_rfl) (by kernel_rfl) (fun _ _ _ => id))); exact rfl; assumption; (first | (apply (q_load Tryd.isAgg3); exact rfl; (with_reducible repeat first | exact pH | apply pT); ((try simp only [zqf, zqg, zqh]) <;> exact rfl)) | (apply (q_load_rd Tryd.isAgg3); exact rfl; (first | assumption | (apply Rd.own; focus ((with_reducible repeat first | exact pH | apply pT); done)) | (focus ((repeat first | assumption | with_reducible apply Rd.cons); done)) | with_reducible exact Rd.nil); (first | assumption | exact rfl)) | (apply (q_load_at Tryd.isAgg3); exact rfl; (first | assumption | (apply Rd.own; focus ((with_reducible repeat first | exact pH | apply pT); done)) | (focus ((repeat first | assumption | with_reducible apply Rd.cons); done)) | with_reducible exact Rd.nil))); (try simp only [Act.put, zqa, zqb, zqc, zqd, zqe])); ((apply (take_value (k := 5) rfl (by kernel_rfl) (by kernel_rfl) (by kernel_rfl) (fun _ _ _ => id))); exact rfl; assumption; (apply q_move; ((conv => lhs; whnf) <;> exact rfl)); (try simp only [Act.put, zqa, zqb, zqc, zqd, zqe])); ((apply (take_value (k := 6) rfl (by kernel_rfl) (by kernel_rfl) (by kernel_rfl) (fun _ _ _ => id))); exact rfl; assumption; (exact q_nilCheck rfl); (try simp only [Act.put, zqa, zqb, zqc, zqd, zqe])); ((apply (take_value (k := 7) rfl (by kernel_rfl) (by kernel_rfl) (by kernel_rfl) (fun _ _ _ => id))); exact rfl; assumption; (intro _ _; go_simp; (try exact rfl)); (try simp only [Act.put, zqa, zqb, zqc, zqd, zqe])); ((apply (take_value (k := 8) rfl (by kernel_rfl) (by kernel_rfl) (by kernel_rfl) (fun _ _ _ => id))); exact rfl; assumption; (first | (apply (q_load Tryd.isAgg37); exact rfl; (with_reducible repeat first | exact pH | apply pT); ((try simp only [zqf, zqg, zqh]) <;> exact rfl)) | (apply (q_load_rd Tryd.isAgg37); exact rfl; (first | assumption | (apply Rd.own; focus ((with_reducible repeat first | exact pH | apply pT); done)) | (focus ((repeat first | assumption | with_reducible apply Rd.cons); done)) | with_reducible exact Rd.nil); (first | assumption | exact rfl)) | (apply (q_load_at Tryd.isAgg37); exact rfl; (first | assumption | (apply Rd.own; focus ((with_reducible repeat first | exact pH | apply pT); done)) | (focus ((repeat first | assumption | with_reducible apply Rd.cons); done)) | with_reducible exact Rd.nil))); (try simp only [Act.put, zqa, zqb, zqc, zqd, zqe])); ((apply (take_value (k := 9) rfl (by kernel_rfl) (by kernel_rfl) (by kernel_rfl) (fun _ _ _ => id))); exact rfl; assumption; (exact q_len Tryd.underlying37 rfl); (try simp only [Act.put, zqa, zqb, zqc, zqd, zqe])); ((apply (take_value (k := 10) rfl (by kernel_rfl) (by kernel_rfl) (by kernel_rfl) (fun _ _ _ => id))); exact rfl; assumption; (first | (apply q_sub; exact rfl; exact rfl; omega; omega) | (intro _ _; go_simp; (try exact rfl))); (try simp only [Act.put, zqa, zqb, zqc, zqd, zqe])); ((apply (take_value (k := 11) rfl (by kernel_rfl) (by kernel_rfl) (by kernel_rfl) (fun _ _ _ => id))); exact rfl; assumption; (intro _ _; go_simp; (try exact rfl)); (try simp only [Act.put, zqa, zqb, zqc, zqd, zqe])); (refine take_done (by kernel_rfl) ?_)) | ((with_reducible apply wpl_store Tryd.sizeOf44); exact rfl; exact rfl; ((conv => lhs; whnf) <;> exact rfl); exact rfl; assumption; (with_reducible repeat first | exact pH | apply pT); (exact Nat.le_of_ble_eq_true rfl); ((try simp only [zqa, zqb, zqc]) <;> exact rfl); intro _ _; (try simp only [Act.put, zqa, zqb, zqc, zqd, zqe])) | ((with_reducible apply wpl_store_own Tryd.sizeOf44); exact rfl; exact rfl; ((conv => lhs; whnf) <;> exact rfl); exact rfl; assumption; (with_reducible repeat first | exact pH | apply pT); (first | assumption | (simp <;> omega)); intro _ _; (try simp only [Act.put, zqa, zqb, zqc, zqd, zqe])))
      go_ret
      exact ⟨by rw [E1.out]; rfl, by rw [E2.out]; exact WriterP.shut HO (by assumption)⟩
    · have e1 : s.has n = true := by simp [Wr.has, he]; omega
      have e2 : s.roomed n = s := Wr.roomed_yes e1
      have E1 := Lib.hid e1
      have E2 := Lib.hid e2
      clear e1 e2 he
      go_enter Tryd.func165, Tryd.ntmps165
      go_wp2_with (first | ((with_reducible apply wpl_load Tryd.isAgg44); exact rfl; exact rfl; assumption; (with_reducible repeat first | exact pH | apply pT); ((try simp only [zqf, zqg, zqh]) <;> exact rfl); (try simp only [Act.put, zqa, zqb, zqc, zqd, zqe])) | ((with_reducible apply wpl_load_rd Tryd.isAgg44); exact rfl; exact rfl; assumption; (first | assumption | (apply Rd.own; focus ((with_reducible repeat first | exact pH | apply pT); done)) | (focus ((repeat first | assumption | with_reducible apply Rd.cons); done)) | with_reducible exact Rd.nil); (first | assumption | exact rfl); (try simp only [Act.put, zqa, zqb, zqc, zqd, zqe])) | ((with_reducible apply (wp_draw 3 12 _ (by kernel_rfl))); exact rfl; assumption; (exact Sub.refl _); intro _ _ _; ((apply (take_value (k := 0) rfl (by kernel_rfl) (by kernel_rfl) (by kernel_rfl) (fun _ _ _ => id))); exact rfl; assumption; (apply q_move; ((conv => lhs; whnf) <;> exact rfl)); (try simp only [Act.put, zqa, zqb, zqc, zqd, zqe])); ((apply (take_value (k := 1) rfl (by kernel_rfl) (by kernel_rfl) (by kernel_rfl) (fun _ _ _ => id))); exact rfl; assumption; (apply q_move; ((conv => lhs; whnf) <;> exact rfl)); (try simp only [Act.put, zqa, zqb, zqc, zqd, zqe])); ((apply (take_value (k := 2) rfl (by kernel_rfl) (by kernel_rfl) (by kernel_rfl) (fun _ _ _ => id))); exact rfl; assumption; (exact q_nilCheck rfl); (try simp only [Act.put, zqa, zqb, zqc, zqd, zqe])); ((apply (take_value (k := 3) rfl (by kernel_rfl) (by kernel_rfl) (by kernel_rfl) (fun _ _ _ => id))); exact rfl; assumption; (intro _ _; go_simp; (try exact rfl)); (try simp only [Act.put, zqa, zqb, zqc, zqd, zqe])); ((apply (take_value (k := 4) rfl (by kernel_rfl) (by kernel_rfl) (by kernel_rfl) (fun _ _ _ => id))); exact rfl; assumption; (first | (apply (q_load Tryd.isAgg3); exact rfl; (with_reducible repeat first | exact pH | apply pT); ((try simp only [zqf, zqg, zqh]) <;> exact rfl)) | (apply (q_load_rd Tryd.isAgg3); exact rfl; (first | assumption | (apply Rd.own; focus ((with_reducible repeat first | exact pH | apply pT); done)) | (focus ((repeat first | assumption | with_reducible apply Rd.cons); done)) | with_reducible exact Rd.nil); (first | assumption | exact rfl)) | (apply (q_load_at Tryd.isAgg3); exact rfl; (first | assumption | (apply Rd.own; focus ((with_reducible repeat first | exact pH | apply pT); done)) | (focus ((repeat first | assumption | with_reducible apply Rd.cons); done)) | with_reducible exact Rd.nil))); (try simp only [Act.put, zqa, zqb, zqc, zqd, zqe])); ((apply (take_value (k := 5) rfl (by kernel_rfl) (by kernel_rfl) (by kernel_rfl) (fun _ _ _ => id))); exact rfl; assumption; (apply q_move; ((conv => lhs; whnf) <;> exact rfl)); (try simp only [Act.put, zqa, zqb, zqc, zqd, zqe])); ((apply (take_value (k := 6) rfl (by kernel_rfl) (by kernel_rfl) (by kernel_rfl) (fun _ _ _ => id))); exact rfl; assumption; (exact q_nilCheck rfl); (try simp only [Act.put, zqa, zqb, zqc, zqd, zqe])); ((apply (take_value (k := 7) rfl (by kernel_rfl) (by kernel_rfl) (by kernel_rfl) (fun _ _ _ => id))); exact rfl; assumption; (intro _ _; go_simp; (try exact rfl)); (try simp only [Act.put, zqa, zqb, zqc, zqd, zqe])); ((apply (take_value (k := 8) rfl (by kernel_rfl) (by kernel_rfl) (by kernel_rfl) (fun _ _ _ => id))); exact rfl; assumption; (first | (apply (q_load Tryd.isAgg37); exact rfl; (with_reducible repeat first | exact pH | apply pT); ((try simp only [zqf, zqg, zqh]) <;> exact rfl)) | (apply (q_load_rd Tryd.isAgg37); exact rfl; (first | assumption | (apply Rd.own; focus ((with_reducible repeat first | exact pH | apply pT); done)) | (focus ((repeat first | assumption | with_reducible apply Rd.cons); done)) | with_reducible exact Rd.nil); (first | assumption | exact rfl)) | (apply (q_load_at Tryd.isAgg37); exact rfl; (first | assumption | (apply Rd.own; focus ((with_reducible repeat first | exact pH | apply pT); done)) | (focus ((repeat first | assumption | with_reducible apply Rd.cons); done)) | with_reducible exact Rd.nil))); (try simp only [Act.put, zqa, zqb, zqc, zqd, zqe])); ((apply (take_value (k := 9) rfl (by kernel_rfl) (by kernel_rfl) (by kernel_rfl) (fun _ _ _ => id))); exact rfl; assumption; (exact q_len Tryd.underlying37 rfl); (try simp only [Act.put, zqa, zqb, zqc, zqd, zqe])); ((apply (take_value (k := 10) rfl (by kernel_rfl) (by kernel_rfl) (by kernel_rfl) (fun _ _ _ => id))); exact rfl; assumption; (first | (apply q_sub; exact rfl; exact rfl; omega; omega) | (intro _ _; go_simp; (try exact rfl))); (try simp only [Act.put, zqa, zqb, zqc, zqd, zqe])); ((apply (take_value (k := 11) rfl (by kernel_rfl) (by kernel_rfl) (by kernel_rfl) (fun _ _ _ => id))); exact rfl; assumption; (intro _ _; go_simp; (try exact rfl)); (try simp only [Act.put, zqa, zqb, zqc, zqd, zqe])); (refine take_done (by kernel_rfl) ?_)) | ((with_reducible apply wpl_store Tryd.sizeOf44); exact rfl; exact rfl; ((conv => lhs; whnf) <;> exact rfl); exact rfl; assumption; (with_reducible repeat first | exact pH | apply pT); (exact Nat.le_of_ble_eq_true rfl); ((try simp only [zqa, zqb, zqc]) <;> exact rfl); intro _ _; (try simp only [Act.put, zqa, zqb, zqc, zqd, zqe])) | ((with_reducible apply wpl_store_own Tryd.sizeOf44); exact rfl; exact rfl; ((conv => lhs; whnf) <;> exact rfl); exact rfl; assumption; (with_reducible repeat first | exact pH | apply pT); (first | assumption | (simp <;> omega)); intro _ _; (try simp only [Act.put, zqa, zqb, zqc, zqd, zqe])))
      go_ret
      exact ⟨by rw [E1.out]; rfl, by rw [E2.out]; exact WriterP.shut HOK.out (by assumption)⟩
  · have hb0 : ((s.err : Int) != 0) = true := by simp; omega
    have e1 : s.has n = false := by simp [Wr.has, he]
    have e2 : s.roomed n = s := by simp [Wr.roomed, he]
    have E1 := Lib.hid e1
    have E2 := Lib.hid e2
    clear e1 e2 he
    go_enter Tryd.func165, Tryd.ntmps165
    go_wp2_with (first | ((with_reducible apply wpl_load Tryd.isAgg44); exact rfl; exact rfl; assumption; (with_reducible repeat first | exact pH | apply pT); ((try simp only [zqf, zqg, zqh]) <;> exact rfl); (try simp only [Act.put, zqa, zqb, zqc, zqd, zqe])) | ((with_reducible apply wpl_load_rd Tryd.isAgg44); exact rfl; exact rfl; assumption; (first | assumption | (apply Rd.own; focus ((with_reducible repeat first | exact pH | apply pT); done)) | (focus ((repeat first | assumption | with_reducible apply Rd.cons); done)) | with_reducible exact Rd.nil); (first | assumption | exact rfl); (try simp only [Act.put, zqa, zqb, zqc, zqd, zqe])) | ((with_reducible apply (wp_draw 3 12 _ (by kernel_rfl))); exact rfl; assumption; (exact Sub.refl _); intro _ _ _; ((apply (take_value (k := 0) rfl (by kernel_rfl) (by kernel_rfl) (by kernel_rfl) (fun _ _ _ => id))); exact rfl; assumption; (apply q_move; ((conv => lhs; whnf) <;> exact rfl)); (try simp only [Act.put, zqa, zqb, zqc, zqd, zqe])); ((apply (take_value (k := 1) rfl (by kernel_rfl) (by kernel_rfl) (by kernel_rfl) (fun _ _ _ => id))); exact rfl; assumption; (apply q_move; ((conv => lhs; whnf) <;> exact rfl)); (try simp only [Act.put, zqa, zqb, zqc, zqd, zqe])); ((apply (take_value (k := 2) rfl (by kernel_rfl) (by kernel_rfl) (by kernel_rfl) (fun _ _ _ => id))); exact rfl; assumption; (exact q_nilCheck rfl); (try simp only [Act.put, zqa, zqb, zqc, zqd, zqe])); ((apply (take_value (k := 3) rfl (by kernel_rfl) (by kernel_rfl) (by kernel_rfl) (fun _ _ _ => id))); exact rfl; assumption; (intro _ _; go_simp; (try exact rfl)); (try simp only [Act.put, zqa, zqb, zqc, zqd, zqe])); ((apply (take_value (k := 4) rfl (by kernel_rfl) (by kernel_rfl) (by kernel_rfl) (fun _ _ _ => id))); exact rfl; assumption; (first | (apply (q_load Tryd.isAgg3); exact rfl; (with_reducible repeat first | exact pH | apply pT); ((try simp only [zqf, zqg, zqh]) <;> exact rfl)) | (apply (q_load_rd Tryd.isAgg3); exact rfl; (first | assumption | (apply Rd.own; focus ((with_reducible repeat first | exact pH | apply pT); done)) | (focus ((repeat first | assumption | with_reducible apply Rd.cons); done)) | with_reducible exact Rd.nil); (first | assumption | exact rfl)) | (apply (q_load_at Tryd.isAgg3); exact rfl; (first | assumption | (apply Rd.own; focus ((with_reducible repeat first | exact pH | apply pT); done)) | (focus ((repeat first | assumption | with_reducible apply Rd.cons); done)) | with_reducible exact Rd.nil))); (try simp only [Act.put, zqa, zqb, zqc, zqd, zqe])); ((apply (take_value (k := 5) rfl (by kernel_rfl) (by kernel_rfl) (by kernel_rfl) (fun _ _ _ => id))); exact rfl; assumption; (apply q_move; ((conv => lhs; whnf) <;> exact rfl)); (try simp only [Act.put, zqa, zqb, zqc, zqd, zqe])); ((apply (take_value (k := 6) rfl (by kernel_rfl) (by kernel_rfl) (by kernel_rfl) (fun _ _ _ => id))); exact rfl; assumption; (exact q_nilCheck rfl); (try simp only [Act.put, zqa, zqb, zqc, zqd, zqe])); ((apply (take_value (k := 7) rfl (by kernel_rfl) (by kernel_rfl) (by kernel_rfl) (fun _ _ _ => id))); exact rfl; assumption; (intro _ _; go_simp; (try exact rfl)); (try simp only [Act.put, zqa, zqb, zqc, zqd, zqe])); ((apply (take_value (k := 8) rfl (by kernel_rfl) (by kernel_rfl) (by kernel_rfl) (fun _ _ _ => id))); exact rfl; assumption; (first | (apply (q_load Tryd.isAgg37); exact rfl; (with_reducible repeat first | exact pH | apply pT); ((try simp only [zqf, zqg, zqh]) <;> exact rfl)) | (apply (q_load_rd Tryd.isAgg37); exact rfl; (first | assumption | (apply Rd.own; focus ((with_reducible repeat first | exact pH | apply pT); done)) | (focus ((repeat first | assumption | with_reducible apply Rd.cons); done)) | with_reducible exact Rd.nil); (first | assumption | exact rfl)) | (apply (q_load_at Tryd.isAgg37); exact rfl; (first | assumption | (apply Rd.own; focus ((with_reducible repeat first | exact pH | apply pT); done)) | (focus ((repeat first | assumption | with_reducible apply Rd.cons); done)) | with_reducible exact Rd.nil))); (try simp only [Act.put, zqa, zqb, zqc, zqd, zqe])); ((apply (take_value (k := 9) rfl (by kernel_rfl) (by kernel_rfl) (by kernel_rfl) (fun _ _ _ => id))); exact rfl; assumption; (exact q_len Tryd.underlying37 rfl); (try simp only [Act.put, zqa, zqb, zqc, zqd, zqe])); ((apply (take_value (k := 10) rfl (by kernel_rfl) (by kernel_rfl) (by kernel_rfl) (fun _ _ _ => id))); exact rfl; assumption; (first | (apply q_sub; exact rfl; exact rfl; omega; omega) | (intro _ _; go_simp; (try exact rfl))); (try simp only [Act.put, zqa, zqb, zqc, zqd, zqe])); ((apply (take_value (k := 11) rfl (by kernel_rfl) (by kernel_rfl) (by kernel_rfl) (fun _ _ _ => id))); exact rfl; assumption; (intro _ _; go_simp; (try exact rfl)); (try simp only [Act.put, zqa, zqb, zqc, zqd, zqe])); (refine take_done (by kernel_rfl) ?_)) | ((with_reducible apply wpl_store Tryd.sizeOf44); exact rfl; exact rfl; ((conv => lhs; whnf) <;> exact rfl); exact rfl; assumption; (with_reducible repeat first | exact pH | apply pT); (exact Nat.le_of_ble_eq_true rfl); ((try simp only [zqa, zqb, zqc]) <;> exact rfl); intro _ _; (try simp only [Act.put, zqa, zqb, zqc, zqd, zqe])) | ((with_reducible apply wpl_store_own Tryd.sizeOf44); exact rfl; exact rfl; ((conv => lhs; whnf) <;> exact rfl); exact rfl; assumption; (with_reducible repeat first | exact pH | apply pT); (first | assumption | (simp <;> omega)); intro _ _; (try simp only [Act.put, zqa, zqb, zqc, zqd, zqe])))
    go_ret
    exact ⟨by rw [E1.out]; rfl, by rw [E2.out]; exact WriterP.shut HOK.out (by assumption)⟩

/-- n bytes of v, the lowest first. -/
def le : Nat → Nat → List UInt8
  | 0, _ => []
  | n + 1, v => UInt8.ofNat (v % 256) :: le n (v / 256)
@[simp] theorem le_length (n : Nat) : ∀ v, (le n v).length = n := by
  induction n with
  | zero => intro v; rfl
  | succ n ih => intro v; simp [le, ih]
theorem le_take (n : Nat) : ∀ (k v : Nat), k < n → (le n v).take (k + 1) = (le n v).take k ++ [UInt8.ofNat (v / 256 ^ k % 256)] := by
  induction n with
  | zero => intro k v h; omega
  | succ n ih =>
    intro k v h
    cases k with
    | zero => simp [le]
    | succ k =>
      have := ih k (v / 256) (by omega)
      simp only [le, List.take_succ_cons, this, List.cons_append]
      rw [Nat.div_div_eq_div_mul, Nat.pow_succ, Nat.mul_comm 256]
theorem vdiv (v k : Nat) : (v : Int) / 256 ^ k / 256 = ((v / 256 ^ (k + 1) : Nat) : Int) := by
  rw [Nat.pow_succ, ← Nat.div_div_eq_div_mul]
  simp
theorem le_byte (v k : Nat) : ((UInt8.ofNat (v / 256 ^ k % 256)).toNat : Int) = (v : Int) / 256 ^ k % 256 := by
  have h : v / 256 ^ k % 256 < 256 := Nat.mod_lt _ (by decide)
  rw [UInt8.toNat_ofNat']
  simp
theorem put_next (l : List UInt8) (n v k : Nat) (h : k < n) : bv (l ++ (le n v).take (k + 1)) = bv (l ++ (le n v).take k) ++ [Value.int .u8 ((v : Int) / 256 ^ k % 256)] := by
  rw [le_take n k v h, ← List.append_assoc, bv_append (l ++ _)]
  simp [bv, le_byte]
def Wr.put (s : Wr) (l : List UInt8) : Wr := if s.has l.length then { s with out := s.out ++ l } else s.roomed l.length

set_option maxHeartbeats 800000 in
theorem put_spec {w0 w : World} {L : List SProp} (b : Nat) (s : Wr) (v n : Nat) (hn : n ≤ 8) (hv : v < 18446744073709551616) (h : Sat w0 (WriterP b s :: L) w) :
    Calls Tryd.prog 159 #[.pointer (some ⟨b, 0, none⟩), .int .u64 (v : Int), .int .i64 (n : Int)] w fun e w' => e = .returned (.tuple #[]) ∧ Sat w0 (WriterP b (s.put (le n v)) :: L) w' := by
  have hroom := room_spec b s n (by omega) h
  by_cases hh : s.has n = true
  · have e1 : s.put (le n v) = { s with out := s.out ++ le n v } := by simp [Wr.put, hh]
    have E1 := Lib.hid e1
    rw [hh, Wr.roomed_yes hh] at hroom
    have HR := Lib.hid hroom
    obtain ⟨h5, h6⟩ := Wr.has_yes hh
    clear e1 hroom hh
    have E5 := Lib.hid h5
    clear h5 h
    go_enter Tryd.func159, Tryd.ntmps159
    go_wp2_with (first | (go_at_call 165; refine HR.out.mono ?_; rintro _ _ ⟨rfl, _⟩))
    rename_i h
    obtain ⟨A, c, B, d, hok, h⟩ := WriterP.open_ h
    have HOK := Lib.hid hok
    obtain ⟨h1, h2, h3, h4⟩ := hok
    clear h4
    go_loopw [1, 11] (fun t i wr => ∃ k : Nat, k ≤ n ∧ i = .int .i64 k ∧ t = .int .u64 (v / 256 ^ k : Nat) ∧ ∃ A c, Sat w0 (blk b (.cells #[.slice A (s.out.length + k) c, .int .i64 (s.limit : Int), .slice B s.opn.length d, .int .i64 (s.err : Int)] 237) :: own 5 1 A (s.out.length + k) c (bv (s.out ++ (le n v).take k)) :: own 3 1 B s.opn.length d (iv s.opn) :: L) wr) (fun _ i _ => n - (intOf i).toNat)
    case atStart => exact ⟨0, by omega, rfl, by simp, A, c, by simpa using h⟩
    case round =>
      obtain ⟨k, hk, rfl, rfl, A, c, h⟩ := hrel
      have hvk : v / 256 ^ k < 18446744073709551616 := Nat.lt_of_le_of_lt (Nat.div_le_self _ _) hv
      by_cases hlt : k < n
      · go_wp2_with (first | ((with_reducible apply wpl_load Tryd.isAgg37); exact rfl; exact rfl; assumption; (with_reducible repeat first | exact pH | apply pT); ((try simp only [zqf, zqg, zqh]) <;> exact rfl); (try simp only [Act.put, zqa, zqb, zqc, zqd, zqe])) | ((with_reducible apply wpl_load_rd Tryd.isAgg37); exact rfl; exact rfl; assumption; (first | assumption | (apply Rd.own; focus ((with_reducible repeat first | exact pH | apply pT); done)) | (focus ((repeat first | assumption | with_reducible apply Rd.cons); done)) | with_reducible exact Rd.nil); (first | assumption | exact rfl); (try simp only [Act.put, zqa, zqb, zqc, zqd, zqe])) | ((with_reducible apply wpl_build1 sl37); exact rfl; ((conv => lhs; whnf) <;> exact rfl); rfl; assumption; intro _ _ _; (try simp only [Act.put, zqa, zqb, zqc, zqd, zqe])) | ((with_reducible apply wpl_append_nil sl37); exact rfl; exact rfl; exact rfl; assumption; (first | assumption | (apply Rd.own; focus ((with_reducible repeat first | exact pH | apply pT); done)) | (focus ((repeat first | assumption | with_reducible apply Rd.cons); done)) | with_reducible exact Rd.nil); (first | rfl | assumption | (simp <;> done) | (simp <;> omega)); (first | exact bv_one _ | exact iv_one _ | exact pcV_one _ | assumption | (simp [Value.oneCell'] <;> done)); (first | omega | (simp <;> omega)); (show _ ≤ 9223372036854775807; omega); intro _ _ _ _; (try simp only [Act.put, zqa, zqb, zqc, zqd, zqe])) | ((with_reducible apply wpl_append sl37); exact rfl; exact rfl; exact rfl; assumption; (with_reducible repeat first | exact pH | apply pT); (first | assumption | (apply Rd.own; focus ((with_reducible repeat first | exact pH | apply pT); done)) | (focus ((repeat first | assumption | with_reducible apply Rd.cons); done)) | with_reducible exact Rd.nil); (first | rfl | assumption | (simp <;> done) | (simp <;> omega)); (first | exact bv_one _ | exact iv_one _ | exact pcV_one _ | assumption | (simp [Value.oneCell'] <;> done)); (first | omega | (simp <;> omega)); (show _ ≤ 9223372036854775807; omega); intro _ _ _ _; (try simp only [Act.put, zqa, zqb, zqc, zqd, zqe])) | ((with_reducible apply wpl_store Tryd.sizeOf37); exact rfl; exact rfl; ((conv => lhs; whnf) <;> exact rfl); exact rfl; assumption; (with_reducible repeat first | exact pH | apply pT); (exact Nat.le_of_ble_eq_true rfl); ((try simp only [zqa, zqb, zqc]) <;> exact rfl); intro _ _; (try simp only [Act.put, zqa, zqb, zqc, zqd, zqe])) | ((with_reducible apply wpl_store_own Tryd.sizeOf37); exact rfl; exact rfl; ((conv => lhs; whnf) <;> exact rfl); exact rfl; assumption; (with_reducible repeat first | exact pH | apply pT); (first | assumption | (simp <;> omega)); intro _ _; (try simp only [Act.put, zqa, zqb, zqc, zqd, zqe])))
        go_roundw
        case rel =>
          refine ⟨k + 1, by omega, by go_num, by rw [vdiv], ?_⟩
          refine Exists.intro ?zA (Exists.intro ?zc ?zh)
          case zh =>
            rw [put_next _ _ _ _ hlt, ← Nat.add_assoc]
            refine Sat.sub (by assumption) ?_
            (with_reducible repeat first | exact pH | exact Sub.refl _ | exact Sub.nil | apply pT | apply Sub.cons | apply Sub.skip)
        case measure => simp [intOf]; omega
      · obtain rfl : k = n := by omega
        go_wp2
        go_end0
        refine ⟨rfl, ?_⟩
        rw [E1.out]
        have hok : Wr.ok { s with out := s.out ++ le k v } := by
          obtain ⟨g1, g2, g3, g4⟩ := HOK.out
          exact ⟨g1, by simp; omega, g3, fun x hx => by have := g4 x hx; simp; omega⟩
        refine WriterP.shut (A := A) (c := c) (B := B) (d := d) hok ?_
        have e : (s.out ++ le k v).length = s.out.length + k := by simp
        have e2 : (le k v).take k = le k v := List.take_of_length_le (by simp)
        rw [e2] at h
        simpa [e] using h
  · have hf : s.has n = false := by simpa using hh
    have e1 : s.put (le n v) = s.roomed n := by simp [Wr.put, hf]
    have E1 := Lib.hid e1
    rw [hf] at hroom
    have HR := Lib.hid hroom
    clear e1 hroom hf hh h
    go_enter Tryd.func159, Tryd.ntmps159
    go_wp2_with (first | (go_at_call 165; refine HR.out.mono ?_; rintro _ _ ⟨rfl, _⟩))
    refine bodyPost_ret (results_none rfl _ _ _) rfl ?_
    exact ⟨rfl, by rw [E1.out]; assumption⟩

/-! ### Where all goes well -/
/-- A writer without an error. -/
def WrOk (b lim : Nat) (out : List UInt8) (opn : List Nat) : SProp := WriterP b ⟨out, lim, opn, 0⟩
section
variable {w0 w : World} {L : List SProp} {b lim : Nat} {out : List UInt8} {opn : List Nat}
theorem put_ok {v n : Nat} (hn : n ≤ 8) (hv : v < 18446744073709551616) (h : Sat w0 (WrOk b lim out opn :: L) w) (hr : out.length + n ≤ lim) :
    Calls Tryd.prog 159 #[.pointer (some ⟨b, 0, none⟩), .int .u64 (v : Int), .int .i64 (n : Int)] w fun e w' => e = .returned (.tuple #[]) ∧ Sat w0 (WrOk b lim (out ++ le n v) opn :: L) w' := by
  refine (put_spec b _ v n hn hv h).mono fun e w' ⟨he, h'⟩ => ⟨he, ?_⟩
  have : Wr.put ⟨out, lim, opn, 0⟩ (le n v) = ⟨out ++ le n v, lim, opn, 0⟩ := by
    unfold Wr.put
    rw [if_pos (by simp [Wr.has]; omega)]
  rw [this] at h'
  exact h'
theorem room_ok {n : Nat} (hn : n ≤ 140737488351232) (h : Sat w0 (WrOk b lim out opn :: L) w) (hr : out.length + n ≤ lim) :
    Calls Tryd.prog 165 #[.pointer (some ⟨b, 0, none⟩), .int .i64 (n : Int)] w fun e w' => e = .returned (.bool true) ∧ Sat w0 (WrOk b lim out opn :: L) w' := by
  have hh : Wr.has ⟨out, lim, opn, 0⟩ n = true := by simp [Wr.has]; omega
  refine (room_spec b _ n hn h).mono fun e w' ⟨he, h'⟩ => ?_
  rw [hh] at he
  rw [Wr.roomed_yes hh] at h'
  exact ⟨he, h'⟩
theorem WrOk.open_ (h : Sat w0 (WrOk b lim out opn :: L) w) : ∃ A c B d, (lim ≤ 1048576 ∧ out.length ≤ lim ∧ opn.length ≤ 4 ∧ ∀ n ∈ opn, n ≤ out.length) ∧
    Sat w0 (blk b (.cells #[.slice A out.length c, .int .i64 (lim : Int), .slice B opn.length d, .int .i64 0] 237) :: own 5 1 A out.length c (bv out) :: own 3 1 B opn.length d (iv opn) :: L) w := WriterP.open_ h
theorem WrOk.shut {A B : Option Addr} {c d : Nat} (hok : lim ≤ 1048576 ∧ out.length ≤ lim ∧ opn.length ≤ 4 ∧ ∀ n ∈ opn, n ≤ out.length)
    (h : Sat w0 (blk b (.cells #[.slice A out.length c, .int .i64 (lim : Int), .slice B opn.length d, .int .i64 0] 237) :: own 5 1 A out.length c (bv out) :: own 3 1 B opn.length d (iv opn) :: L) w) : Sat w0 (WrOk b lim out opn :: L) w := WriterP.shut (s := ⟨out, lim, opn, 0⟩) hok h

set_option maxHeartbeats 400000 in
theorem within_ok {v most : Int} {n : Nat} (h0 : 0 ≤ v) (h1 : v ≤ most) (h2 : v < 9223372036854775808) (hn : n ≤ 8) (h : Sat w0 (WrOk b lim out opn :: L) w) (hr : out.length + n ≤ lim) :
    Calls Tryd.prog 158 #[.pointer (some ⟨b, 0, none⟩), .int .i64 v, .int .i64 most, .int .i64 (n : Int)] w fun e w' => e = .returned (.tuple #[]) ∧ Sat w0 (WrOk b lim (out ++ le n v.toNat) opn :: L) w' := by
  have hp := put_ok (v := v.toNat) hn (by omega) h hr
  rw [Int.toNat_of_nonneg h0] at hp
  have HP := Lib.hid hp
  obtain ⟨A, c, B, d, hok, h'⟩ := WrOk.open_ h
  have h0' : ¬ v < 0 := by omega
  have h1' : ¬ most < v := by omega
  clear hp hok hr h
  go_enter Tryd.func158, Tryd.ntmps158
  have hc : w.cell? ⟨b, 3, none⟩ = some (.int .i64 0) := (h'.cell .here 3).trans rfl
  go_wp2_with (first | (go_at_call 159; refine HP.out.mono ?_; rintro _ _ ⟨rfl, _⟩))
  go_end0
  exact ⟨rfl, by assumption⟩
set_option maxHeartbeats 400000 in
theorem U8_ok {v : Int} (h0 : 0 ≤ v) (h1 : v ≤ 255) (h : Sat w0 (WrOk b lim out opn :: L) w) (hr : out.length + 1 ≤ lim) :
    Calls Tryd.prog 110 #[.pointer (some ⟨b, 0, none⟩), .int .i64 v] w fun e w' => e = .returned (.tuple #[]) ∧ Sat w0 (WrOk b lim (out ++ le 1 v.toNat) opn :: L) w' := by
  have HP := Lib.hid (within_ok (n := 1) h0 h1 (by omega) (by decide) h hr)
  clear h hr
  go_enter Tryd.func110, Tryd.ntmps110
  go_wp2_with (first | (go_at_call 158; refine HP.out.mono ?_; rintro _ _ ⟨rfl, _⟩))
  go_end0
  exact ⟨rfl, by assumption⟩
set_option maxHeartbeats 400000 in
theorem U16_ok {v : Int} (h0 : 0 ≤ v) (h1 : v ≤ 65535) (h : Sat w0 (WrOk b lim out opn :: L) w) (hr : out.length + 2 ≤ lim) :
    Calls Tryd.prog 133 #[.pointer (some ⟨b, 0, none⟩), .int .i64 v] w fun e w' => e = .returned (.tuple #[]) ∧ Sat w0 (WrOk b lim (out ++ le 2 v.toNat) opn :: L) w' := by
  have HP := Lib.hid (within_ok (n := 2) h0 h1 (by omega) (by decide) h hr)
  clear h hr
  go_enter Tryd.func133, Tryd.ntmps133
  go_wp2_with (first | (go_at_call 158; refine HP.out.mono ?_; rintro _ _ ⟨rfl, _⟩))
  go_end0
  exact ⟨rfl, by assumption⟩
set_option maxHeartbeats 400000 in
theorem U32_ok {v : Nat} (h1 : v < 4294967296) (h : Sat w0 (WrOk b lim out opn :: L) w) (hr : out.length + 4 ≤ lim) :
    Calls Tryd.prog 113 #[.pointer (some ⟨b, 0, none⟩), .int .u32 (v : Int)] w fun e w' => e = .returned (.tuple #[]) ∧ Sat w0 (WrOk b lim (out ++ le 4 v) opn :: L) w' := by
  have HP := Lib.hid (put_ok (v := v) (n := 4) (by decide) (by omega) h hr)
  clear h hr
  go_enter Tryd.func113, Tryd.ntmps113
  go_wp2_with (first | (go_at_call 159; refine HP.out.mono ?_; rintro _ _ ⟨rfl, _⟩))
  go_end0
  exact ⟨rfl, by assumption⟩
set_option maxHeartbeats 400000 in
theorem U64_ok {v : Nat} (h1 : v < 9223372036854775808) (h : Sat w0 (WrOk b lim out opn :: L) w) (hr : out.length + 8 ≤ lim) :
    Calls Tryd.prog 112 #[.pointer (some ⟨b, 0, none⟩), .int .i64 (v : Int)] w fun e w' => e = .returned (.tuple #[]) ∧ Sat w0 (WrOk b lim (out ++ le 8 v) opn :: L) w' := by
  have HP := Lib.hid (put_ok (v := v) (n := 8) (by decide) (by omega) h hr)
  clear h hr
  go_enter Tryd.func112, Tryd.ntmps112
  go_wp2_with (first | (go_at_call 159; refine HP.out.mono ?_; rintro _ _ ⟨rfl, _⟩))
  go_end0
  exact ⟨rfl, by assumption⟩
set_option maxHeartbeats 400000 in
theorem Block_ok {l : List UInt8} {A : Option Addr} {n c : Nat} (h : Sat w0 (WrOk b lim out opn :: L) w) (hl : Rd L A (bv l)) (hn : n = l.length) (hr : out.length + l.length ≤ lim) :
    Calls Tryd.prog 134 #[.pointer (some ⟨b, 0, none⟩), .slice A n c] w fun e w' => e = .returned (.tuple #[]) ∧ Sat w0 (WrOk b lim (out ++ l) opn :: L) w' := by
  subst hn
  obtain ⟨_, _, _, _, ⟨h1, _⟩, _⟩ := WrOk.open_ h
  have hr1 : out.length + l.length ≤ 1048576 := by omega
  clear h1
  have HP := Lib.hid (room_ok (n := l.length) (by omega) h (by omega))
  clear h
  go_enter Tryd.func134, Tryd.ntmps134
  go_wp2_with (first | (go_at_call 165; refine HP.out.mono ?_; rintro _ _ ⟨rfl, h'⟩; obtain ⟨_, _, _, _, hok, _⟩ := WrOk.open_ h'; have HOK := Lib.hid hok; clear hok h') | ((with_reducible apply wpl_load Tryd.isAgg37); exact rfl; exact rfl; assumption; (with_reducible repeat first | exact pH | apply pT); ((try simp only [zqf, zqg, zqh]) <;> exact rfl); (try simp only [Act.put, zqa, zqb, zqc, zqd, zqe])) | ((with_reducible apply wpl_load_rd Tryd.isAgg37); exact rfl; exact rfl; assumption; (first | assumption | (apply Rd.own; focus ((with_reducible repeat first | exact pH | apply pT); done)) | (focus ((repeat first | assumption | with_reducible apply Rd.cons); done)) | with_reducible exact Rd.nil); (first | assumption | exact rfl); (try simp only [Act.put, zqa, zqb, zqc, zqd, zqe])) | ((with_reducible apply wpl_append_nil sl37); exact rfl; exact rfl; exact rfl; assumption; (first | assumption | (apply Rd.own; focus ((with_reducible repeat first | exact pH | apply pT); done)) | (focus ((repeat first | assumption | with_reducible apply Rd.cons); done)) | with_reducible exact Rd.nil); (first | rfl | assumption | (simp <;> done) | (simp <;> omega)); (first | exact bv_one _ | exact iv_one _ | exact pcV_one _ | assumption | (simp [Value.oneCell'] <;> done)); (first | omega | (simp <;> omega)); (show _ ≤ 9223372036854775807; omega); intro _ _ _ _; (try simp only [Act.put, zqa, zqb, zqc, zqd, zqe])) | ((with_reducible apply wpl_append sl37); exact rfl; exact rfl; exact rfl; assumption; (with_reducible repeat first | exact pH | apply pT); (first | assumption | (apply Rd.own; focus ((with_reducible repeat first | exact pH | apply pT); done)) | (focus ((repeat first | assumption | with_reducible apply Rd.cons); done)) | with_reducible exact Rd.nil); (first | rfl | assumption | (simp <;> done) | (simp <;> omega)); (first | exact bv_one _ | exact iv_one _ | exact pcV_one _ | assumption | (simp [Value.oneCell'] <;> done)); (first | omega | (simp <;> omega)); (show _ ≤ 9223372036854775807; omega); intro _ _ _ _; (try simp only [Act.put, zqa, zqb, zqc, zqd, zqe])) | ((with_reducible apply wpl_store Tryd.sizeOf37); exact rfl; exact rfl; ((conv => lhs; whnf) <;> exact rfl); exact rfl; assumption; (with_reducible repeat first | exact pH | apply pT); (exact Nat.le_of_ble_eq_true rfl); ((try simp only [zqa, zqb, zqc]) <;> exact rfl); intro _ _; (try simp only [Act.put, zqa, zqb, zqc, zqd, zqe])) | ((with_reducible apply wpl_store_own Tryd.sizeOf37); exact rfl; exact rfl; ((conv => lhs; whnf) <;> exact rfl); exact rfl; assumption; (with_reducible repeat first | exact pH | apply pT); (first | assumption | (simp <;> omega)); intro _ _; (try simp only [Act.put, zqa, zqb, zqc, zqd, zqe])))
  go_end0
  obtain ⟨g1, g2, g3, g4⟩ := HOK.out
  refine ⟨rfl, ?_⟩
  apply WrOk.shut ⟨g1, by simp; omega, g3, fun n hn => by have := g4 n hn; simp; omega⟩
  rw [bv_append, List.length_append]
  refine Sat.sub (by assumption) ?_
  (with_reducible repeat first | exact pH | exact Sub.refl _ | exact Sub.nil | apply pT | apply Sub.cons | apply Sub.skip)
set_option maxHeartbeats 400000 in
theorem Open_ok (h : Sat w0 (WrOk b lim out opn :: L) w) (hr : opn.length < 4) :
    Calls Tryd.prog 132 #[.pointer (some ⟨b, 0, none⟩)] w fun e w' => e = .returned (.tuple #[]) ∧ Sat w0 (WrOk b lim out (opn ++ [out.length]) :: L) w' := by
  obtain ⟨A, c, B, d, hok, h⟩ := WrOk.open_ h
  have HOK := Lib.hid hok
  obtain ⟨h1, h2, _⟩ := hok
  have h4 : ((opn.length : Int) == 4) = false := by simp; omega
  go_enter Tryd.func132, Tryd.ntmps132
  go_wp2_with (first | ((with_reducible first | apply wpl_load Tryd.isAgg44 | apply wpl_load Tryd.isAgg60); exact rfl; exact rfl; assumption; (with_reducible repeat first | exact pH | apply pT); ((try simp only [zqf, zqg, zqh]) <;> exact rfl); (try simp only [Act.put, zqa, zqb, zqc, zqd, zqe])) | ((with_reducible first | apply wpl_load_rd Tryd.isAgg44 | apply wpl_load_rd Tryd.isAgg60); exact rfl; exact rfl; assumption; (first | assumption | (apply Rd.own; focus ((with_reducible repeat first | exact pH | apply pT); done)) | (focus ((repeat first | assumption | with_reducible apply Rd.cons); done)) | with_reducible exact Rd.nil); (first | assumption | exact rfl); (try simp only [Act.put, zqa, zqb, zqc, zqd, zqe])) | ((with_reducible apply wpl_store Tryd.sizeOf44); exact rfl; exact rfl; ((conv => lhs; whnf) <;> exact rfl); exact rfl; assumption; (with_reducible repeat first | exact pH | apply pT); (exact Nat.le_of_ble_eq_true rfl); ((try simp only [zqa, zqb, zqc]) <;> exact rfl); intro _ _; (try simp only [Act.put, zqa, zqb, zqc, zqd, zqe])) | ((with_reducible apply wpl_store_own Tryd.sizeOf44); exact rfl; exact rfl; ((conv => lhs; whnf) <;> exact rfl); exact rfl; assumption; (with_reducible repeat first | exact pH | apply pT); (first | assumption | (simp <;> omega)); intro _ _; (try simp only [Act.put, zqa, zqb, zqc, zqd, zqe])) | ((with_reducible apply (wp_drawZ 0 15 14 [blk b (.cells #[.slice A out.length c, .int .i64 (lim : Int), .slice B opn.length d, .int .i64 0] 237)] (by kernel_rfl) (by kernel_rfl))); exact rfl; assumption; (with_reducible repeat first | exact pH | exact Sub.refl _ | exact Sub.nil | apply pT | apply Sub.cons | apply Sub.skip); intro _ _ _; ((apply (zake_value (k := 0) rfl (by kernel_rfl) (fun _ _ _ => id))); exact rfl; assumption; (apply q_move; ((conv => lhs; whnf) <;> exact rfl)); (try simp only [Act.put, zqa, zqb, zqc, zqd, zqe])); ((apply (zake_value (k := 1) rfl (by kernel_rfl) (fun _ _ _ => id))); exact rfl; assumption; (apply q_move; ((conv => lhs; whnf) <;> exact rfl)); (try simp only [Act.put, zqa, zqb, zqc, zqd, zqe])); ((apply (zake_value (k := 2) rfl (by kernel_rfl) (fun _ _ _ => id))); exact rfl; assumption; (exact q_nilCheck rfl); (try simp only [Act.put, zqa, zqb, zqc, zqd, zqe])); ((apply (zake_value (k := 3) rfl (by kernel_rfl) (fun _ _ _ => id))); exact rfl; assumption; (intro _ _; go_simp; (try exact rfl)); (try simp only [Act.put, zqa, zqb, zqc, zqd, zqe])); ((apply (zake_value (k := 4) rfl (by kernel_rfl) (fun _ _ _ => id))); exact rfl; assumption; (first | (apply (q_load Tryd.isAgg60); exact rfl; (with_reducible repeat first | exact pH | apply pT); ((try simp only [zqf, zqg, zqh]) <;> exact rfl)) | (apply (q_load_rd Tryd.isAgg60); exact rfl; (first | assumption | (apply Rd.own; focus ((with_reducible repeat first | exact pH | apply pT); done)) | (focus ((repeat first | assumption | with_reducible apply Rd.cons); done)) | with_reducible exact Rd.nil); (first | assumption | exact rfl)) | (apply (q_load_at Tryd.isAgg60); exact rfl; (first | assumption | (apply Rd.own; focus ((with_reducible repeat first | exact pH | apply pT); done)) | (focus ((repeat first | assumption | with_reducible apply Rd.cons); done)) | with_reducible exact Rd.nil))); (try simp only [Act.put, zqa, zqb, zqc, zqd, zqe])); ((apply (zake_value (k := 5) rfl (by kernel_rfl) (fun _ _ _ => id))); exact rfl; assumption; (apply q_move; ((conv => lhs; whnf) <;> exact rfl)); (try simp only [Act.put, zqa, zqb, zqc, zqd, zqe])); ((apply (zake_value (k := 6) rfl (by kernel_rfl) (fun _ _ _ => id))); exact rfl; assumption; (exact q_nilCheck rfl); (try simp only [Act.put, zqa, zqb, zqc, zqd, zqe])); ((apply (zake_value (k := 7) rfl (by kernel_rfl) (fun _ _ _ => id))); exact rfl; assumption; (intro _ _; go_simp; (try exact rfl)); (try simp only [Act.put, zqa, zqb, zqc, zqd, zqe])); ((apply (zake_value (k := 8) rfl (by kernel_rfl) (fun _ _ _ => id))); exact rfl; assumption; (first | (apply (q_load Tryd.isAgg37); exact rfl; (with_reducible repeat first | exact pH | apply pT); ((try simp only [zqf, zqg, zqh]) <;> exact rfl)) | (apply (q_load_rd Tryd.isAgg37); exact rfl; (first | assumption | (apply Rd.own; focus ((with_reducible repeat first | exact pH | apply pT); done)) | (focus ((repeat first | assumption | with_reducible apply Rd.cons); done)) | with_reducible exact Rd.nil); (first | assumption | exact rfl)) | (apply (q_load_at Tryd.isAgg37); exact rfl; (first | assumption | (apply Rd.own; focus ((with_reducible repeat first | exact pH | apply pT); done)) | (focus ((repeat first | assumption | with_reducible apply Rd.cons); done)) | with_reducible exact Rd.nil))); (try simp only [Act.put, zqa, zqb, zqc, zqd, zqe])); ((apply (zake_value (k := 9) rfl (by kernel_rfl) (fun _ _ _ => id))); exact rfl; assumption; (exact q_len Tryd.underlying37 rfl); (try simp only [Act.put, zqa, zqb, zqc, zqd, zqe])); (apply (zake_active (k := 10) (by kernel_rfl) (by decide) rfl)); (first | ((with_reducible apply wpl_build1 sl60); exact rfl; ((conv => lhs; whnf) <;> exact rfl); rfl; assumption; intro _ _ _; (try simp only [Act.put, zqa, zqb, zqc, zqd, zqe]))); (refine KQ_nil ⟨Sat.sub (by assumption) ?_⟩ ?_); (with_reducible repeat first | exact pH | exact Sub.refl _ | exact Sub.nil | apply pT | apply Sub.cons | apply Sub.skip); intro _; (try simp only [Act.put, zqa, zqb, zqc, zqd, zqe]); (apply (zake_active (k := 11) (by kernel_rfl) (by decide) rfl)); (first | ((with_reducible apply wpl_append_nil sl60); exact rfl; exact rfl; exact rfl; assumption; (first | assumption | (apply Rd.own; focus ((with_reducible repeat first | exact pH | apply pT); done)) | (focus ((repeat first | assumption | with_reducible apply Rd.cons); done)) | with_reducible exact Rd.nil); (first | rfl | assumption | (simp <;> done) | (simp <;> omega)); (first | exact bv_one _ | exact iv_one _ | exact pcV_one _ | assumption | (simp [Value.oneCell'] <;> done)); (first | omega | (simp <;> omega)); (show _ ≤ 9223372036854775807; omega); intro _ _ _ _; (try simp only [Act.put, zqa, zqb, zqc, zqd, zqe])) | ((with_reducible apply wpl_append sl60); exact rfl; exact rfl; exact rfl; assumption; (with_reducible repeat first | exact pH | apply pT); (first | assumption | (apply Rd.own; focus ((with_reducible repeat first | exact pH | apply pT); done)) | (focus ((repeat first | assumption | with_reducible apply Rd.cons); done)) | with_reducible exact Rd.nil); (first | rfl | assumption | (simp <;> done) | (simp <;> omega)); (first | exact bv_one _ | exact iv_one _ | exact pcV_one _ | assumption | (simp [Value.oneCell'] <;> done)); (first | omega | (simp <;> omega)); (show _ ≤ 9223372036854775807; omega); intro _ _ _ _; (try simp only [Act.put, zqa, zqb, zqc, zqd, zqe]))); (refine KQ_nil ⟨Sat.sub (by assumption) ?_⟩ ?_); (with_reducible repeat first | exact pH | exact Sub.refl _ | exact Sub.nil | apply pT | apply Sub.cons | apply Sub.skip); intro _; (try simp only [Act.put, zqa, zqb, zqc, zqd, zqe]); ((apply (zake_value (k := 12) rfl (by kernel_rfl) (fun _ _ _ => id))); exact rfl; assumption; (exact q_nilCheck rfl); (try simp only [Act.put, zqa, zqb, zqc, zqd, zqe])); ((apply (zake_value (k := 13) rfl (by kernel_rfl) (fun _ _ _ => id))); exact rfl; assumption; (intro _ _; go_simp; (try exact rfl)); (try simp only [Act.put, zqa, zqb, zqc, zqd, zqe])); (apply (zake_last (by kernel_rfl) rfl (by kernel_rfl))); (first | ((with_reducible apply wpl_store Tryd.sizeOf60); exact rfl; exact rfl; ((conv => lhs; whnf) <;> exact rfl); exact rfl; assumption; (with_reducible repeat first | exact pH | apply pT); (exact Nat.le_of_ble_eq_true rfl); ((try simp only [zqa, zqb, zqc]) <;> exact rfl); intro _ _; (try simp only [Act.put, zqa, zqb, zqc, zqd, zqe])) | ((with_reducible apply wpl_store_own Tryd.sizeOf60); exact rfl; exact rfl; ((conv => lhs; whnf) <;> exact rfl); exact rfl; assumption; (with_reducible repeat first | exact pH | apply pT); (first | assumption | (simp <;> omega)); intro _ _; (try simp only [Act.put, zqa, zqb, zqc, zqd, zqe]))); (refine KQ_end ?_); (try simp only [Act.put, zqa, zqb, zqc, zqd, zqe])))
  go_end0
  obtain ⟨g1, g2, g3, g4⟩ := HOK.out
  refine ⟨rfl, ?_⟩
  apply WrOk.shut ⟨g1, g2, by simp; omega, fun n hn => by
    rcases List.mem_append.1 hn with hn | hn
    · exact g4 n hn
    · have := List.mem_singleton.1 hn; omega⟩
  have e : iv (opn ++ [out.length]) = iv opn ++ [Value.int .i64 (out.length : Int)] := by simp [iv]
  rw [e, List.length_append, List.length_singleton]
  refine Sat.sub (by assumption) ?_
  (with_reducible repeat first | exact pH | exact Sub.refl _ | exact Sub.nil | apply pT | apply Sub.cons | apply Sub.skip)
theorem iv_get (l : List Nat) (i : Nat) (h : i < l.length) : (iv l)[i]? = some (.int .i64 (l[i] : Int)) := by simp [iv, h]
set_option maxRecDepth 100000 in
set_option maxHeartbeats 1600000 in
theorem Seal_ok {p : Nat} (h0 : Sat w0 (WrOk b lim out (opn ++ [p]) :: L) w) (hr : out.length + 4 ≤ lim) :
    Calls Tryd.prog 135 #[.pointer (some ⟨b, 0, none⟩)] w fun e w' => e = .returned (.tuple #[]) ∧ Sat w0 (WrOk b lim (out ++ le 4 (csum (out.drop p))) opn :: L) w' := by
  have HP := Lib.hid (room_ok (n := 4) (by decide) h0 hr)
  obtain ⟨A, c, B, d, hok, h⟩ := WrOk.open_ h0
  have HOK := Lib.hid hok
  obtain ⟨h1, h2, h3, h4⟩ := hok
  have hp := h4 p (by simp)
  clear h4
  simp only [List.length_append, List.length_singleton] at h3
  have hv : (iv (opn ++ [p]))[opn.length]? = some (.int .i64 (p : Int)) := by simp [iv]
  clear h
  have hopen : ∀ w, Sat w0 (WrOk b lim out (opn ++ [p]) :: L) w → ∃ A c B d, out.length ≤ c ∧ Sat w0 (blk b (.cells #[.slice A out.length c, .int .i64 (lim : Int), .slice B (opn.length + 1) d, .int .i64 0] 237) :: own 5 1 A out.length c (bv out) :: own 3 1 B (opn.length + 1) d (iv (opn ++ [p])) :: L) w := fun w h => by
    obtain ⟨A, c, B, d, _, h⟩ := WrOk.open_ h
    have hcap := (own_cap h (.there .here)).1
    simp only [List.length_append, List.length_singleton] at h
    exact ⟨A, c, B, d, hcap, h⟩
  obtain ⟨A0, c0, B0, d0, _, hS0⟩ := hopen w h0
  have hpl : ((opn.length : Int) + 1 == 0) = false := by simp; omega
  have hu := csum_lt (out.drop p)
  clear h0
  go_enter Tryd.func135, Tryd.ntmps135
  go_wp2_with (first | (go_at_call 165; refine HP.out.mono ?_; rintro _ _ ⟨rfl, h'⟩; obtain ⟨A1, c1, B1, d1, hc1, hS1⟩ := hopen _ h'; clear h') | (go_at_call 55; refine (sum_spec (l := out.drop p) (by assumption) ?_ ?_ ?_).mono ?_; exact Rd.bytes_to (Rd.own (by (with_reducible repeat first | exact pH | apply pT))) hc1 _; simp; (show _ ≤ 9223372036854775807; omega); rintro _ _ ⟨rfl, rfl⟩) | (go_at_call 113; refine (U32_ok hu (WrOk.shut (L := L) (A := A1) (c := c1) (B := B1) (d := d1) HOK.out (by simpa using ‹Sat w0 _ _›)) hr).mono ?_; rintro _ _ ⟨rfl, h''⟩; obtain ⟨A2, c2, B2, d2, hok2, hS2⟩ := WrOk.open_ h''; simp only [List.length_append, List.length_singleton] at hS2; have hcap2 := (own_cap hS2 (.there (.there .here))).1; have HOK2 := Lib.hid hok2; clear hok2 h'') | ((with_reducible first | apply wpl_load Tryd.isAgg44 | apply wpl_load Tryd.isAgg60); exact rfl; exact rfl; assumption; (with_reducible repeat first | exact pH | apply pT); ((try simp only [zqf, zqg, zqh]) <;> exact rfl); (try simp only [Act.put, zqa, zqb, zqc, zqd, zqe])) | ((with_reducible first | apply wpl_load_rd Tryd.isAgg44 | apply wpl_load_rd Tryd.isAgg60); exact rfl; exact rfl; assumption; (first | assumption | (apply Rd.own; focus ((with_reducible repeat first | exact pH | apply pT); done)) | (focus ((repeat first | assumption | with_reducible apply Rd.cons); done)) | with_reducible exact Rd.nil); (first | assumption | exact rfl); (try simp only [Act.put, zqa, zqb, zqc, zqd, zqe])) | ((with_reducible first | apply wpl_store Tryd.sizeOf44 | apply wpl_store Tryd.sizeOf60); exact rfl; exact rfl; ((conv => lhs; whnf) <;> exact rfl); exact rfl; assumption; (with_reducible repeat first | exact pH | apply pT); (exact Nat.le_of_ble_eq_true rfl); ((try simp only [zqa, zqb, zqc]) <;> exact rfl); intro _ _; (try simp only [Act.put, zqa, zqb, zqc, zqd, zqe])) | ((with_reducible first | apply wpl_store_own Tryd.sizeOf44 | apply wpl_store_own Tryd.sizeOf60); exact rfl; exact rfl; ((conv => lhs; whnf) <;> exact rfl); exact rfl; assumption; (with_reducible repeat first | exact pH | apply pT); (first | assumption | (simp <;> omega)); intro _ _; (try simp only [Act.put, zqa, zqb, zqc, zqd, zqe])) | ((with_reducible apply (wp_drawZ 5 15 14 _ (by kernel_rfl) (by kernel_rfl))); exact rfl; assumption; (exact Sub.refl _); intro _ _ _; ((apply (zake_value (k := 0) rfl (by kernel_rfl) (fun _ _ _ => id))); exact rfl; assumption; (apply q_move; ((conv => lhs; whnf) <;> exact rfl)); (try simp only [Act.put, zqa, zqb, zqc, zqd, zqe])); ((apply (zake_value (k := 1) rfl (by kernel_rfl) (fun _ _ _ => id))); exact rfl; assumption; (apply q_move; ((conv => lhs; whnf) <;> exact rfl)); (try simp only [Act.put, zqa, zqb, zqc, zqd, zqe])); ((apply (zake_value (k := 2) rfl (by kernel_rfl) (fun _ _ _ => id))); exact rfl; assumption; (exact q_nilCheck rfl); (try simp only [Act.put, zqa, zqb, zqc, zqd, zqe])); ((apply (zake_value (k := 3) rfl (by kernel_rfl) (fun _ _ _ => id))); exact rfl; assumption; (intro _ _; go_simp; (try exact rfl)); (try simp only [Act.put, zqa, zqb, zqc, zqd, zqe])); ((apply (zake_value (k := 4) rfl (by kernel_rfl) (fun _ _ _ => id))); exact rfl; assumption; (first | (apply (q_load Tryd.isAgg37); exact rfl; (with_reducible repeat first | exact pH | apply pT); ((try simp only [zqf, zqg, zqh]) <;> exact rfl)) | (apply (q_load_rd Tryd.isAgg37); exact rfl; (first | assumption | (apply Rd.own; focus ((with_reducible repeat first | exact pH | apply pT); done)) | (focus ((repeat first | assumption | with_reducible apply Rd.cons); done)) | with_reducible exact Rd.nil); (first | assumption | exact rfl)) | (apply (q_load_at Tryd.isAgg37); exact rfl; (first | assumption | (apply Rd.own; focus ((with_reducible repeat first | exact pH | apply pT); done)) | (focus ((repeat first | assumption | with_reducible apply Rd.cons); done)) | with_reducible exact Rd.nil))); (try simp only [Act.put, zqa, zqb, zqc, zqd, zqe])); ((apply (zake_value (k := 5) rfl (by kernel_rfl) (fun _ _ _ => id))); exact rfl; assumption; (apply q_move; ((conv => lhs; whnf) <;> exact rfl)); (try simp only [Act.put, zqa, zqb, zqc, zqd, zqe])); ((apply (zake_value (k := 6) rfl (by kernel_rfl) (fun _ _ _ => id))); exact rfl; assumption; (exact q_nilCheck rfl); (try simp only [Act.put, zqa, zqb, zqc, zqd, zqe])); ((apply (zake_value (k := 7) rfl (by kernel_rfl) (fun _ _ _ => id))); exact rfl; assumption; (intro _ _; go_simp; (try exact rfl)); (try simp only [Act.put, zqa, zqb, zqc, zqd, zqe])); ((apply (zake_value (k := 8) rfl (by kernel_rfl) (fun _ _ _ => id))); exact rfl; assumption; (first | (apply (q_load Tryd.isAgg60); exact rfl; (with_reducible repeat first | exact pH | apply pT); ((try simp only [zqf, zqg, zqh]) <;> exact rfl)) | (apply (q_load_rd Tryd.isAgg60); exact rfl; (first | assumption | (apply Rd.own; focus ((with_reducible repeat first | exact pH | apply pT); done)) | (focus ((repeat first | assumption | with_reducible apply Rd.cons); done)) | with_reducible exact Rd.nil); (first | assumption | exact rfl)) | (apply (q_load_at Tryd.isAgg60); exact rfl; (first | assumption | (apply Rd.own; focus ((with_reducible repeat first | exact pH | apply pT); done)) | (focus ((repeat first | assumption | with_reducible apply Rd.cons); done)) | with_reducible exact Rd.nil))); (try simp only [Act.put, zqa, zqb, zqc, zqd, zqe])); ((apply (zake_value (k := 9) rfl (by kernel_rfl) (fun _ _ _ => id))); exact rfl; assumption; (apply q_move; ((conv => lhs; whnf) <;> exact rfl)); (try simp only [Act.put, zqa, zqb, zqc, zqd, zqe])); ((apply (zake_value (k := 10) rfl (by kernel_rfl) (fun _ _ _ => id))); exact rfl; assumption; (apply (q_index sl60); exact rfl; exact rfl; (first | assumption | (apply Rd.own; focus ((with_reducible repeat first | exact pH | apply pT); done)) | (focus ((repeat first | assumption | with_reducible apply Rd.cons); done)) | with_reducible exact Rd.nil); omega; omega; (first | assumption | (simp only [bv_length]; omega) | (simp only [iv_length, List.length_append, List.length_singleton]; omega) | (simp <;> omega))); (try simp only [Act.put, zqa, zqb, zqc, zqd, zqe])); ((apply (zake_value (k := 11) rfl (by kernel_rfl) (fun _ _ _ => id))); exact rfl; assumption; (first | (apply (q_load Tryd.isAgg3); exact rfl; (with_reducible repeat first | exact pH | apply pT); ((try simp only [zqf, zqg, zqh]) <;> exact rfl)) | (apply (q_load_rd Tryd.isAgg3); exact rfl; (first | assumption | (apply Rd.own; focus ((with_reducible repeat first | exact pH | apply pT); done)) | (focus ((repeat first | assumption | with_reducible apply Rd.cons); done)) | with_reducible exact Rd.nil); (first | assumption | exact rfl)) | (apply (q_load_at Tryd.isAgg3); exact rfl; (first | assumption | (apply Rd.own; focus ((with_reducible repeat first | exact pH | apply pT); done)) | (focus ((repeat first | assumption | with_reducible apply Rd.cons); done)) | with_reducible exact Rd.nil))); (try simp only [Act.put, zqa, zqb, zqc, zqd, zqe])); ((apply (zake_value (k := 12) rfl (by kernel_rfl) (fun _ _ _ => id))); exact rfl; assumption; (apply (q_slice (kh := .i64) sl37); exact rfl; exact .inr ⟨_, rfl, rfl⟩; (exact .inl ⟨rfl, rfl⟩); omega; omega; omega); (try simp only [Act.put, zqa, zqb, zqc, zqd, zqe])); (apply (zake_active (k := 13) (by kernel_rfl) (by decide) rfl)); ((apply (wpl_call Tryd.call55)); exact rfl; (simp only [List.map_toArray, List.map_cons, List.map_nil]; exact rfl); refine (sum_spec (l := out.drop p) (by assumption) ?_ ?_ ?_).mono ?_; exact Rd.bytes_to (Rd.own (by (with_reducible repeat first | exact pH | apply pT))) hc1 _; simp; (show _ ≤ 9223372036854775807; omega); rintro _ _ ⟨rfl, rfl⟩; (refine ⟨_, rfl, ?_⟩); (try simp only [Act.put, zqa, zqb, zqc, zqd, zqe])); (refine KQ_nil ⟨Sat.sub (by assumption) ?_⟩ ?_); (with_reducible repeat first | exact pH | exact Sub.refl _ | exact Sub.nil | apply pT | apply Sub.cons | apply Sub.skip); intro _; (try simp only [Act.put, zqa, zqb, zqc, zqd, zqe]); (apply (zake_last (by kernel_rfl) rfl (by kernel_rfl))); ((apply (wpl_call Tryd.call113)); exact rfl; (simp only [List.map_toArray, List.map_cons, List.map_nil]; exact rfl); refine (U32_ok hu (WrOk.shut (L := L) (A := A1) (c := c1) (B := B1) (d := d1) HOK.out (by simpa using ‹Sat w0 _ _›)) hr).mono ?_; rintro _ _ ⟨rfl, h''⟩; obtain ⟨A2, c2, B2, d2, hok2, hS2⟩ := WrOk.open_ h''; simp only [List.length_append, List.length_singleton] at hS2; have hcap2 := (own_cap hS2 (.there (.there .here))).1; have HOK2 := Lib.hid hok2; clear hok2 h''; (refine ⟨_, rfl, ?_⟩); (try simp only [Act.put, zqa, zqb, zqc, zqd, zqe])); (refine KQ_end ?_); (try simp only [Act.put, zqa, zqb, zqc, zqd, zqe])) | ((with_reducible apply (wpl_slice (kl := .i64) sl60)); exact rfl; exact rfl; (exact .inl ⟨rfl, rfl⟩); exact .inr ⟨_, rfl, rfl⟩; omega; omega; omega; (try simp only [Act.put, zqa, zqb, zqc, zqd, zqe])))
  go_end0
  obtain ⟨g1, g2, g3, g4⟩ := HOK2.out
  refine ⟨rfl, ?_⟩
  rename_i hE
  simp only [Int.toNat_zero, subA_zero, Nat.sub_zero] at hE
  have hF := own_cut hE (.there (.there .here)) opn.length (by omega)
  rw [Nat.mul_one, show (iv (opn ++ [p])).take opn.length = iv opn from by simp [iv]] at hF
  refine WrOk.shut (A := A2) (c := c2) (B := B2) (d := d2) ⟨g1, g2, by simp at g3; omega, fun n hn => g4 n (by simp [hn])⟩ (Sat.sub hF ?_)
  simp only [List.length_append]
  (with_reducible repeat first | exact pH | exact Sub.refl _ | exact Sub.nil | apply pT | apply Sub.cons | apply Sub.skip)
set_option maxHeartbeats 800000 in
theorem Out_ok (h : Sat w0 (WrOk b lim out [] :: L) w) :
    Calls Tryd.prog 136 #[.pointer (some ⟨b, 0, none⟩)] w fun e w' => ∃ A c, e = .returned (.tuple #[.slice A out.length c, .int .i64 0]) ∧ Sat w0 (own 5 1 A out.length c (bv out) :: WrOk b lim out [] :: L) w' := by
  obtain ⟨A, c, B, d, hok, h⟩ := WrOk.open_ h
  have HOK := Lib.hid hok
  obtain ⟨h1, h2, _⟩ := hok
  go_enter Tryd.func136, Tryd.ntmps136
  go_wp2_with (first | ((with_reducible first | apply wpl_load Tryd.isAgg44 | apply wpl_load Tryd.isAgg60 | apply wpl_load Tryd.isAgg37); exact rfl; exact rfl; assumption; (with_reducible repeat first | exact pH | apply pT); ((try simp only [zqf, zqg, zqh]) <;> exact rfl); (try simp only [Act.put, zqa, zqb, zqc, zqd, zqe])) | ((with_reducible first | apply wpl_load_rd Tryd.isAgg44 | apply wpl_load_rd Tryd.isAgg60 | apply wpl_load_rd Tryd.isAgg37); exact rfl; exact rfl; assumption; (first | assumption | (apply Rd.own; focus ((with_reducible repeat first | exact pH | apply pT); done)) | (focus ((repeat first | assumption | with_reducible apply Rd.cons); done)) | with_reducible exact Rd.nil); (first | assumption | exact rfl); (try simp only [Act.put, zqa, zqb, zqc, zqd, zqe])) | ((with_reducible apply (wp_draw 2 6 _ (by kernel_rfl))); exact rfl; assumption; (exact Sub.refl _); intro _ _ _; ((apply (take_value (k := 0) rfl (by kernel_rfl) (by kernel_rfl) (by kernel_rfl) (fun _ _ _ => id))); exact rfl; assumption; (apply q_move; ((conv => lhs; whnf) <;> exact rfl)); (try simp only [Act.put, zqa, zqb, zqc, zqd, zqe])); ((apply (take_value (k := 1) rfl (by kernel_rfl) (by kernel_rfl) (by kernel_rfl) (fun _ _ _ => id))); exact rfl; assumption; (exact q_nilCheck rfl); (try simp only [Act.put, zqa, zqb, zqc, zqd, zqe])); ((apply (take_value (k := 2) rfl (by kernel_rfl) (by kernel_rfl) (by kernel_rfl) (fun _ _ _ => id))); exact rfl; assumption; (intro _ _; go_simp; (try exact rfl)); (try simp only [Act.put, zqa, zqb, zqc, zqd, zqe])); ((apply (take_value (k := 3) rfl (by kernel_rfl) (by kernel_rfl) (by kernel_rfl) (fun _ _ _ => id))); exact rfl; assumption; (first | (apply (q_load Tryd.isAgg44); exact rfl; (with_reducible repeat first | exact pH | apply pT); ((try simp only [zqf, zqg, zqh]) <;> exact rfl)) | (apply (q_load_rd Tryd.isAgg44); exact rfl; (first | assumption | (apply Rd.own; focus ((with_reducible repeat first | exact pH | apply pT); done)) | (focus ((repeat first | assumption | with_reducible apply Rd.cons); done)) | with_reducible exact Rd.nil); (first | assumption | exact rfl)) | (apply (q_load_at Tryd.isAgg44); exact rfl; (first | assumption | (apply Rd.own; focus ((with_reducible repeat first | exact pH | apply pT); done)) | (focus ((repeat first | assumption | with_reducible apply Rd.cons); done)) | with_reducible exact Rd.nil))); (try simp only [Act.put, zqa, zqb, zqc, zqd, zqe])); ((apply (take_value (k := 4) rfl (by kernel_rfl) (by kernel_rfl) (by kernel_rfl) (fun _ _ _ => id))); exact rfl; assumption; (apply q_assign; ((conv => lhs; whnf) <;> exact rfl)); (try simp only [Act.put, zqa, zqb, zqc, zqd, zqe])); ((apply (take_value (k := 5) rfl (by kernel_rfl) (by kernel_rfl) (by kernel_rfl) (fun _ _ _ => id))); exact rfl; assumption; (apply q_assign; ((conv => lhs; whnf) <;> exact rfl)); (try simp only [Act.put, zqa, zqb, zqc, zqd, zqe])); (refine take_done (by kernel_rfl) ?_)) | ((with_reducible apply wpl_append_nil sl37); exact rfl; exact rfl; exact rfl; assumption; (first | assumption | (apply Rd.own; focus ((with_reducible repeat first | exact pH | apply pT); done)) | (focus ((repeat first | assumption | with_reducible apply Rd.cons); done)) | with_reducible exact Rd.nil); (first | rfl | assumption | (simp <;> done) | (simp <;> omega)); (first | exact bv_one _ | exact iv_one _ | exact pcV_one _ | assumption | (simp [Value.oneCell'] <;> done)); (first | omega | (simp <;> omega)); (show _ ≤ 9223372036854775807; omega); intro _ _ _ _; (try simp only [Act.put, zqa, zqb, zqc, zqd, zqe])) | ((with_reducible apply wpl_append sl37); exact rfl; exact rfl; exact rfl; assumption; (with_reducible repeat first | exact pH | apply pT); (first | assumption | (apply Rd.own; focus ((with_reducible repeat first | exact pH | apply pT); done)) | (focus ((repeat first | assumption | with_reducible apply Rd.cons); done)) | with_reducible exact Rd.nil); (first | rfl | assumption | (simp <;> done) | (simp <;> omega)); (first | exact bv_one _ | exact iv_one _ | exact pcV_one _ | assumption | (simp [Value.oneCell'] <;> done)); (first | omega | (simp <;> omega)); (show _ ≤ 9223372036854775807; omega); intro _ _ _ _; (try simp only [Act.put, zqa, zqb, zqc, zqd, zqe])))
  go_ret2
  refine ⟨_, _, rfl, Sat.swap ?_⟩
  apply WrOk.shut HOK.out
  refine Sat.sub (by assumption) ?_
  (with_reducible repeat first | exact pH | exact Sub.refl _ | exact Sub.nil | apply pT | apply Sub.cons | apply Sub.skip)
set_option maxHeartbeats 800000 in
theorem NewWriter_ok {n : Nat} (hn : n ≤ 1048576) (h : Sat w0 L w) :
    Calls Tryd.prog 107 #[.int .i64 (n : Int)] w fun e w' => ∃ b, e = .returned (.pointer (some ⟨b, 0, none⟩)) ∧ Sat w0 (WrOk b n [] [] :: L) w' := by
  go_enter Tryd.func107, Tryd.ntmps107
  go_wp2_with (first | ((with_reducible apply wpl_box (T := 237)); ((conv => lhs; whnf) <;> exact rfl); ((conv => lhs; whnf) <;> exact rfl); assumption; intro _ _ _; (try simp only [Act.put, zqa, zqb, zqc, zqd, zqe])))
  all_goals
    go_ret
    refine ⟨_, rfl, ?_⟩
    rename_i g w1 hS
    replace hS : Sat w0 (blk g (.cells #[.slice none 0 0, .int .i64 (if 0 < n then (n : Int) else 0), .slice none 0 0, .int .i64 0] 237) :: L) w1 := hS
    have e : (if 0 < n then (n : Int) else 0) = n := by split <;> omega
    rw [e] at hS
    refine WrOk.shut (A := none) (c := 0) (B := none) (d := 0) ⟨hn, Nat.zero_le _, Nat.zero_le _, by simp⟩ (Sat.sub (own_nil (T := 5) (s := 1) (own_nil (T := 3) (s := 1) hS)) ?_)
    change Sub (blk g (.cells #[.slice none 0 0, .int .i64 (n : Int), .slice none 0 0, .int .i64 0] 237) :: own 5 1 none 0 0 [] :: own 3 1 none 0 0 [] :: L) _
    (with_reducible repeat first | exact pH | exact Sub.refl _ | exact Sub.nil | apply pT | apply Sub.cons | apply Sub.skip)
end
end Go.Proofs.YtgobibgpkcdmdaaDoor
