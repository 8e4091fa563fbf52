/- The walk of package ferry's read. -/
import Derived.Test.YtgobibgpkcdmdaaDoorWForm2
import Derived.Test.YtgobibgpkcdmdaaDoorPRaw
import Derived.Laws.ResultCell
set_option linter.all false
namespace Go.Proofs.YtgobibgpkcdmdaaDoor
open Go Go.RowKit
attribute [local irreducible] Calls
theorem seal_some {b y : List UInt8} (h : raw b = some y) : Rr.seal ⟨b, 0, 0⟩ ((b.length : Int) - 4) = (y, ⟨b, b.length, 0⟩) := by
  unfold raw at h
  split at h
  · rename_i hc
    obtain ⟨h4, hs⟩ := hc
    have hh : Rr.has ⟨b, 0, 0⟩ ((b.length : Int) - 4) = true := by simp [Rr.has]; omega
    have e : ((b.length : Int) - 4).toNat = b.length - 4 := by omega
    have e4 : b.length - 4 + 4 = b.length := by omega
    obtain rfl := Option.some.inj h
    unfold Rr.seal
    rw [hh, if_neg (by simp)]
    simp only [e, Nat.zero_add, e4, List.drop_zero, hs, if_true, Nat.lt_irrefl, if_false]
  · cases h
theorem seal_none {b : List UInt8} (h : raw b = none) : ∃ e : Nat, ((e : Int) != 0) = true ∧ Rr.seal ⟨b, 0, 0⟩ ((b.length : Int) - 4) = ([], ⟨b, 0, e⟩) := by
  unfold raw at h
  split at h
  · cases h
  · rename_i hc
    by_cases h4 : 4 ≤ b.length
    · have hs : ¬ leVal ((b.drop (b.length - 4)).take 4) = csum (b.take (b.length - 4)) := fun h => hc ⟨h4, h⟩
      have hh : Rr.has ⟨b, 0, 0⟩ ((b.length : Int) - 4) = true := by simp [Rr.has]; omega
      have e : ((b.length : Int) - 4).toNat = b.length - 4 := by omega
      have e4 : b.length - 4 + 4 = b.length := by omega
      refine ⟨21, rfl, ?_⟩
      unfold Rr.seal
      rw [hh, if_neg (by simp)]
      simp only [e, Nat.zero_add, e4, List.drop_zero, hs, Nat.lt_irrefl, if_false]
    · have hh : Rr.has ⟨b, 0, 0⟩ ((b.length : Int) - 4) = false := by simp [Rr.has]; omega
      refine ⟨1, rfl, ?_⟩
      unfold Rr.seal
      rw [hh, if_pos rfl]
      unfold Rr.hased
      rw [if_neg (by simp), if_pos (by omega)]
def rs1 (y : List UInt8) : Rr := Rr.take ⟨y, 0, 0⟩ 1
def rs2 (y : List UInt8) : Rr := (rs1 y).take 4
def rs3 (y : List UInt8) : Rr := (rs2 y).take 4
def rs4 (y : List UInt8) : Rr := (rs3 y).take 2
def rs5 (y : List UInt8) : Rr := (rs4 y).blkd (((rs4 y).inp.length : Int) - (rs4 y).at_)
/-- The packet that bytes hold. -/
def Pk.of (y : List UInt8) : Pk := ⟨Rr.val ⟨y, 0, 0⟩ 1, (rs1 y).val 4, (rs2 y).val 4, (rs3 y).val 2, (rs4 y).blk (((rs4 y).inp.length : Int) - (rs4 y).at_)⟩
theorem take_inp (s : Rr) (n : Nat) : (s.take n).inp = s.inp := by unfold Rr.take Rr.hased; repeat (first | split | rfl)
theorem take_at (s : Rr) (n : Nat) (h : s.at_ ≤ s.inp.length) : (s.take n).at_ ≤ s.inp.length := by
  unfold Rr.take Rr.hased
  split
  · rename_i hh
    exact (Rr.has_ok hh).2
  · repeat (first | split | exact h)
theorem blk_le (s : Rr) (n : Int) : (s.blk n).length ≤ s.inp.length := by
  unfold Rr.blk
  split
  · rw [List.length_take, List.length_drop]; omega
  · exact Nat.zero_le _
theorem rs4_inp (y : List UInt8) : (rs4 y).inp = y := by simp [rs4, rs3, rs2, rs1, take_inp]
theorem take_ok (s : Rr) (n : Nat) (h : s.at_ ≤ s.inp.length) : (s.take n).at_ ≤ (s.take n).inp.length := by rw [take_inp]; exact take_at _ _ h
theorem rs4_at (y : List UInt8) : (rs4 y).at_ ≤ (rs4 y).inp.length := take_ok _ _ (take_ok _ _ (take_ok _ _ (take_ok _ _ (Nat.zero_le _))))
theorem ret_cell_tmp {fn : Func} {q u : Tmp} {T : TypeId} {P : Program} {w0 w : World} {L L' : List SProp} {b n : Nat} {cs : Array Value} {T' : TypeId} {tmps : Array Value} (h : fn.results = #[.cell q T, .tmp u])
    (hagg : ∀ w, (isAgg T).run P w = .ok true w) (hs : ∀ w, (sizeOf T).run P w = .ok n w) (hp : tmps.getD q undef = .pointer (some ⟨b, 0, none⟩)) (hS : Sat w0 L w) (pl : Pull (blk b (.cells cs T' (0, 0))) L L') (hn : cs.size = n) :
    (results fn tmps).run P w = .ok (.tuple #[.agg cs, tmps.getD u undef]) w := by
  have hl := run_loadCells_list (P := P) w ⟨b, 0, none⟩ cs.toList (fun j u hu => by
    rw [Addr.add_lit, cell_of_row w b (0 + j) cs T' (0, 0) (hS.heap_of pl)]
    simpa using hu)
  have hlen : cs.toList.length = n := by simpa using hn
  rw [hlen] at hl
  rw [results_cell_tmp h, hp]
  simp [asAddr, loadVar, hagg, hs, hl, Result.andThen]
def pkV (k : Int) (p : Pk) (B : Option Addr) (d : Nat) : Value := .agg #[.int .i64 k, .int .i64 (p.len : Int), .int .u32 (p.sum : Int), .int .i64 (p.num : Int), .slice B p.rest.length d]
section
variable {w0 w : World} {L L' : List SProp} {b : List UInt8} {n s : Nat}

set_option maxRecDepth 100000 in
set_option maxHeartbeats 200000 in
theorem read_raw {k : Nat} {A : Option Addr} {c : Nat} (hb : b.length ≤ 2000000) (hr : raw b = none) (h : Sat w0 L w) (hl : Rd L A (bv b)) :
    Calls Tryd.prog 85 #[.slice A b.length c, .int .i64 (k : Int)] w fun e w' => (∃ (v0 v1 v2 v3 : Int) (v4 : Option Addr) (v5 v6 : Nat), e = .returned (.tuple #[.agg #[.int .i64 v0, .int .i64 v1, .int .u32 v2, .int .i64 v3, .slice v4 v5 v6], .bool false])) ∧ Sat w0 L w' := by
  obtain ⟨e, hez, ES⟩ := seal_none hr
  have hb : b.length ≤ 140737488351232 := by omega
  have hy : ([] : List UInt8).length ≤ 140737488351232 := Nat.zero_le _
  have EE : Rr.ended ⟨b, 0, e⟩ = e := by simp at hez; simp [Rr.ended, hez]
  clear hr
  go_enter Tryd.func85, Tryd.ntmps85
  go_wp2_with (first | (go_at_call 104; refine (NewReader_spec hb (by assumption) (Rd.cons hl) rfl).mono ?_; rintro _ _ ⟨r1, rfl, hr1⟩) | (go_at_call 137; refine (Sealed_spec (by omega) hr1).mono ?_; rintro _ _ ⟨B, d, he, hs1⟩; rw [ES] at he hs1; subst he) | (go_at_call 104; refine (NewReader_spec (l := []) hy hs1 (Rd.own .here) rfl).mono ?_; rintro _ _ ⟨r2, rfl, hr2⟩) | (go_at_call 106; refine (End_spec (hr2.pull (.there (.there .here)))).mono ?_; rintro _ _ ⟨he, hq0⟩; rw [EE] at he; subst he) | ((with_reducible refine wpl_off ?_ ?_); exact rfl; (try simp only [Act.put, zqa, zqb, zqc, zqd, zqe])) | ((with_reducible apply wpl_alloc_agg Tryd.zeroValue150); assumption; intro _ _ _; (try simp only [Act.put, zqa, zqb, zqc, zqd, zqe])) | ((with_reducible apply wpl_store_agg Tryd.sizeOf150); exact rfl; exact rfl; ((conv => lhs; whnf) <;> exact rfl); exact rfl; simp [Value.oneCell']; assumption; (with_reducible repeat first | exact pH | apply pT); (exact Nat.le_of_ble_eq_true rfl); ((try simp only [zqi, zqj, zqk, zql, zqm, zqn, Nat.reduceAdd, Nat.reduceSub]) <;> exact rfl); intro _ _; (try simp only [Act.put, zqa, zqb, zqc, zqd, zqe])))
  refine bodyPost_ret (ret_cell_tmp rfl Tryd.isAgg150 Tryd.sizeOf150 rfl (by assumption) .here (n := 5) rfl) rfl ?_
  refine ⟨⟨0, 0, 0, 0, none, 0, 0, rfl⟩, ?_⟩
  refine Sat.sub (by assumption) ?_
  (with_reducible repeat first | exact pH | exact Sub.refl _ | exact Sub.nil | apply pT | apply Sub.cons | apply Sub.skip)

theorem raw_le {y : List UInt8} (h : raw b = some y) : y.length ≤ b.length := by
  unfold raw at h
  split at h
  · obtain rfl := Option.some.inj h
    rw [List.length_take]; omega
  · cases h
theorem pk_le (y : List UInt8) : (Pk.of y).kind < 256 ∧ (Pk.of y).len < 4294967296 ∧ (Pk.of y).sum < 4294967296 ∧ (Pk.of y).num < 65536 ∧ (Pk.of y).rest.length ≤ y.length :=
  ⟨by have := val_lt (s := ⟨y, 0, 0⟩) 1; exact this, by have := val_lt (s := rs1 y) 4; exact this, by have := val_lt (s := rs2 y) 4; exact this, by have := val_lt (s := rs3 y) 2; exact this, by have := blk_le (rs4 y) (((rs4 y).inp.length : Int) - (rs4 y).at_); exact Nat.le_trans this (Nat.le_of_eq (by rw [rs4_inp]))⟩

end
end Go.Proofs.YtgobibgpkcdmdaaDoor
