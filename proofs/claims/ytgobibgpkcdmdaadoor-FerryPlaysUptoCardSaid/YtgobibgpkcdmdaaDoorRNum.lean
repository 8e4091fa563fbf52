/- The walks of amberref22's numbers and packets. -/
import Derived.Test.YtgobibgpkcdmdaaDoorWLaw1
import Derived.Test.YtgobibgpkcdmdaaDoorRules3
import Derived.Test.YtgobibgpkcdmdaaDoorPParse
set_option linter.all false
namespace Go.Proofs.YtgobibgpkcdmdaaDoor
open Go Go.RowKit
attribute [local irreducible] Calls
section
variable {w0 w : World} {L L' : List SProp}
set_option maxHeartbeats 400000 in
theorem rparts_spec {n P : Nat} (hP : (n + 63) / 64 = P) (hn : n < 4294967296) (w : World) :
    Calls Tryd.prog 122 #[.int .i64 (n : Int)] w fun e w' => e = .returned (.int .i64 (P : Int)) ∧ w = w' := by
  subst hP
  go_enter Tryd.func122, Tryd.ntmps122
  go_wp2
  go_ret
  exact ⟨by go_num, rfl⟩
set_option maxHeartbeats 400000 in
theorem rsize_spec {n k : Nat} (hn : n < 4294967296) (hk : k < (n + 63) / 64) (w : World) :
    Calls Tryd.prog 125 #[.int .i64 (n : Int), .int .i64 (k : Int)] w fun e w' => e = .returned (.int .i64 ((min 64 (n - k * 64) : Nat) : Int)) ∧ w = w' := by
  obtain ⟨P, hP⟩ : ∃ P, (n + 63) / 64 = P := ⟨_, rfl⟩
  obtain ⟨z, hz⟩ : ∃ z, min 64 (n - k * 64) = z := ⟨_, rfl⟩
  rw [hz]
  rw [hP] at hk
  have hPm : P < 4294967296 := by omega
  by_cases e : k + 1 = P
  · have he : ((k : Int) == (P : Int) - 1) = true := by simp; omega
    have hv : (n : Int) - 64 * k = z := by omega
    have HV := Lib.hid hv
    have HP := Lib.hid hP
    clear hv hP hz e
    go_enter Tryd.func125, Tryd.ntmps125
    go_wp2_with (first | (go_at_call 122; refine (rparts_spec HP.out hn _).mono ?_; rintro _ _ ⟨rfl, rfl⟩))
    go_ret
    exact ⟨congrArg (fun z => Ending.returned (Value.int .i64 z)) HV.out, rfl⟩
  · have he : ((k : Int) == (P : Int) - 1) = false := beq_false_of_ne (by omega)
    have hv : z = 64 := by omega
    have HV := Lib.hid hv
    have HP := Lib.hid hP
    clear hv hP hz e
    go_enter Tryd.func125, Tryd.ntmps125
    go_wp2_with (first | (go_at_call 122; refine (rparts_spec HP.out hn _).mono ?_; rintro _ _ ⟨rfl, rfl⟩))
    go_ret
    exact ⟨by rw [HV.out]; rfl, rfl⟩
set_option maxRecDepth 100000 in
set_option maxHeartbeats 1600000 in
theorem rput_spec {out : List UInt8} {v n m c : Nat} {A : Option Addr} (hn : n ≤ 8) (hv : v < 9223372036854775808) (hm : m = out.length) (hml : m ≤ 1000000) (h : Sat w0 (own 5 1 A m c (bv out) :: L) w) :
    Calls Tryd.prog 163 #[.slice A m c, .int .i64 (v : Int), .int .i64 (n : Int)] w fun e w' => ∃ B d, e = .returned (.slice B (m + n) d) ∧ Sat w0 (own 5 1 B (m + n) d (bv (out ++ le n v)) :: L) w' := by
  go_enter Tryd.func163, Tryd.ntmps163
  go_wp2
  go_loopw [0, 7] (fun t i wr => ∃ k : Nat, k ≤ n ∧ i = .int .i64 (k : Int) ∧ ∃ B d, t = .slice B (m + k) d ∧ Sat w0 (own 5 1 B (m + k) d (bv (out ++ (le n v).take k)) :: L) wr) (fun _ i _ => n - (intOf i).toNat)
  case atStart => exact ⟨0, by omega, rfl, A, c, rfl, by simpa using h⟩
  case round =>
    obtain ⟨k, hk, rfl, B, d, rfl, h⟩ := hrel
    by_cases hlt : k < n
    · go_wp2_with (first | ((with_reducible apply wpl_build1 sl37); exact rfl; ((conv => lhs; whnf) <;> exact rfl); rfl; assumption; intro _ _ _; (try simp only [Act.put, zqa, zqb, zqc, zqd, zqe])) | ((with_reducible apply wpl_append_nil sl37); exact rfl; exact rfl; exact rfl; assumption; (first | assumption | (apply Rd.own; focus ((with_reducible repeat first | exact pH | apply pT); done)) | (focus ((repeat first | assumption | with_reducible apply Rd.cons); done)) | with_reducible exact Rd.nil); (first | rfl | assumption | (simp <;> done) | (simp <;> omega)); (first | exact bv_one _ | exact iv_one _ | exact pcV_one _ | assumption | (simp [Value.oneCell'] <;> done)); (first | omega | (simp <;> omega)); (show _ ≤ 9223372036854775807; omega); intro _ _ _ _; (try simp only [Act.put, zqa, zqb, zqc, zqd, zqe])) | ((with_reducible apply wpl_append sl37); exact rfl; exact rfl; exact rfl; assumption; (with_reducible repeat first | exact pH | apply pT); (first | assumption | (apply Rd.own; focus ((with_reducible repeat first | exact pH | apply pT); done)) | (focus ((repeat first | assumption | with_reducible apply Rd.cons); done)) | with_reducible exact Rd.nil); (first | rfl | assumption | (simp <;> done) | (simp <;> omega)); (first | exact bv_one _ | exact iv_one _ | exact pcV_one _ | assumption | (simp [Value.oneCell'] <;> done)); (first | omega | (simp <;> omega)); (show _ ≤ 9223372036854775807; omega); intro _ _ _ _; (try simp only [Act.put, zqa, zqb, zqc, zqd, zqe])))
      go_roundw
      case rel =>
        refine ⟨k + 1, by omega, by go_num, Exists.intro ?zA (Exists.intro ?zc ⟨?zv, ?zh⟩)⟩
        case zv => rw [← Nat.add_assoc]
        case zh =>
          rw [put_next _ _ _ _ hlt, ← Nat.add_assoc]
          rw [← show ((2 : Int) ^ (8 * k)) = 256 ^ k from by rw [Int.pow_mul]; rfl]
          refine Sat.sub (by assumption) ?_
          (with_reducible repeat first | exact pH | exact Sub.refl _ | exact Sub.nil | apply pT | apply Sub.cons | apply Sub.skip)
      case measure => simp [intOf]; omega
    · obtain rfl : k = n := by omega
      go_wp2
      go_ret
      rw [List.take_of_length_le (by simp)] at h
      exact ⟨B, d, rfl, h⟩
theorem leVal_take (l : List UInt8) (k : Nat) (h : k < l.length) : leVal (l.take (k + 1)) = leVal (l.take k) + 256 ^ k * l[k].toNat := by
  induction l generalizing k with
  | nil => simp at h
  | cons x l ih =>
    cases k with
    | zero => simp [leVal]
    | succ k =>
      simp only [List.take_succ_cons, leVal, List.getElem_cons_succ]
      rw [ih k (by simpa using h), Nat.pow_succ, Nat.mul_add, Nat.mul_comm (256 ^ k) 256, Nat.mul_assoc]
      omega
/-- A number of n bytes at a place. -/
def gotAt (p : List UInt8) (at_ n : Nat) : Nat := leVal ((p.drop at_).take n)
theorem gotAt_lt (p : List UInt8) (at_ n : Nat) : gotAt p at_ n < 256 ^ n := by
  unfold gotAt
  refine Nat.lt_of_lt_of_le (leVal_lt _) (Nat.pow_le_pow_right (by decide) ?_)
  rw [List.length_take]; omega
theorem got_step {a x k : Nat} (hk : k < 4) (ha : a < 256 ^ k) (hx : x < 256) : wrap64 ((a : Int) + wrap64 ((x : Int) * 2 ^ (8 * k))) = ((a + 256 ^ k * x : Nat) : Int) := by
  have h : k = 0 ∨ k = 1 ∨ k = 2 ∨ k = 3 := by omega
  rcases h with rfl | rfl | rfl | rfl <;> simp [wrap64] at ha ⊢ <;> omega
set_option maxRecDepth 100000 in
set_option maxHeartbeats 1600000 in
theorem rgot_spec {p : List UInt8} {A : Option Addr} {m c at_ n : Nat} (hn : n ≤ 4) (hm : m = p.length) (hpl : p.length ≤ 140737488351232) (ha : at_ + n ≤ p.length) (h : Sat w0 L w) (hr : Rd L A (bv p)) :
    Calls Tryd.prog 127 #[.slice A m c, .int .i64 (at_ : Int), .int .i64 (n : Int)] w fun e w' => e = .returned (.int .i64 (gotAt p at_ n : Nat)) ∧ w = w' := by
  subst hm
  go_enter Tryd.func127, Tryd.ntmps127
  go_wp2
  go_loop [7, 8] (fun t i => ∃ k : Nat, k ≤ n ∧ i = .int .i64 (k : Int) ∧ t = .int .i64 (leVal ((p.drop at_).take k) : Nat)) (fun _ i => n - (intOf i).toNat)
  case atStart => exact ⟨0, by omega, rfl, by simp [leVal]⟩
  case round =>
    obtain ⟨k, hk, rfl, rfl⟩ := hrel
    by_cases hlt : k < n
    · have hb := bv_get p (at_ + k) (by omega)
      have hlv := gotAt_lt p at_ k
      unfold gotAt at hlv
      have hp4 : 256 ^ k ≤ 256 ^ 3 := Nat.pow_le_pow_right (by decide) (by omega)
      have hst := leVal_take (p.drop at_) k (by rw [List.length_drop]; omega)
      rw [List.getElem_drop] at hst
      have hbl := byte_lt p[at_ + k]
      obtain ⟨x, hx⟩ : ∃ x, p[at_ + k].toNat = x := ⟨_, rfl⟩
      rw [hx] at hb hst hbl
      have HST := Lib.hid hst
      clear hst hx
      go_wp2_with (first | ((with_reducible apply wpl_index sl37); exact rfl; exact rfl; exact rfl; assumption; (first | assumption | (apply Rd.own; focus ((with_reducible repeat first | exact pH | apply pT); done)) | (focus ((repeat first | assumption | with_reducible apply Rd.cons); done)) | with_reducible exact Rd.nil); omega; omega; (first | assumption | (simp only [bv_length]; omega) | (simp only [iv_length, List.length_append, List.length_singleton]; omega) | (simp <;> omega)); (try simp only [Act.put, zqa, zqb, zqc, zqd, zqe])) | ((with_reducible apply wpl_load Tryd.isAgg5); exact rfl; exact rfl; assumption; (with_reducible repeat first | exact pH | apply pT); ((try simp only [zqf, zqg, zqh]) <;> exact rfl); (try simp only [Act.put, zqa, zqb, zqc, zqd, zqe])) | ((with_reducible apply wpl_load_rd Tryd.isAgg5); exact rfl; exact rfl; assumption; (first | assumption | (apply Rd.own; focus ((with_reducible repeat first | exact pH | apply pT); done)) | (focus ((repeat first | assumption | with_reducible apply Rd.cons); done)) | with_reducible exact Rd.nil); (first | assumption | exact rfl); (try simp only [Act.put, zqa, zqb, zqc, zqd, zqe])))
      go_round
      case rel =>
        refine ⟨k + 1, by omega, by go_num, ?_⟩
        rw [HST.out, got_step (by omega) hlv hbl]
      case measure => simp [intOf]; omega
    · obtain rfl : k = n := by omega
      go_wp2
      go_ret
      exact ⟨rfl, rfl⟩
set_option maxRecDepth 100000 in
set_option maxHeartbeats 1600000 in
theorem rsealed_spec {out : List UInt8} {m c : Nat} {A : Option Addr} (hm : m = out.length) (hml : m ≤ 1000000) (h : Sat w0 (own 5 1 A m c (bv out) :: L) w) :
    Calls Tryd.prog 164 #[.slice A m c] w fun e w' => ∃ B d, e = .returned (.slice B (m + 4) d) ∧ Sat w0 (own 5 1 B (m + 4) d (bv (out ++ le 4 (csum out))) :: L) w' := by
  have hs := csum_lt32 out
  have HM := Lib.hid hm
  clear hm
  go_enter Tryd.func164, Tryd.ntmps164
  go_wp2_with (first | (go_at_call 123; refine (rsum_spec (l := out) h (Rd.own .here) HM.out (by show _ ≤ 9223372036854775807; omega)).mono ?_; rintro _ _ ⟨rfl, rfl⟩) | (go_at_call 163; refine (rput_spec (n := 4) (v := csum out) (by decide) (by omega) HM.out hml h).mono ?_; rintro _ _ ⟨B, d, rfl, h2⟩))
  go_ret
  exact ⟨B, d, rfl, h2⟩
set_option maxRecDepth 100000 in
set_option maxHeartbeats 3200000 in
theorem rpart_spec {p : Pk} {A : Option Addr} {m c : Nat} (h1 : p.kind = 1) (h2 : p.len < 4294967296) (h3 : p.sum < 4294967296) (h4 : p.num < 65536) (h5 : p.rest.length ≤ 1000) (hm : m = p.rest.length) (h : Sat w0 L w) (hr : Rd L A (bv p.rest)) :
    Calls Tryd.prog 124 #[.int .i64 (p.len : Int), .int .i64 (p.sum : Int), .int .i64 (p.num : Int), .slice A m c] w fun e w' => ∃ B d, e = .returned (.slice B p.bytes.length d) ∧ Sat w0 (own 5 1 B p.bytes.length d (bv p.bytes) :: L) w' := by
  subst hm
  have hb : [(1 : UInt8)] ++ le 4 p.len ++ le 4 p.sum ++ le 2 p.num ++ p.rest = p.body := by unfold Pk.body; rw [h1]; rfl
  have hbl : 1 + 4 + 4 + 2 + p.rest.length = p.body.length := by rw [Pk.body_length]
  have hbl2 : p.body.length + 4 = p.bytes.length := by simp [Pk.bytes]
  have HB := Lib.hid hb
  have HL := Lib.hid hbl
  have HL2 := Lib.hid hbl2
  clear hb hbl hbl2
  go_enter Tryd.func124, Tryd.ntmps124
  go_wp2_with (first | (go_at_call 163; refine (rput_spec (out := [1]) (n := 4) (v := p.len) (by decide) (by omega) rfl (by decide) (by assumption)).mono ?_; rintro _ _ ⟨B1, d1, rfl, h6⟩; replace h6 : Sat w0 (own 5 1 B1 5 d1 (bv ([1] ++ le 4 p.len)) :: _) _ := h6) | (go_at_call 163; refine (rput_spec (n := 4) (v := p.sum) (by decide) (by omega) (by simp) (by decide) h6).mono ?_; rintro _ _ ⟨B2, d2, rfl, h7⟩; replace h7 : Sat w0 (own 5 1 B2 9 d2 (bv ([1] ++ le 4 p.len ++ le 4 p.sum)) :: _) _ := h7) | (go_at_call 163; refine (rput_spec (n := 2) (v := p.num) (by decide) (by omega) (by simp) (by decide) h7).mono ?_; rintro _ _ ⟨B3, d3, rfl, h8⟩; replace h8 : Sat w0 (own 5 1 B3 11 d3 (bv ([1] ++ le 4 p.len ++ le 4 p.sum ++ le 2 p.num)) :: _) _ := h8) | (go_at_call 164; refine (rsealed_spec (out := p.body) HL.out (by omega) (by rw [← HB.out, bv_append]; assumption)).mono ?_; rintro _ _ ⟨B4, d4, rfl, h9⟩) | ((with_reducible apply wpl_build1 sl37); exact rfl; ((conv => lhs; whnf) <;> exact rfl); rfl; assumption; intro _ _ _; (try simp only [Act.put, zqa, zqb, zqc, zqd, zqe])) | ((with_reducible apply wpl_append_nil sl37); exact rfl; exact rfl; exact rfl; assumption; (first | assumption | (apply Rd.own; focus ((with_reducible repeat first | exact pH | apply pT); done)) | (focus ((repeat first | assumption | with_reducible apply Rd.cons); done)) | with_reducible exact Rd.nil); (first | rfl | assumption | (simp <;> done) | (simp <;> omega)); (first | exact bv_one _ | exact iv_one _ | exact pcV_one _ | assumption | (simp [Value.oneCell'] <;> done)); (first | omega | (simp <;> omega)); (show _ ≤ 9223372036854775807; omega); intro _ _ _ _; (try simp only [Act.put, zqa, zqb, zqc, zqd, zqe])) | ((with_reducible apply wpl_append sl37); exact rfl; exact rfl; exact rfl; assumption; (with_reducible repeat first | exact pH | apply pT); (first | assumption | (apply Rd.own; focus ((with_reducible repeat first | exact pH | apply pT); done)) | (focus ((repeat first | assumption | with_reducible apply Rd.cons); done)) | with_reducible exact Rd.nil); (first | rfl | assumption | (simp <;> done) | (simp <;> omega)); (first | exact bv_one _ | exact iv_one _ | exact pcV_one _ | assumption | (simp [Value.oneCell'] <;> done)); (first | omega | (simp <;> omega)); (show _ ≤ 9223372036854775807; omega); intro _ _ _ _; (try simp only [Act.put, zqa, zqb, zqc, zqd, zqe])))
  go_ret
  have e : 11 + p.rest.length + 4 = p.bytes.length := by have := HL.out; have := HL2.out; omega
  have h10 : Sat w0 (own 5 1 B4 (11 + p.rest.length + 4) d4 (bv p.bytes) :: L) _ := h9
  rw [e] at h10
  exact ⟨B4, d4, by rw [← e]; rfl, h10⟩
set_option maxRecDepth 100000 in
set_option maxHeartbeats 3200000 in
theorem rack_spec {p : Pk} {f : Nat} (h1 : p.kind = 2) (h2 : p.len < 4294967296) (h3 : p.sum < 4294967296) (h4 : p.num < 65536) (h5 : p.rest = [UInt8.ofNat f]) (hf : f < 256) (h : Sat w0 L w) :
    Calls Tryd.prog 131 #[.int .i64 (p.len : Int), .int .i64 (p.sum : Int), .int .i64 (p.num : Int), .int .i64 (f : Int)] w fun e w' => ∃ B d, e = .returned (.slice B 16 d) ∧ Sat w0 (own 5 1 B 16 d (bv p.bytes) :: L) w' := by
  have hb : [(2 : UInt8)] ++ le 4 p.len ++ le 4 p.sum ++ le 2 p.num ++ le 1 f = p.body := by unfold Pk.body; rw [h1, h5]; simp [le, Nat.mod_eq_of_lt hf]
  have hbl : 12 = p.body.length := by rw [Pk.body_length, h5]; rfl
  have HB := Lib.hid hb
  have HL := Lib.hid hbl
  clear hb hbl h5 h1
  go_enter Tryd.func131, Tryd.ntmps131
  go_wp2_with (first | (go_at_call 163; refine (rput_spec (out := [2]) (n := 4) (v := p.len) (by decide) (by omega) rfl (by decide) (by assumption)).mono ?_; rintro _ _ ⟨B1, d1, rfl, h6⟩; replace h6 : Sat w0 (own 5 1 B1 5 d1 (bv ([2] ++ le 4 p.len)) :: _) _ := h6) | (go_at_call 163; refine (rput_spec (n := 4) (v := p.sum) (by decide) (by omega) (by simp) (by decide) h6).mono ?_; rintro _ _ ⟨B2, d2, rfl, h7⟩; replace h7 : Sat w0 (own 5 1 B2 9 d2 (bv ([2] ++ le 4 p.len ++ le 4 p.sum)) :: _) _ := h7) | (go_at_call 163; refine (rput_spec (n := 2) (v := p.num) (by decide) (by omega) (by simp) (by decide) h7).mono ?_; rintro _ _ ⟨B3, d3, rfl, h8⟩; replace h8 : Sat w0 (own 5 1 B3 11 d3 (bv ([2] ++ le 4 p.len ++ le 4 p.sum ++ le 2 p.num)) :: _) _ := h8) | (go_at_call 163; refine (rput_spec (n := 1) (v := f) (by decide) (by omega) (by simp) (by decide) h8).mono ?_; rintro _ _ ⟨B5, d5, rfl, h10⟩; rw [HB.out] at h10; replace h10 : Sat w0 (own 5 1 B5 12 d5 (bv p.body) :: _) _ := h10) | (go_at_call 164; refine (rsealed_spec (out := p.body) HL.out (by decide) h10).mono ?_; rintro _ _ ⟨B4, d4, rfl, h9⟩) | ((with_reducible apply wpl_build1 sl37); exact rfl; ((conv => lhs; whnf) <;> exact rfl); rfl; assumption; intro _ _ _; (try simp only [Act.put, zqa, zqb, zqc, zqd, zqe])))
  go_ret
  exact ⟨B4, d4, rfl, h9⟩
end
end Go.Proofs.YtgobibgpkcdmdaaDoor
