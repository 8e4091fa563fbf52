/- The walk of law 22's FerryPlays. -/
import Derived.Test.YtgobibgpkcdmdaaDoorWPair4
import Derived.Test.YtgobibgpkcdmdaaDoorRules3
set_option linter.all false
namespace Go.Proofs.YtgobibgpkcdmdaaDoor
open Go Go.RowKit
attribute [local irreducible] Calls
/-- A step: its kind and numbers, where its bytes lie, its bytes. -/
structure OpR where
  kd : Int
  two : Bool
  n : Int
  at_ : Int
  mask : Nat
  D : Option Addr
  d : Nat
  data : List UInt8
def OpR.vs (o : OpR) : List Value := [.int .i64 o.kd, .bool o.two, .int .i64 o.n, .int .i64 o.at_, .int .u32 (o.mask : Int), .slice o.D o.data.length o.d]
def opV (l : List OpR) : List Value := l.flatMap OpR.vs
@[simp] theorem opV_length (l : List OpR) : (opV l).length = l.length * 6 := by
  induction l with
  | nil => rfl
  | cons m l ih => simp only [opV, List.flatMap_cons, List.length_append] at ih ⊢; rw [ih]; simp [OpR.vs]; omega
theorem opV_get : ∀ (l : List OpR) (i : Nat) (h : i < l.length) (j : Nat), j < 6 → (opV l)[i * 6 + j]? = (opArr l[i].kd l[i].two l[i].n l[i].at_ l[i].mask l[i].D l[i].data.length l[i].d)[j]? := by
  intro l
  induction l with
  | nil => intro i h; simp at h
  | cons m l ih =>
    intro i h j hj
    cases i with
    | zero =>
      simp only [opV, List.flatMap_cons, Nat.zero_mul, Nat.zero_add, List.getElem_cons_zero, List.getElem?_toArray]
      rw [List.getElem?_append_left (by simp [OpR.vs]; exact hj)]
      rfl
    | succ i =>
      have := ih i (by simpa using h) j hj
      simp only [opV, List.flatMap_cons, List.getElem_cons_succ] at this ⊢
      rw [List.getElem?_append_right (by simp [OpR.vs]; omega), ← this]
      congr 1
      simp [OpR.vs]; omega
structure OpR.ok (L : List SProp) (o : OpR) : Prop where
  mask : o.mask < 4294967296
  small : o.data.length ≤ 2000000
  rd : Rd L o.D (bv o.data)
section
variable {w0 w : World} {L L' : List SProp}
theorem sendsA {b d : Nat} {D : Option Addr} {kd n at_ : Int} {two : Bool} {mask : Nat} {data : List UInt8} {S : Pr} (h : Sat w0 (PairP b S :: L) w) (hdl : data.length ≤ 2000000) (hpl : S.ps.length ≤ 999999000) (hk : mask < 4294967296) (hf : FormsIn L) (hd : Rd L D (bv data)) :
    Calls Tryd.prog 23 #[.pointer (some ⟨b, 0, none⟩), .agg (opArr kd two n at_ mask D data.length d), .int .i64 0] w (Stepped w0 L b S) := sends0_spec hdl hpl hk hf hd h
theorem sendsB {b d : Nat} {D : Option Addr} {kd n at_ : Int} {two : Bool} {mask : Nat} {data : List UInt8} {S : Pr} (h : Sat w0 (PairP b S :: L) w) (hdl : data.length ≤ 2000000) (hpl : S.ps.length ≤ 999999000) (hk : mask < 4294967296) (hf : FormsIn L) (hd : Rd L D (bv data)) :
    Calls Tryd.prog 23 #[.pointer (some ⟨b, 0, none⟩), .agg (opArr kd two n at_ mask D data.length d), .int .i64 1] w (Stepped w0 L b S) := sends1_spec hdl hpl hk hf hd h
theorem getsA {b d : Nat} {D : Option Addr} {kd n at_ : Int} {two : Bool} {mask : Nat} {data : List UInt8} {S : Pr} (h : Sat w0 (PairP b S :: L) w) (hdl : data.length ≤ 2000000) (hpl : S.ps.length ≤ 999999000) (hk : mask < 4294967296) (hf : FormsIn L) (hd : Rd L D (bv data)) :
    Calls Tryd.prog 24 #[.pointer (some ⟨b, 0, none⟩), .agg (opArr kd two n at_ mask D data.length d)] w (Stepped w0 L b S) := gets_spec hdl hpl hk hf hd h
def lastOps : List OpR := [⟨3, false, 0, 0, 0, none, 0, []⟩, ⟨2, false, 0, 0, 0, none, 0, []⟩]
theorem last_ok : ∀ o ∈ lastOps, o.ok L := fun o ho => by
  simp only [lastOps, List.mem_cons, List.not_mem_nil, or_false] at ho
  rcases ho with rfl | rfl
  · exact ⟨by decide, by decide, Rd.nil⟩
  · exact ⟨by decide, by decide, Rd.nil⟩
theorem PairP.start {b r rr : Nat} (h : Sat w0 (blk b (.cells (pairArr none none r none none rr none 0 0) 35) :: RRcvP rr Rc.fresh :: RcvP r Rc.fresh :: L) w) : Sat w0 (PairP b ⟨none, none, Rc.fresh, []⟩ :: L) w := by
  refine PairP.shut (S := ⟨none, none, Rc.fresh, []⟩) (r := r) (rr := rr) (A := none) (c := 0) (p0 := none) (q0 := none) (p1 := none) (q1 := none) (fun x hx => by cases hx) ?_
  have h2 := SndP.none_shut (SndP.none_shut (own_nil (T := 37) (s := 1) (pcP_nil h)))
  show Sat w0 (blk b (.cells (pairArr none none r none none rr none 0 0) 35) :: SndP none none none :: SndP none none none :: RcvP r Rc.fresh :: RRcvP rr Rc.fresh :: own 37 1 none 0 0 [] :: pcP [] :: L) w
  exact Sat.sub h2 (by (with_reducible repeat first | exact pH | exact Sub.refl _ | exact Sub.nil | apply pT | apply Sub.cons | apply Sub.skip))
set_option maxRecDepth 100000 in
set_option maxHeartbeats 6400000 in
theorem plays_spec {ops : List OpR} {MA : Option Addr} {mc : Nat} (hol : ops.length ≤ 10000000) (hok : ∀ o ∈ ops, o.ok L) (hm : Rd L MA (opV ops)) (hf : FormsIn L) (h : Sat w0 L w) :
    Calls Tryd.prog 3 #[.slice MA ops.length mc] w fun e w' => e = .returned (.bool true) ∧ Sat w0 L w' := by
  have HS := Lib.hid (ships_spec h hf)
  have HOK := Lib.hid hok
  clear hok
  go_enter Tryd.func3, Tryd.ntmps3
  go_wp2_with (first | (go_at_call 20; refine HS.out.mono ?_; rintro _ _ ⟨rfl, h1⟩) | (go_at_call 21; refine (NewReceiver_spec (by assumption)).mono ?_; rintro _ _ ⟨nb, rfl, h5⟩) | (go_at_call 22; refine (RNewReceiver_spec (by assumption)).mono ?_; rintro _ _ ⟨nr, rfl, h6⟩) | ((with_reducible refine wpl_off ?_ ?_); exact rfl; (try simp only [Act.put, zqa, zqb, zqc, zqd, zqe])) | ((with_reducible apply wpl_box (T := 35)); ((conv => lhs; whnf) <;> exact rfl); ((conv => lhs; whnf) <;> exact rfl); assumption; intro gA _ _; (try simp only [Act.put, zqa, zqb, zqc, zqd, zqe])) | ((with_reducible apply wpl_load Tryd.isAgg25); exact rfl; exact rfl; assumption; (with_reducible repeat first | exact pH | apply pT); ((try simp only [zqf, zqg, zqh]) <;> exact rfl); (try simp only [Act.put, zqa, zqb, zqc, zqd, zqe])) | ((with_reducible apply wpl_load_rd Tryd.isAgg25); exact rfl; exact rfl; assumption; (first | assumption | (apply Rd.own; focus ((with_reducible repeat first | exact pH | apply pT); done)) | (focus ((repeat first | assumption | with_reducible apply Rd.cons); done)) | with_reducible exact Rd.nil); (first | assumption | exact rfl); (try simp only [Act.put, zqa, zqb, zqc, zqd, zqe])))
  have h7 := PairP.start (Sat.sub (M := blk gA (.cells (pairArr none none nb none none nr none 0 0) 35) :: RRcvP nr Rc.fresh :: RcvP nb Rc.fresh :: L) (by assumption) (by (with_reducible repeat first | exact pH | exact Sub.refl _ | exact Sub.nil | apply pT | apply Sub.cons | apply Sub.skip)))
  clear h1 h5 h6 HS
  go_loopw [4] (fun t wr => ∃ (j : Nat) (S : Pr), j ≤ ops.length ∧ S.ps.length ≤ 16 * j ∧ t = .int .i64 (j : Int) ∧ Sat w0 (PairP gA S :: L) wr) (fun t _ => ops.length - (intOf t).toNat)
  case atStart => exact ⟨0, _, Nat.zero_le _, by simp, rfl, h7⟩
  case round =>
    clear h7
    obtain ⟨j, S, hj, hpl, rfl, h⟩ := hrel
    by_cases hlt : j < ops.length
    · have hv := opV_get ops j hlt
      have ho := HOK.out _ (List.getElem_mem hlt)
      generalize ops[j] = o at hv ho
      obtain ⟨kd, two, n, at_, mask, D, d, data⟩ := o
      obtain ⟨hk, hsm, hrd⟩ := ho
      simp only at hv hk hsm hrd
      replace hv : ∀ k, k < 6 → (opV ops)[j * 6 + k]? = (#[.int .i64 kd, .bool two, .int .i64 n, .int .i64 at_, .int .u32 (mask : Int), .slice D data.length d] : Array Value)[k]? := hv
      cases two
      · go_wp2_with (first | (go_at_call 23; refine (sendsA (S := S) (data := data) (Sat.pull (by assumption) (by (with_reducible repeat first | exact pH | apply pT))) hsm (by omega) hk (by repeat (first | exact hf | apply FormsIn.cons)) (by repeat (first | exact hrd | apply Rd.cons))).mono ?_; rintro _ _ ⟨rfl, S2, hp2, h8⟩) | (go_at_call 24; refine (getsA (S := S2) (data := data) (Sat.pull h8 (by (with_reducible repeat first | exact pH | apply pT))) hsm (by omega) hk (by repeat (first | exact hf | apply FormsIn.cons)) (by repeat (first | exact hrd | apply Rd.cons))).mono ?_; rintro _ _ ⟨rfl, S3, hp3, h9⟩) | ((with_reducible refine wpl_off ?_ ?_); exact rfl; (try simp only [Act.put, zqa, zqb, zqc, zqd, zqe])) | ((with_reducible apply wpl_index sl22); exact rfl; exact rfl; exact rfl; assumption; (first | assumption | (apply Rd.own; focus ((with_reducible repeat first | exact pH | apply pT); done)) | (focus ((repeat first | assumption | with_reducible apply Rd.cons); done)) | with_reducible exact Rd.nil); omega; omega; (first | assumption | (simp only [bv_length]; omega) | (simp only [iv_length, List.length_append, List.length_singleton]; omega) | (simp <;> omega)); ((try simp only [Act.put, zqa, zqb, zqc, zqd, zqe]); (try simp only [Int.toNat_natCast, Nat.mul_one]))) | ((with_reducible apply wpl_load_agg Tryd.isAgg39 Tryd.sizeOf39); exact rfl; exact rfl; assumption; (with_reducible repeat first | exact pH | apply pT); (exact Nat.le_of_ble_eq_true rfl); ((try simp only [zqi, zqj, zqk, zql, zqm, zqn, Nat.reduceAdd, Nat.reduceSub]) <;> exact rfl); ((try simp only [Act.put, zqa, zqb, zqc, zqd, zqe]); (try simp only [Int.toNat_natCast, Nat.mul_one]))) | ((with_reducible apply wpl_load_rd_agg2 Tryd.isAgg39 Tryd.sizeOf39); exact rfl; exact rfl; assumption; (first | assumption | (apply Rd.own; focus ((with_reducible repeat first | exact pH | apply pT); done)) | (focus ((repeat first | assumption | with_reducible apply Rd.cons); done)) | with_reducible exact Rd.nil); assumption; (first | rfl | assumption); ((try simp only [Act.put, zqa, zqb, zqc, zqd, zqe]); (try simp only [Int.toNat_natCast, Nat.mul_one]))) | ((with_reducible apply wpl_alloc_agg Tryd.zeroValue39); assumption; intro _ _ _; ((try simp only [Act.put, zqa, zqb, zqc, zqd, zqe]); (try simp only [Int.toNat_natCast, Nat.mul_one]))) | ((with_reducible apply wpl_store_agg Tryd.sizeOf39); exact rfl; exact rfl; ((conv => lhs; whnf) <;> exact rfl); exact rfl; simp [Value.oneCell']; assumption; (with_reducible repeat first | exact pH | apply pT); (exact Nat.le_of_ble_eq_true rfl); ((try simp only [zqi, zqj, zqk, zql, zqm, zqn, Nat.reduceAdd, Nat.reduceSub]) <;> exact rfl); intro _ _; ((try simp only [Act.put, zqa, zqb, zqc, zqd, zqe]); (try simp only [Int.toNat_natCast, Nat.mul_one]))) | ((with_reducible apply wpl_load Tryd.isAgg4); exact rfl; exact rfl; assumption; (with_reducible repeat first | exact pH | apply pT); ((try simp only [zqf, zqg, zqh]) <;> exact rfl); ((try simp only [Act.put, zqa, zqb, zqc, zqd, zqe]); (try simp only [Int.toNat_natCast, Nat.mul_one]))) | ((with_reducible apply wpl_load_rd Tryd.isAgg4); exact rfl; exact rfl; assumption; (first | assumption | (apply Rd.own; focus ((with_reducible repeat first | exact pH | apply pT); done)) | (focus ((repeat first | assumption | with_reducible apply Rd.cons); done)) | with_reducible exact Rd.nil); (first | assumption | exact rfl); ((try simp only [Act.put, zqa, zqb, zqc, zqd, zqe]); (try simp only [Int.toNat_natCast, Nat.mul_one]))))
        go_roundw
        case rel => exact ⟨j + 1, S3, by omega, by omega, by go_num, Sat.sub h9 (by (with_reducible repeat first | exact pH | exact Sub.refl _ | exact Sub.nil | apply pT | apply Sub.cons | apply Sub.skip))⟩
        case measure => simp [intOf]; omega
      · go_wp2_with (first | (go_at_call 23; refine (sendsB (S := S) (data := data) (Sat.pull (by assumption) (by (with_reducible repeat first | exact pH | apply pT))) hsm (by omega) hk (by repeat (first | exact hf | apply FormsIn.cons)) (by repeat (first | exact hrd | apply Rd.cons))).mono ?_; rintro _ _ ⟨rfl, S2, hp2, h8⟩) | (go_at_call 24; refine (getsA (S := S2) (data := data) (Sat.pull h8 (by (with_reducible repeat first | exact pH | apply pT))) hsm (by omega) hk (by repeat (first | exact hf | apply FormsIn.cons)) (by repeat (first | exact hrd | apply Rd.cons))).mono ?_; rintro _ _ ⟨rfl, S3, hp3, h9⟩) | ((with_reducible refine wpl_off ?_ ?_); exact rfl; (try simp only [Act.put, zqa, zqb, zqc, zqd, zqe])) | ((with_reducible apply wpl_index sl22); exact rfl; exact rfl; exact rfl; assumption; (first | assumption | (apply Rd.own; focus ((with_reducible repeat first | exact pH | apply pT); done)) | (focus ((repeat first | assumption | with_reducible apply Rd.cons); done)) | with_reducible exact Rd.nil); omega; omega; (first | assumption | (simp only [bv_length]; omega) | (simp only [iv_length, List.length_append, List.length_singleton]; omega) | (simp <;> omega)); ((try simp only [Act.put, zqa, zqb, zqc, zqd, zqe]); (try simp only [Int.toNat_natCast, Nat.mul_one]))) | ((with_reducible apply wpl_load_agg Tryd.isAgg39 Tryd.sizeOf39); exact rfl; exact rfl; assumption; (with_reducible repeat first | exact pH | apply pT); (exact Nat.le_of_ble_eq_true rfl); ((try simp only [zqi, zqj, zqk, zql, zqm, zqn, Nat.reduceAdd, Nat.reduceSub]) <;> exact rfl); ((try simp only [Act.put, zqa, zqb, zqc, zqd, zqe]); (try simp only [Int.toNat_natCast, Nat.mul_one]))) | ((with_reducible apply wpl_load_rd_agg2 Tryd.isAgg39 Tryd.sizeOf39); exact rfl; exact rfl; assumption; (first | assumption | (apply Rd.own; focus ((with_reducible repeat first | exact pH | apply pT); done)) | (focus ((repeat first | assumption | with_reducible apply Rd.cons); done)) | with_reducible exact Rd.nil); assumption; (first | rfl | assumption); ((try simp only [Act.put, zqa, zqb, zqc, zqd, zqe]); (try simp only [Int.toNat_natCast, Nat.mul_one]))) | ((with_reducible apply wpl_alloc_agg Tryd.zeroValue39); assumption; intro _ _ _; ((try simp only [Act.put, zqa, zqb, zqc, zqd, zqe]); (try simp only [Int.toNat_natCast, Nat.mul_one]))) | ((with_reducible apply wpl_store_agg Tryd.sizeOf39); exact rfl; exact rfl; ((conv => lhs; whnf) <;> exact rfl); exact rfl; simp [Value.oneCell']; assumption; (with_reducible repeat first | exact pH | apply pT); (exact Nat.le_of_ble_eq_true rfl); ((try simp only [zqi, zqj, zqk, zql, zqm, zqn, Nat.reduceAdd, Nat.reduceSub]) <;> exact rfl); intro _ _; ((try simp only [Act.put, zqa, zqb, zqc, zqd, zqe]); (try simp only [Int.toNat_natCast, Nat.mul_one]))) | ((with_reducible apply wpl_load Tryd.isAgg4); exact rfl; exact rfl; assumption; (with_reducible repeat first | exact pH | apply pT); ((try simp only [zqf, zqg, zqh]) <;> exact rfl); ((try simp only [Act.put, zqa, zqb, zqc, zqd, zqe]); (try simp only [Int.toNat_natCast, Nat.mul_one]))) | ((with_reducible apply wpl_load_rd Tryd.isAgg4); exact rfl; exact rfl; assumption; (first | assumption | (apply Rd.own; focus ((with_reducible repeat first | exact pH | apply pT); done)) | (focus ((repeat first | assumption | with_reducible apply Rd.cons); done)) | with_reducible exact Rd.nil); (first | assumption | exact rfl); ((try simp only [Act.put, zqa, zqb, zqc, zqd, zqe]); (try simp only [Int.toNat_natCast, Nat.mul_one]))))
        go_roundw
        case rel => exact ⟨j + 1, S3, by omega, by omega, by go_num, Sat.sub h9 (by (with_reducible repeat first | exact pH | exact Sub.refl _ | exact Sub.nil | apply pT | apply Sub.cons | apply Sub.skip))⟩
        case measure => simp [intOf]; omega
    · have g : ops.length ≤ j := by omega
      go_wp2_with (first | ((with_reducible refine wpl_off ?_ ?_); exact rfl; (try simp only [Act.put, zqa, zqb, zqc, zqd, zqe])) | ((with_reducible apply wpl_lss3); exact rfl; exact rfl; exact rfl; (first | ((refine decide_eq_true ?_); omega) | ((refine decide_eq_false ?_); omega)); (try simp only [Act.put, zqa, zqb, zqc, zqd, zqe])) | ((with_reducible apply wpl_buildSlice sl22); exact rfl; exact rfl; decide; exact rfl; rfl; assumption; intro _ _ _; (try simp only [Act.put, zqa, zqb, zqc, zqd, zqe])))
      have h8 := h.alloc (.cells #[.int .i64 3, .bool false, .int .i64 0, .int .i64 0, .int .u32 0, .slice none 0 0, .int .i64 2, .bool false, .int .i64 0, .int .i64 0, .int .u32 0, .slice none 0 0] 39)
      have h9 : Sat w0 (own 39 6 (some ⟨wr.heap.size, 0, none⟩) 2 2 (opV lastOps) :: PairP gA S :: L) _ := own_shut h8 (Nat.le_refl _) (by decide) rfl rfl
      have hll : lastOps.length = 2 := rfl
      have hS2 : S.ps.length ≤ 160000000 := by omega
      clear h8 h hlt g hpl
      go_loopw [8] (fun t wq => ∃ (k : Nat) (S : Pr), k ≤ 2 ∧ S.ps.length ≤ 160000000 + 16 * k ∧ t = .int .i64 (k : Int) ∧ Sat w0 (own 39 6 (some ⟨wr.heap.size, 0, none⟩) 2 2 (opV lastOps) :: PairP gA S :: L) wq) (fun t _ => 2 - (intOf t).toNat)
      case atStart => exact ⟨0, S, by omega, by omega, rfl, h9⟩
      case round =>
        clear h9 hS2
        obtain ⟨k, S, hk2, hpl, rfl, h⟩ := hrel
        by_cases hlt : k < 2
        · have hv := opV_get lastOps k hlt
          have ho := last_ok (L := L) _ (List.getElem_mem (show k < lastOps.length from hlt))
          generalize lastOps[k] = o at hv ho
          obtain ⟨kd, two, n, at_, mask, D, d, data⟩ := o
          obtain ⟨hk, hsm, hrd⟩ := ho
          simp only at hv hk hsm hrd
          replace hv : ∀ i, i < 6 → (opV lastOps)[k * 6 + i]? = (#[.int .i64 kd, .bool two, .int .i64 n, .int .i64 at_, .int .u32 (mask : Int), .slice D data.length d] : Array Value)[i]? := hv
          have hkI : (k : Int) < 2 := by omega
          go_wp2_with (first | (go_at_call 23; refine (sendsA (S := S) (data := data) (Sat.pull (by assumption) (by (with_reducible repeat first | exact pH | apply pT))) hsm (by omega) hk (by repeat (first | exact hf | apply FormsIn.cons)) (by repeat (first | exact hrd | apply Rd.cons))).mono ?_; rintro _ _ ⟨rfl, S2, hp2, h8⟩) | (go_at_call 23; refine (sendsB (S := S2) (data := data) (Sat.pull h8 (by (with_reducible repeat first | exact pH | apply pT))) hsm (by omega) hk (by repeat (first | exact hf | apply FormsIn.cons)) (by repeat (first | exact hrd | apply Rd.cons))).mono ?_; rintro _ _ ⟨rfl, S3, hp3, h9⟩) | ((with_reducible refine wpl_off ?_ ?_); exact rfl; (try simp only [Act.put, zqa, zqb, zqc, zqd, zqe])) | ((with_reducible apply wpl_index sl22); exact rfl; exact rfl; exact rfl; assumption; (first | assumption | (apply Rd.own; focus ((with_reducible repeat first | exact pH | apply pT); done)) | (focus ((repeat first | assumption | with_reducible apply Rd.cons); done)) | with_reducible exact Rd.nil); omega; omega; (first | assumption | (simp only [bv_length]; omega) | (simp only [iv_length, List.length_append, List.length_singleton]; omega) | (simp <;> omega)); ((try simp only [Act.put, zqa, zqb, zqc, zqd, zqe]); (try simp only [Int.toNat_natCast, Nat.mul_one]))) | ((with_reducible apply wpl_load_agg Tryd.isAgg39 Tryd.sizeOf39); exact rfl; exact rfl; assumption; (with_reducible repeat first | exact pH | apply pT); (exact Nat.le_of_ble_eq_true rfl); ((try simp only [zqi, zqj, zqk, zql, zqm, zqn, Nat.reduceAdd, Nat.reduceSub]) <;> exact rfl); ((try simp only [Act.put, zqa, zqb, zqc, zqd, zqe]); (try simp only [Int.toNat_natCast, Nat.mul_one]))) | ((with_reducible apply wpl_load_rd_agg2 Tryd.isAgg39 Tryd.sizeOf39); exact rfl; exact rfl; assumption; (first | assumption | (apply Rd.own; focus ((with_reducible repeat first | exact pH | apply pT); done)) | (focus ((repeat first | assumption | with_reducible apply Rd.cons); done)) | with_reducible exact Rd.nil); assumption; (first | rfl | assumption); ((try simp only [Act.put, zqa, zqb, zqc, zqd, zqe]); (try simp only [Int.toNat_natCast, Nat.mul_one]))))
          go_roundw
          case rel => exact ⟨k + 1, S3, by omega, by omega, by go_num, Sat.sub h9 (by (with_reducible repeat first | exact pH | exact Sub.refl _ | exact Sub.nil | apply pT | apply Sub.cons | apply Sub.skip))⟩
          case measure => simp [intOf]; omega
        · have g : 2 ≤ (k : Int) := by omega
          have hrd : Rd L none (bv []) := Rd.nil
          go_wp2_with (first | (go_at_call 24; refine (getsA (S := S) (data := []) (kd := 8) (two := false) (n := 0) (at_ := 0) (mask := 0) (D := none) (d := 0) (Sat.pull h (by (with_reducible repeat first | exact pH | apply pT))) (by simp) (by omega) (by decide) (by repeat (first | exact hf | apply FormsIn.cons)) (by repeat (first | exact hrd | apply Rd.cons))).mono ?_; rintro _ _ ⟨rfl, S2, hp2, h8⟩) | (go_at_call 24; refine (getsA (S := S2) (data := []) (kd := 9) (two := false) (n := 0) (at_ := 0) (mask := 0) (D := none) (d := 0) (Sat.pull h8 (by (with_reducible repeat first | exact pH | apply pT))) (by simp) (by omega) (by decide) (by repeat (first | exact hf | apply FormsIn.cons)) (by repeat (first | exact hrd | apply Rd.cons))).mono ?_; rintro _ _ ⟨rfl, S3, hp3, h9⟩) | ((with_reducible refine wpl_off ?_ ?_); exact rfl; (try simp only [Act.put, zqa, zqb, zqc, zqd, zqe])) | ((with_reducible apply wpl_lss3); exact rfl; exact rfl; exact rfl; (first | ((refine decide_eq_true ?_); omega) | ((refine decide_eq_false ?_); omega)); (try simp only [Act.put, zqa, zqb, zqc, zqd, zqe])))
          go_ret
          exact ⟨rfl, Sat.sub h9 (by (with_reducible repeat first | exact pH | exact Sub.refl _ | exact Sub.nil | apply pT | apply Sub.cons | apply Sub.skip))⟩
end
end Go.Proofs.YtgobibgpkcdmdaaDoor
