/- The walks of package ferry's Receiver. -/
import Derived.Test.YtgobibgpkcdmdaaDoorWSTake
set_option linter.all false
namespace Go.Proofs.YtgobibgpkcdmdaaDoor
open Go Go.RowKit
attribute [local irreducible] Calls
/-- A receiver: has it begun, what it is to get, what has come. -/
structure Rc where
  begun : Bool
  len : Nat
  sum : Nat
  parts : List (Option (List UInt8))
def Rc.fresh : Rc := ⟨false, 0, 0, []⟩
def Rc.ok (s : Rc) : Prop := s.parts.length ≤ 640 ∧ (∀ l, some l ∈ s.parts → 1 ≤ l.length ∧ l.length ≤ 64) ∧ (s.begun = false → s = Rc.fresh) ∧ (s.begun = true → 1 ≤ s.len ∧ s.len ≤ 40960 ∧ s.parts.length = (s.len + 63) / 64) ∧ s.sum < 4294967296
def RcvP (b : Nat) (s : Rc) : SProp := ex fun A => ex fun c => ex fun ps =>
  star [blk b (.cells #[.bool s.begun, .int .i64 (s.len : Int), .int .u32 (s.sum : Int), .slice A ps.length c] 137), own 37 1 A ps.length c (pcV ps), pcP ps, fact (ps.map Pc.l = s.parts ∧ s.ok)]
section
variable {w0 w : World} {L L' : List SProp} {b : Nat} {s : Rc}
theorem RcvP.open_ (h : Sat w0 (RcvP b s :: L) w) : ∃ A c ps, (ps.map Pc.l = s.parts ∧ s.ok) ∧
    Sat w0 (blk b (.cells #[.bool s.begun, .int .i64 (s.len : Int), .int .u32 (s.sum : Int), .slice A ps.length c] 137) :: own 37 1 A ps.length c (pcV ps) :: pcP ps :: L) w := by
  obtain ⟨A, h⟩ := Sat.ex_iff.1 h
  obtain ⟨c, h⟩ := Sat.ex_iff.1 h
  obtain ⟨ps, h⟩ := Sat.ex_iff.1 h
  have h := Sat.star_iff.1 h
  simp only [List.cons_append, List.nil_append] at h
  obtain ⟨hok, h⟩ := Sat.fact_iff.1 (h.pull (.there (.there (.there .here))))
  exact ⟨A, c, ps, hok, h⟩
theorem RcvP.shut {A : Option Addr} {c : Nat} {ps : List Pc} (hok : ps.map Pc.l = s.parts ∧ s.ok)
    (h : Sat w0 (blk b (.cells #[.bool s.begun, .int .i64 (s.len : Int), .int .u32 (s.sum : Int), .slice A ps.length c] 137) :: own 37 1 A ps.length c (pcV ps) :: pcP ps :: L) w) : Sat w0 (RcvP b s :: L) w := by
  refine Sat.ex_iff.2 ⟨A, Sat.ex_iff.2 ⟨c, Sat.ex_iff.2 ⟨ps, Sat.star_iff.2 ?_⟩⟩⟩
  simp only [List.cons_append, List.nil_append]
  exact (Sat.fact_iff.2 ⟨hok, h⟩).perm (by
    refine (List.Perm.swap _ _ _).trans (.cons _ ?_)
    refine (List.Perm.swap _ _ _).trans (.cons _ ?_)
    exact List.Perm.swap _ _ _)
/-- What lies in a place. -/
theorem pc_get {ps : List Pc} {os : List (Option (List UInt8))} (he : ps.map Pc.l = os) {i : Nat} (hi : i < ps.length) : ps[i].l = os[i]'(by rw [← he]; simpa using hi) := by subst he; simp
theorem pc_none {ps : List Pc} {i : Nat} (hi : i < ps.length) (hl : ps[i].l = none) : (pcV ps)[i]? = some (.slice none 0 0) := by
  rw [pcV_get _ _ hi]; unfold Pc.v; rw [hl]
theorem pc_some {ps : List Pc} {i : Nat} {l : List UInt8} (hi : i < ps.length) (hl : ps[i].l = some l) (hne : 1 ≤ l.length) (h : Sat w0 (pcP ps :: L) w) : ∃ a, ps[i].A = some a ∧ (pcV ps)[i]? = some (.slice (some a) l.length ps[i].c) := by
  have h2 := pcP_take hi h
  unfold Pc.P at h2
  rw [hl] at h2
  rw [pcV_get _ _ hi]
  unfold Pc.v
  rw [hl]
  rcases own_open h2 .here with ⟨_, h0, _⟩ | ⟨g, cur, hA, _⟩
  · omega
  · exact ⟨_, hA, by rw [hA]⟩
set_option maxHeartbeats 400000 in
theorem NewReceiver_spec (h : Sat w0 L w) :
    Calls Tryd.prog 21 #[] w fun e w' => ∃ b, e = .returned (.pointer (some ⟨b, 0, none⟩)) ∧ Sat w0 (RcvP b Rc.fresh :: L) w' := by
  go_enter Tryd.func21, Tryd.ntmps21
  go_wp2_with (first | ((with_reducible apply wpl_box (T := 137)); ((conv => lhs; whnf) <;> exact rfl); ((conv => lhs; whnf) <;> exact rfl); assumption; intro gA _ _; (try simp only [Act.put, zqa, zqb, zqc, zqd, zqe])))
  go_ret
  refine ⟨gA, rfl, ?_⟩
  refine RcvP.shut (ps := []) (A := none) (c := 0) ⟨rfl, by simp [Rc.fresh], by simp [Rc.fresh], fun _ => rfl, by simp [Rc.fresh], by simp [Rc.fresh]⟩ ?_
  refine Sat.sub (own_nil (T := 37) (s := 1) (pcP_nil (L := blk gA (.cells #[.bool false, .int .i64 0, .int .u32 0, .slice none 0 0] 137) :: L) (by assumption))) ?_
  change Sub (blk gA (.cells #[.bool false, .int .i64 0, .int .u32 0, .slice none 0 0] 137) :: own 37 1 none 0 0 [] :: pcP [] :: L) _
  (with_reducible repeat first | exact pH | exact Sub.refl _ | exact Sub.nil | apply pT | apply Sub.cons | apply Sub.skip)
/-- How many have come. -/
def Rc.have_ (s : Rc) : Nat := s.parts.countP Option.isSome
theorem countP_take {α : Type} (f : α → Bool) (l : List α) (k : Nat) (h : k < l.length) : (l.take (k + 1)).countP f = (l.take k).countP f + (if f l[k] then 1 else 0) := by
  rw [List.take_succ_eq_append_getElem h, List.countP_append]
  cases hx : f l[k] <;> simp [hx]
set_option maxRecDepth 100000 in
set_option maxHeartbeats 1600000 in
theorem Have_spec (h : Sat w0 (RcvP b s :: L) w) :
    Calls Tryd.prog 37 #[.pointer (some ⟨b, 0, none⟩)] w fun e w' => e = .returned (.tuple #[.int .i64 (s.have_ : Int), .int .i64 (s.parts.length : Int)]) ∧ Sat w0 (RcvP b s :: L) w' := by
  obtain ⟨A, c, ps, hok, h⟩ := RcvP.open_ h
  have HOK := Lib.hid hok
  have hlen : ps.length ≤ 640 := by have := hok.2.1; rw [← hok.1] at this; simpa using this
  have hpl : s.parts.length = ps.length := by rw [← hok.1]; simp
  have hne : ∀ l, some l ∈ s.parts → 1 ≤ l.length := fun l hl => (hok.2.2.1 l hl).1
  have HP := Lib.hid hok.1
  have HPL := Lib.hid hpl
  clear hok hpl
  go_enter Tryd.func37, Tryd.ntmps37
  go_wp2_with (first | ((with_reducible first | apply wpl_load Tryd.isAgg33 | apply wpl_load Tryd.isAgg37); exact rfl; exact rfl; assumption; (with_reducible repeat first | exact pH | apply pT); ((try simp only [zqf, zqg, zqh]) <;> exact rfl); (try simp only [Act.put, zqa, zqb, zqc, zqd, zqe])) | ((with_reducible first | apply wpl_load_rd Tryd.isAgg33 | apply wpl_load_rd Tryd.isAgg37); exact rfl; exact rfl; assumption; (first | assumption | (apply Rd.own; focus ((with_reducible repeat first | exact pH | apply pT); done)) | (focus ((repeat first | assumption | with_reducible apply Rd.cons); done)) | with_reducible exact Rd.nil); (first | assumption | exact rfl); (try simp only [Act.put, zqa, zqb, zqc, zqd, zqe])) | ((with_reducible apply wpl_index sl33); exact rfl; exact rfl; exact rfl; assumption; (first | assumption | (apply Rd.own; focus ((with_reducible repeat first | exact pH | apply pT); done)) | (focus ((repeat first | assumption | with_reducible apply Rd.cons); done)) | with_reducible exact Rd.nil); omega; omega; (first | assumption | (simp only [bv_length]; omega) | (simp only [iv_length, List.length_append, List.length_singleton]; omega) | (simp <;> omega)); (try simp only [Act.put, zqa, zqb, zqc, zqd, zqe])))
  go_loopw [4, 12] (fun t i wr => ∃ k : Nat, k ≤ ps.length ∧ i = .int .i64 (k : Int) ∧ t = .int .i64 ((s.parts.take k).countP Option.isSome : Nat) ∧ Sat w0 (blk b (.cells #[.bool s.begun, .int .i64 (s.len : Int), .int .u32 (s.sum : Int), .slice A ps.length c] 137) :: own 37 1 A ps.length c (pcV ps) :: pcP ps :: L) wr) (fun _ i _ => ps.length - (intOf i).toNat)
  case atStart => exact ⟨0, by omega, rfl, by simp, by assumption⟩
  case round =>
    obtain ⟨k, hk, rfl, rfl, h⟩ := hrel
    have hcn : (s.parts.take k).countP Option.isSome ≤ 640 := Nat.le_trans List.countP_le_length (by rw [List.length_take]; omega)
    by_cases hlt : k < ps.length
    · have hkp : k < s.parts.length := by rw [HPL.out]; exact hlt
      have hct := countP_take Option.isSome s.parts k hkp
      have hg := pc_get HP.out hlt
      cases hx : s.parts[k] with
      | none =>
        rw [hx] at hg hct
        have hv := pc_none hlt hg
        have HCT := Lib.hid hct
        clear hg hct hx hkp
        go_wp2_with (first | ((with_reducible first | apply wpl_load Tryd.isAgg33 | apply wpl_load Tryd.isAgg37); exact rfl; exact rfl; assumption; (with_reducible repeat first | exact pH | apply pT); ((try simp only [zqf, zqg, zqh]) <;> exact rfl); (try simp only [Act.put, zqa, zqb, zqc, zqd, zqe])) | ((with_reducible first | apply wpl_load_rd Tryd.isAgg33 | apply wpl_load_rd Tryd.isAgg37); exact rfl; exact rfl; assumption; (first | assumption | (apply Rd.own; focus ((with_reducible repeat first | exact pH | apply pT); done)) | (focus ((repeat first | assumption | with_reducible apply Rd.cons); done)) | with_reducible exact Rd.nil); (first | assumption | exact rfl); (try simp only [Act.put, zqa, zqb, zqc, zqd, zqe])) | ((with_reducible apply wpl_index sl33); exact rfl; exact rfl; exact rfl; assumption; (first | assumption | (apply Rd.own; focus ((with_reducible repeat first | exact pH | apply pT); done)) | (focus ((repeat first | assumption | with_reducible apply Rd.cons); done)) | with_reducible exact Rd.nil); omega; omega; (first | assumption | (simp only [bv_length]; omega) | (simp only [iv_length, List.length_append, List.length_singleton]; omega) | (simp <;> omega)); (try simp only [Act.put, zqa, zqb, zqc, zqd, zqe])))
        go_roundw
        case rel => exact ⟨k + 1, by omega, by go_num, by rw [HCT.out]; simp, by assumption⟩
        case measure => simp [intOf]; omega
      | some l =>
        rw [hx] at hg hct
        obtain ⟨a, ha, hv⟩ := pc_some hlt hg (hne l (hx ▸ List.getElem_mem hkp)) (h.drop.drop)
        have HCT := Lib.hid hct
        clear hg hct hx hkp ha
        go_wp2_with (first | ((with_reducible first | apply wpl_load Tryd.isAgg33 | apply wpl_load Tryd.isAgg37); exact rfl; exact rfl; assumption; (with_reducible repeat first | exact pH | apply pT); ((try simp only [zqf, zqg, zqh]) <;> exact rfl); (try simp only [Act.put, zqa, zqb, zqc, zqd, zqe])) | ((with_reducible first | apply wpl_load_rd Tryd.isAgg33 | apply wpl_load_rd Tryd.isAgg37); exact rfl; exact rfl; assumption; (first | assumption | (apply Rd.own; focus ((with_reducible repeat first | exact pH | apply pT); done)) | (focus ((repeat first | assumption | with_reducible apply Rd.cons); done)) | with_reducible exact Rd.nil); (first | assumption | exact rfl); (try simp only [Act.put, zqa, zqb, zqc, zqd, zqe])) | ((with_reducible apply wpl_index sl33); exact rfl; exact rfl; exact rfl; assumption; (first | assumption | (apply Rd.own; focus ((with_reducible repeat first | exact pH | apply pT); done)) | (focus ((repeat first | assumption | with_reducible apply Rd.cons); done)) | with_reducible exact Rd.nil); omega; omega; (first | assumption | (simp only [bv_length]; omega) | (simp only [iv_length, List.length_append, List.length_singleton]; omega) | (simp <;> omega)); (try simp only [Act.put, zqa, zqb, zqc, zqd, zqe])))
        go_roundw
        case rel => exact ⟨k + 1, by omega, by go_num, by rw [HCT.out]; simp, by assumption⟩
        case measure => simp [intOf]; omega
    · obtain rfl : k = ps.length := by omega
      have hz : (s.parts.take ps.length).countP Option.isSome = s.have_ := by rw [← HPL.out, List.take_length]; rfl
      rw [hz] at hcn ⊢
      go_wp2_with (first | ((with_reducible first | apply wpl_load Tryd.isAgg33 | apply wpl_load Tryd.isAgg37); exact rfl; exact rfl; assumption; (with_reducible repeat first | exact pH | apply pT); ((try simp only [zqf, zqg, zqh]) <;> exact rfl); (try simp only [Act.put, zqa, zqb, zqc, zqd, zqe])) | ((with_reducible first | apply wpl_load_rd Tryd.isAgg33 | apply wpl_load_rd Tryd.isAgg37); exact rfl; exact rfl; assumption; (first | assumption | (apply Rd.own; focus ((with_reducible repeat first | exact pH | apply pT); done)) | (focus ((repeat first | assumption | with_reducible apply Rd.cons); done)) | with_reducible exact Rd.nil); (first | assumption | exact rfl); (try simp only [Act.put, zqa, zqb, zqc, zqd, zqe])) | ((with_reducible apply wpl_index sl33); exact rfl; exact rfl; exact rfl; assumption; (first | assumption | (apply Rd.own; focus ((with_reducible repeat first | exact pH | apply pT); done)) | (focus ((repeat first | assumption | with_reducible apply Rd.cons); done)) | with_reducible exact Rd.nil); omega; omega; (first | assumption | (simp only [bv_length]; omega) | (simp only [iv_length, List.length_append, List.length_singleton]; omega) | (simp <;> omega)); (try simp only [Act.put, zqa, zqb, zqc, zqd, zqe])) | ((with_reducible apply (wp_draw 8 8 _ (by kernel_rfl))); exact rfl; assumption; (exact Sub.refl _); intro _ _ _; ((apply (take_value (k := 0) rfl (by kernel_rfl) (by kernel_rfl) (by kernel_rfl) (fun _ _ _ => id))); exact rfl; assumption; (apply q_move; ((conv => lhs; whnf) <;> exact rfl)); (try simp only [Act.put, zqa, zqb, zqc, zqd, zqe])); ((apply (take_value (k := 1) rfl (by kernel_rfl) (by kernel_rfl) (by kernel_rfl) (fun _ _ _ => id))); exact rfl; assumption; (apply q_move; ((conv => lhs; whnf) <;> exact rfl)); (try simp only [Act.put, zqa, zqb, zqc, zqd, zqe])); ((apply (take_value (k := 2) rfl (by kernel_rfl) (by kernel_rfl) (by kernel_rfl) (fun _ _ _ => id))); exact rfl; assumption; (exact q_nilCheck rfl); (try simp only [Act.put, zqa, zqb, zqc, zqd, zqe])); ((apply (take_value (k := 3) rfl (by kernel_rfl) (by kernel_rfl) (by kernel_rfl) (fun _ _ _ => id))); exact rfl; assumption; (intro _ _; go_simp; (try exact rfl)); (try simp only [Act.put, zqa, zqb, zqc, zqd, zqe])); ((apply (take_value (k := 4) rfl (by kernel_rfl) (by kernel_rfl) (by kernel_rfl) (fun _ _ _ => id))); exact rfl; assumption; (first | (apply (q_load Tryd.isAgg33); exact rfl; (with_reducible repeat first | exact pH | apply pT); ((try simp only [zqf, zqg, zqh]) <;> exact rfl)) | (apply (q_load_rd Tryd.isAgg33); exact rfl; (first | assumption | (apply Rd.own; focus ((with_reducible repeat first | exact pH | apply pT); done)) | (focus ((repeat first | assumption | with_reducible apply Rd.cons); done)) | with_reducible exact Rd.nil); (first | assumption | exact rfl)) | (apply (q_load_at Tryd.isAgg33); exact rfl; (first | assumption | (apply Rd.own; focus ((with_reducible repeat first | exact pH | apply pT); done)) | (focus ((repeat first | assumption | with_reducible apply Rd.cons); done)) | with_reducible exact Rd.nil))); (try simp only [Act.put, zqa, zqb, zqc, zqd, zqe])); ((apply (take_value (k := 5) rfl (by kernel_rfl) (by kernel_rfl) (by kernel_rfl) (fun _ _ _ => id))); exact rfl; assumption; (exact q_len Tryd.underlying33 rfl); (try simp only [Act.put, zqa, zqb, zqc, zqd, zqe])); ((apply (take_value (k := 6) rfl (by kernel_rfl) (by kernel_rfl) (by kernel_rfl) (fun _ _ _ => id))); exact rfl; assumption; (apply q_assign; ((conv => lhs; whnf) <;> exact rfl)); (try simp only [Act.put, zqa, zqb, zqc, zqd, zqe])); ((apply (take_value (k := 7) rfl (by kernel_rfl) (by kernel_rfl) (by kernel_rfl) (fun _ _ _ => id))); exact rfl; assumption; (apply q_assign; ((conv => lhs; whnf) <;> exact rfl)); (try simp only [Act.put, zqa, zqb, zqc, zqd, zqe])); (refine take_done (by kernel_rfl) ?_)))
      go_ret2
      rw [HPL.out]
      refine ⟨rfl, RcvP.shut HOK.out (by assumption)⟩
/-- The bytes of the parts that have come. -/
def Rc.whole (s : Rc) : List UInt8 := (s.parts.map fun o => o.getD []).flatten
def flat (l : List (Option (List UInt8))) : List UInt8 := (l.map fun o => o.getD []).flatten
theorem flat_take (l : List (Option (List UInt8))) (k : Nat) (h : k < l.length) : flat (l.take (k + 1)) = flat (l.take k) ++ (l[k].getD []) := by
  unfold flat
  rw [List.take_succ_eq_append_getElem h, List.map_append, List.flatten_append]
  simp
theorem flat_le (l : List (Option (List UInt8))) (h : ∀ x, some x ∈ l → x.length ≤ 64) : (flat l).length ≤ 64 * l.length := by
  unfold flat
  induction l with
  | nil => simp
  | cons o l ih =>
    have := ih fun x hx => h x (List.mem_cons_of_mem _ hx)
    have h2 : (o.getD []).length ≤ 64 := by
      cases o with
      | none => simp
      | some x => exact h x (List.mem_cons_self ..)
    simp only [List.map_cons, List.flatten_cons, List.length_append, List.length_cons]
    omega
set_option maxRecDepth 100000 in
set_option maxHeartbeats 1600000 in
theorem whole_open {A : Option Addr} {c : Nat} {ps : List Pc} (hok : ps.map Pc.l = s.parts ∧ s.ok) (h : Sat w0 (blk b (.cells #[.bool s.begun, .int .i64 (s.len : Int), .int .u32 (s.sum : Int), .slice A ps.length c] 137) :: own 37 1 A ps.length c (pcV ps) :: pcP ps :: L) w) :
    Calls Tryd.prog 82 #[.pointer (some ⟨b, 0, none⟩)] w fun e w' => ∃ B d, e = .returned (.slice B s.whole.length d) ∧ Sat w0 (own 5 1 B s.whole.length d (bv s.whole) :: blk b (.cells #[.bool s.begun, .int .i64 (s.len : Int), .int .u32 (s.sum : Int), .slice A ps.length c] 137) :: own 37 1 A ps.length c (pcV ps) :: pcP ps :: L) w' := by
  have HOK := Lib.hid hok
  have hlen : ps.length ≤ 640 := by have := hok.2.1; rw [← hok.1] at this; simpa using this
  have hpl : s.parts.length = ps.length := by rw [← hok.1]; simp
  have hne : ∀ l, some l ∈ s.parts → 1 ≤ l.length ∧ l.length ≤ 64 := hok.2.2.1
  have HP := Lib.hid hok.1
  have HPL := Lib.hid hpl
  have hfl : ∀ k, (flat (s.parts.take k)).length ≤ 40960 := fun k => by
    have := flat_le (s.parts.take k) fun x hx => (hne x (List.mem_of_mem_take hx)).2
    rw [List.length_take] at this
    omega
  clear hok hpl
  go_enter Tryd.func82, Tryd.ntmps82
  go_wp2_with (first | ((with_reducible first | apply wpl_load Tryd.isAgg33 | apply wpl_load Tryd.isAgg37); exact rfl; exact rfl; assumption; (with_reducible repeat first | exact pH | apply pT); ((try simp only [zqf, zqg, zqh]) <;> exact rfl); (try simp only [Act.put, zqa, zqb, zqc, zqd, zqe])) | ((with_reducible first | apply wpl_load_rd Tryd.isAgg33 | apply wpl_load_rd Tryd.isAgg37); exact rfl; exact rfl; assumption; (first | assumption | (apply Rd.own; focus ((with_reducible repeat first | exact pH | apply pT); done)) | (focus ((repeat first | assumption | with_reducible apply Rd.cons); done)) | with_reducible exact Rd.nil); (first | assumption | exact rfl); (try simp only [Act.put, zqa, zqb, zqc, zqd, zqe])) | ((with_reducible apply wpl_index sl33); exact rfl; exact rfl; exact rfl; assumption; (first | assumption | (apply Rd.own; focus ((with_reducible repeat first | exact pH | apply pT); done)) | (focus ((repeat first | assumption | with_reducible apply Rd.cons); done)) | with_reducible exact Rd.nil); omega; omega; (first | assumption | (simp only [bv_length]; omega) | (simp only [iv_length, List.length_append, List.length_singleton]; omega) | (simp <;> omega)); (try simp only [Act.put, zqa, zqb, zqc, zqd, zqe])) | ((with_reducible apply wpl_append_nil sl37); exact rfl; exact rfl; exact rfl; assumption; (first | assumption | (apply Rd.own; focus ((with_reducible repeat first | exact pH | apply pT); done)) | (focus ((repeat first | assumption | with_reducible apply Rd.cons); done)) | with_reducible exact Rd.nil); (first | rfl | assumption | (simp <;> done) | (simp <;> omega)); (first | exact bv_one _ | exact iv_one _ | exact pcV_one _ | assumption | (simp [Value.oneCell'] <;> done)); (first | omega | (simp <;> omega)); (show _ ≤ 9223372036854775807; omega); intro _ _ _ _; (try simp only [Act.put, zqa, zqb, zqc, zqd, zqe])) | ((with_reducible apply wpl_append sl37); exact rfl; exact rfl; exact rfl; assumption; (with_reducible repeat first | exact pH | apply pT); (first | assumption | (apply Rd.own; focus ((with_reducible repeat first | exact pH | apply pT); done)) | (focus ((repeat first | assumption | with_reducible apply Rd.cons); done)) | with_reducible exact Rd.nil); (first | rfl | assumption | (simp <;> done) | (simp <;> omega)); (first | exact bv_one _ | exact iv_one _ | exact pcV_one _ | assumption | (simp [Value.oneCell'] <;> done)); (first | omega | (simp <;> omega)); (show _ ≤ 9223372036854775807; omega); intro _ _ _ _; (try simp only [Act.put, zqa, zqb, zqc, zqd, zqe])))
  go_loopw [3, 11] (fun t i wr => ∃ k : Nat, k ≤ ps.length ∧ i = .int .i64 (k : Int) ∧ ∃ B d n, n = (flat (s.parts.take k)).length ∧ t = .slice B n d ∧ Sat w0 (own 5 1 B n d (bv (flat (s.parts.take k))) :: blk b (.cells #[.bool s.begun, .int .i64 (s.len : Int), .int .u32 (s.sum : Int), .slice A ps.length c] 137) :: own 37 1 A ps.length c (pcV ps) :: pcP ps :: L) wr) (fun _ i _ => ps.length - (intOf i).toNat)
  case atStart => exact ⟨0, by omega, rfl, none, 0, 0, by simp [flat], rfl, own_nil (by assumption)⟩
  case round =>
    obtain ⟨k, hk, rfl, B, d, n, hn, rfl, h⟩ := hrel
    have hnm : n ≤ 40960 := by have := hfl k; omega
    by_cases hlt : k < ps.length
    · have hkp : k < s.parts.length := by rw [HPL.out]; exact hlt
      have hct := flat_take s.parts k hkp
      have hg := pc_get HP.out hlt
      cases hx : s.parts[k] with
      | none =>
        rw [hx] at hg hct
        have hv := pc_none hlt hg
        have HCT := Lib.hid hct
        have HN := Lib.hid hn
        have hR : Rd (own 5 1 B n d (bv (flat (s.parts.take k))) :: blk b (.cells #[.bool s.begun, .int .i64 (s.len : Int), .int .u32 (s.sum : Int), .slice A ps.length c] 137) :: own 37 1 A ps.length c (pcV ps) :: pcP ps :: L) none (bv []) := Rd.nil
        clear hg hct hx hkp hn
        go_wp2_with (first | ((with_reducible first | apply wpl_load Tryd.isAgg33 | apply wpl_load Tryd.isAgg37); exact rfl; exact rfl; assumption; (with_reducible repeat first | exact pH | apply pT); ((try simp only [zqf, zqg, zqh]) <;> exact rfl); (try simp only [Act.put, zqa, zqb, zqc, zqd, zqe])) | ((with_reducible first | apply wpl_load_rd Tryd.isAgg33 | apply wpl_load_rd Tryd.isAgg37); exact rfl; exact rfl; assumption; (first | assumption | (apply Rd.own; focus ((with_reducible repeat first | exact pH | apply pT); done)) | (focus ((repeat first | assumption | with_reducible apply Rd.cons); done)) | with_reducible exact Rd.nil); (first | assumption | exact rfl); (try simp only [Act.put, zqa, zqb, zqc, zqd, zqe])) | ((with_reducible apply wpl_index sl33); exact rfl; exact rfl; exact rfl; assumption; (first | assumption | (apply Rd.own; focus ((with_reducible repeat first | exact pH | apply pT); done)) | (focus ((repeat first | assumption | with_reducible apply Rd.cons); done)) | with_reducible exact Rd.nil); omega; omega; (first | assumption | (simp only [bv_length]; omega) | (simp only [iv_length, List.length_append, List.length_singleton]; omega) | (simp <;> omega)); (try simp only [Act.put, zqa, zqb, zqc, zqd, zqe])) | ((with_reducible apply wpl_append_nil sl37); exact rfl; exact rfl; exact rfl; assumption; (first | assumption | (apply Rd.own; focus ((with_reducible repeat first | exact pH | apply pT); done)) | (focus ((repeat first | assumption | with_reducible apply Rd.cons); done)) | with_reducible exact Rd.nil); (first | rfl | assumption | (simp <;> done) | (simp <;> omega)); (first | exact bv_one _ | exact iv_one _ | exact pcV_one _ | assumption | (simp [Value.oneCell'] <;> done)); (first | omega | (simp <;> omega)); (show _ ≤ 9223372036854775807; omega); intro _ _ _ _; (try simp only [Act.put, zqa, zqb, zqc, zqd, zqe])) | ((with_reducible apply wpl_append sl37); exact rfl; exact rfl; exact rfl; assumption; (with_reducible repeat first | exact pH | apply pT); (first | assumption | (apply Rd.own; focus ((with_reducible repeat first | exact pH | apply pT); done)) | (focus ((repeat first | assumption | with_reducible apply Rd.cons); done)) | with_reducible exact Rd.nil); (first | rfl | assumption | (simp <;> done) | (simp <;> omega)); (first | exact bv_one _ | exact iv_one _ | exact pcV_one _ | assumption | (simp [Value.oneCell'] <;> done)); (first | omega | (simp <;> omega)); (show _ ≤ 9223372036854775807; omega); intro _ _ _ _; (try simp only [Act.put, zqa, zqb, zqc, zqd, zqe])))
        go_roundw
        case rel =>
          refine ⟨k + 1, by omega, by go_num, Exists.intro ?zA (Exists.intro ?zc ⟨n, ?z1, ?z2, ?z3⟩)⟩
          case z1 => rw [HCT.out]; simpa using HN.out
          case z2 => rfl
          case z3 => rw [HCT.out, bv_append]; (first | assumption | (refine Sat.sub (by assumption) ?_; (with_reducible repeat first | exact pH | exact Sub.refl _ | exact Sub.nil | apply pT | apply Sub.cons | apply Sub.skip)))
        case measure => simp [intOf]; omega
      | some l =>
        rw [hx] at hg hct
        have hl1 := hne l (hx ▸ List.getElem_mem hkp)
        have hR : Rd (own 5 1 B n d (bv (flat (s.parts.take k))) :: blk b (.cells #[.bool s.begun, .int .i64 (s.len : Int), .int .u32 (s.sum : Int), .slice A ps.length c] 137) :: own 37 1 A ps.length c (pcV ps) :: pcP ps :: L) ps[k].A (bv l) := (pcP_rd hlt hg).cons.cons.cons
        obtain ⟨a, ha, hv⟩ := pc_some hlt hg hl1.1 (h.drop.drop.drop)
        rw [ha] at hR
        have HCT := Lib.hid hct
        have HN := Lib.hid hn
        clear hg hct hx hkp ha hn
        go_wp2_with (first | ((with_reducible first | apply wpl_load Tryd.isAgg33 | apply wpl_load Tryd.isAgg37); exact rfl; exact rfl; assumption; (with_reducible repeat first | exact pH | apply pT); ((try simp only [zqf, zqg, zqh]) <;> exact rfl); (try simp only [Act.put, zqa, zqb, zqc, zqd, zqe])) | ((with_reducible first | apply wpl_load_rd Tryd.isAgg33 | apply wpl_load_rd Tryd.isAgg37); exact rfl; exact rfl; assumption; (first | assumption | (apply Rd.own; focus ((with_reducible repeat first | exact pH | apply pT); done)) | (focus ((repeat first | assumption | with_reducible apply Rd.cons); done)) | with_reducible exact Rd.nil); (first | assumption | exact rfl); (try simp only [Act.put, zqa, zqb, zqc, zqd, zqe])) | ((with_reducible apply wpl_index sl33); exact rfl; exact rfl; exact rfl; assumption; (first | assumption | (apply Rd.own; focus ((with_reducible repeat first | exact pH | apply pT); done)) | (focus ((repeat first | assumption | with_reducible apply Rd.cons); done)) | with_reducible exact Rd.nil); omega; omega; (first | assumption | (simp only [bv_length]; omega) | (simp only [iv_length, List.length_append, List.length_singleton]; omega) | (simp <;> omega)); (try simp only [Act.put, zqa, zqb, zqc, zqd, zqe])) | ((with_reducible apply wpl_append_nil sl37); exact rfl; exact rfl; exact rfl; assumption; (first | assumption | (apply Rd.own; focus ((with_reducible repeat first | exact pH | apply pT); done)) | (focus ((repeat first | assumption | with_reducible apply Rd.cons); done)) | with_reducible exact Rd.nil); (first | rfl | assumption | (simp <;> done) | (simp <;> omega)); (first | exact bv_one _ | exact iv_one _ | exact pcV_one _ | assumption | (simp [Value.oneCell'] <;> done)); (first | omega | (simp <;> omega)); (show _ ≤ 9223372036854775807; omega); intro _ _ _ _; (try simp only [Act.put, zqa, zqb, zqc, zqd, zqe])) | ((with_reducible apply wpl_append sl37); exact rfl; exact rfl; exact rfl; assumption; (with_reducible repeat first | exact pH | apply pT); (first | assumption | (apply Rd.own; focus ((with_reducible repeat first | exact pH | apply pT); done)) | (focus ((repeat first | assumption | with_reducible apply Rd.cons); done)) | with_reducible exact Rd.nil); (first | rfl | assumption | (simp <;> done) | (simp <;> omega)); (first | exact bv_one _ | exact iv_one _ | exact pcV_one _ | assumption | (simp [Value.oneCell'] <;> done)); (first | omega | (simp <;> omega)); (show _ ≤ 9223372036854775807; omega); intro _ _ _ _; (try simp only [Act.put, zqa, zqb, zqc, zqd, zqe])))
        go_roundw
        case rel =>
          refine ⟨k + 1, by omega, by go_num, Exists.intro ?yA (Exists.intro ?yc ⟨n + l.length, ?y1, ?y2, ?y3⟩)⟩
          case y1 => rw [HCT.out, HN.out]; simp
          case y2 => rfl
          case y3 => rw [HCT.out, bv_append]; assumption
        case measure => simp [intOf]; omega
    · obtain rfl : k = ps.length := by omega
      have hz : flat (s.parts.take ps.length) = s.whole := by rw [← HPL.out, List.take_length]; rfl
      rw [hz] at hn h
      subst hn
      go_wp2_with (first | ((with_reducible first | apply wpl_load Tryd.isAgg33 | apply wpl_load Tryd.isAgg37); exact rfl; exact rfl; assumption; (with_reducible repeat first | exact pH | apply pT); ((try simp only [zqf, zqg, zqh]) <;> exact rfl); (try simp only [Act.put, zqa, zqb, zqc, zqd, zqe])) | ((with_reducible first | apply wpl_load_rd Tryd.isAgg33 | apply wpl_load_rd Tryd.isAgg37); exact rfl; exact rfl; assumption; (first | assumption | (apply Rd.own; focus ((with_reducible repeat first | exact pH | apply pT); done)) | (focus ((repeat first | assumption | with_reducible apply Rd.cons); done)) | with_reducible exact Rd.nil); (first | assumption | exact rfl); (try simp only [Act.put, zqa, zqb, zqc, zqd, zqe])) | ((with_reducible apply wpl_index sl33); exact rfl; exact rfl; exact rfl; assumption; (first | assumption | (apply Rd.own; focus ((with_reducible repeat first | exact pH | apply pT); done)) | (focus ((repeat first | assumption | with_reducible apply Rd.cons); done)) | with_reducible exact Rd.nil); omega; omega; (first | assumption | (simp only [bv_length]; omega) | (simp only [iv_length, List.length_append, List.length_singleton]; omega) | (simp <;> omega)); (try simp only [Act.put, zqa, zqb, zqc, zqd, zqe])) | ((with_reducible apply wpl_append_nil sl37); exact rfl; exact rfl; exact rfl; assumption; (first | assumption | (apply Rd.own; focus ((with_reducible repeat first | exact pH | apply pT); done)) | (focus ((repeat first | assumption | with_reducible apply Rd.cons); done)) | with_reducible exact Rd.nil); (first | rfl | assumption | (simp <;> done) | (simp <;> omega)); (first | exact bv_one _ | exact iv_one _ | exact pcV_one _ | assumption | (simp [Value.oneCell'] <;> done)); (first | omega | (simp <;> omega)); (show _ ≤ 9223372036854775807; omega); intro _ _ _ _; (try simp only [Act.put, zqa, zqb, zqc, zqd, zqe])) | ((with_reducible apply wpl_append sl37); exact rfl; exact rfl; exact rfl; assumption; (with_reducible repeat first | exact pH | apply pT); (first | assumption | (apply Rd.own; focus ((with_reducible repeat first | exact pH | apply pT); done)) | (focus ((repeat first | assumption | with_reducible apply Rd.cons); done)) | with_reducible exact Rd.nil); (first | rfl | assumption | (simp <;> done) | (simp <;> omega)); (first | exact bv_one _ | exact iv_one _ | exact pcV_one _ | assumption | (simp [Value.oneCell'] <;> done)); (first | omega | (simp <;> omega)); (show _ ≤ 9223372036854775807; omega); intro _ _ _ _; (try simp only [Act.put, zqa, zqb, zqc, zqd, zqe])))
      go_ret
      exact ⟨B, d, rfl, h⟩
theorem whole_spec (h : Sat w0 (RcvP b s :: L) w) :
    Calls Tryd.prog 82 #[.pointer (some ⟨b, 0, none⟩)] w fun e w' => ∃ B d, e = .returned (.slice B s.whole.length d) ∧ Sat w0 (own 5 1 B s.whole.length d (bv s.whole) :: RcvP b s :: L) w' := by
  obtain ⟨A, c, ps, hok, h⟩ := RcvP.open_ h
  refine (whole_open hok h).mono fun e w' ⟨B, d, he, h'⟩ => ⟨B, d, he, Sat.swap (RcvP.shut (A := A) (c := c) hok (Sat.sub h' ?_))⟩
  (with_reducible repeat first | exact pH | exact Sub.refl _ | exact Sub.nil | apply pT | apply Sub.cons | apply Sub.skip)
/-- What Cargo tells. -/
def Rc.cargo (s : Rc) : List UInt8 × Bool := if s.begun = true ∧ s.have_ = s.parts.length then (s.whole, true) else ([], false)
set_option maxRecDepth 100000 in
set_option maxHeartbeats 1600000 in
theorem Cargo_spec (h : Sat w0 (RcvP b s :: L) w) :
    Calls Tryd.prog 31 #[.pointer (some ⟨b, 0, none⟩)] w fun e w' => ∃ B d, e = .returned (.tuple #[.slice B s.cargo.1.length d, .bool s.cargo.2]) ∧
      Sat w0 (own 5 1 B s.cargo.1.length d (bv s.cargo.1) :: RcvP b s :: L) w' := by
  have HH := Lib.hid (Have_spec h)
  obtain ⟨_, _, _, hok, _⟩ := RcvP.open_ h
  have hle : s.have_ ≤ s.parts.length := List.countP_le_length
  have h640 := hok.2.1
  clear hok h
  by_cases hb : s.begun = true
  · by_cases he : s.have_ = s.parts.length
    · have E := Lib.hid (show s.begun = true ∧ s.have_ = s.parts.length from ⟨hb, he⟩)
      have E2 := Lib.hid (show s.cargo = (s.whole, true) by unfold Rc.cargo; rw [if_pos E.out])
      have g1 : ¬ s.have_ < s.parts.length := by omega
      clear hb he
      have hb := E.out.1
      go_enter Tryd.func31, Tryd.ntmps31
      go_wp2_with (first | (go_at_call 37; refine HH.out.mono ?_; rintro _ _ ⟨rfl, h'⟩; obtain ⟨A, c, ps, hok, hS⟩ := RcvP.open_ h'; have HOK := Lib.hid hok; clear hok h'; rw [hb] at hS) | (go_at_call 82; refine (whole_spec (s := s) (RcvP.shut (A := A) (c := c) HOK.out (by rw [hb]; assumption))).mono ?_; rintro _ _ ⟨B, d, rfl, h2⟩) | ((with_reducible refine wpl_off ?_ ?_); exact rfl; (try simp only [Act.put, zqa, zqb, zqc, zqd, zqe])) | ((with_reducible apply wpl_load Tryd.isAgg4); exact rfl; exact rfl; assumption; (with_reducible repeat first | exact pH | apply pT); ((try simp only [zqf, zqg, zqh]) <;> exact rfl); (try simp only [Act.put, zqa, zqb, zqc, zqd, zqe])) | ((with_reducible apply wpl_load_rd Tryd.isAgg4); exact rfl; exact rfl; assumption; (first | assumption | (apply Rd.own; focus ((with_reducible repeat first | exact pH | apply pT); done)) | (focus ((repeat first | assumption | with_reducible apply Rd.cons); done)) | with_reducible exact Rd.nil); (first | assumption | exact rfl); (try simp only [Act.put, zqa, zqb, zqc, zqd, zqe])))
      go_ret2
      rw [E2.out]
      exact ⟨B, d, rfl, h2⟩
    · have E := Lib.hid (show ¬ (s.begun = true ∧ s.have_ = s.parts.length) from fun h => he h.2)
      have E2 := Lib.hid (show s.cargo = ([], false) by unfold Rc.cargo; rw [if_neg E.out])
      have g1 : s.have_ < s.parts.length := by omega
      clear he
      go_enter Tryd.func31, Tryd.ntmps31
      go_wp2_with (first | (go_at_call 37; refine HH.out.mono ?_; rintro _ _ ⟨rfl, h'⟩; obtain ⟨A, c, ps, hok, hS⟩ := RcvP.open_ h'; have HOK := Lib.hid hok; clear hok h'; rw [hb] at hS) | ((with_reducible refine wpl_off ?_ ?_); exact rfl; (try simp only [Act.put, zqa, zqb, zqc, zqd, zqe])) | ((with_reducible apply wpl_load Tryd.isAgg4); exact rfl; exact rfl; assumption; (with_reducible repeat first | exact pH | apply pT); ((try simp only [zqf, zqg, zqh]) <;> exact rfl); (try simp only [Act.put, zqa, zqb, zqc, zqd, zqe])) | ((with_reducible apply wpl_load_rd Tryd.isAgg4); exact rfl; exact rfl; assumption; (first | assumption | (apply Rd.own; focus ((with_reducible repeat first | exact pH | apply pT); done)) | (focus ((repeat first | assumption | with_reducible apply Rd.cons); done)) | with_reducible exact Rd.nil); (first | assumption | exact rfl); (try simp only [Act.put, zqa, zqb, zqc, zqd, zqe])))
      go_ret2
      rw [E2.out]
      exact ⟨none, 0, rfl, own_nil (RcvP.shut (A := A) (c := c) HOK.out (by rw [hb]; assumption))⟩
  · have hb' : s.begun = false := by simpa using hb
    have E := Lib.hid (show ¬ (s.begun = true ∧ s.have_ = s.parts.length) from fun h => hb h.1)
    have E2 := Lib.hid (show s.cargo = ([], false) by unfold Rc.cargo; rw [if_neg E.out])
    clear hb
    go_enter Tryd.func31, Tryd.ntmps31
    go_wp2_with (first | (go_at_call 37; refine HH.out.mono ?_; rintro _ _ ⟨rfl, h'⟩; obtain ⟨A, c, ps, hok, hS⟩ := RcvP.open_ h'; have HOK := Lib.hid hok; clear hok h'; rw [hb'] at hS) | ((with_reducible refine wpl_off ?_ ?_); exact rfl; (try simp only [Act.put, zqa, zqb, zqc, zqd, zqe])) | ((with_reducible apply wpl_load Tryd.isAgg4); exact rfl; exact rfl; assumption; (with_reducible repeat first | exact pH | apply pT); ((try simp only [zqf, zqg, zqh]) <;> exact rfl); (try simp only [Act.put, zqa, zqb, zqc, zqd, zqe])) | ((with_reducible apply wpl_load_rd Tryd.isAgg4); exact rfl; exact rfl; assumption; (first | assumption | (apply Rd.own; focus ((with_reducible repeat first | exact pH | apply pT); done)) | (focus ((repeat first | assumption | with_reducible apply Rd.cons); done)) | with_reducible exact Rd.nil); (first | assumption | exact rfl); (try simp only [Act.put, zqa, zqb, zqc, zqd, zqe])))
    go_ret2
    rw [E2.out]
    exact ⟨none, 0, rfl, own_nil (RcvP.shut (A := A) (c := c) HOK.out (by rw [hb']; assumption))⟩
end
end Go.Proofs.YtgobibgpkcdmdaaDoor
