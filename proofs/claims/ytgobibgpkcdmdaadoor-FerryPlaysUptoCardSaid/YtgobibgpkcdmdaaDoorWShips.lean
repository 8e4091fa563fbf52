/- The walk of law 22's ships. -/
import Derived.Test.YtgobibgpkcdmdaaDoorWLaw1
import Derived.Test.YtgobibgpkcdmdaaDoorAmber
set_option linter.all false
namespace Go.Proofs.YtgobibgpkcdmdaaDoor
open Go Go.RowKit
attribute [local irreducible] Calls
section
variable {w0 w : World} {L L' : List SProp}
/-- '[]byte("..")' of a constant: a row of the call's own gets the run-time's mark. -/
theorem wpl_conv_mark {P : Program} {ops : Array Oper} {Q : Exit → Act → World → Prop} {rest : List Oper} {a : Act} {dst : Option Tmp} {ty T e : TypeId} {pos : String} {aft : Array Edge} {gd : Option (Nat × Bool)} {x : Operand} {A : Option Addr} {n c : Nat} {xs : List Value} (hs : P.underlying T = some (.slice e)) (he : P.underlying e = some (.int .u8))
    (hw : Region.wanted ⟨dst, .convert T T x, ty, pos, aft, gd⟩ (yielded ops a.tmps) = true) (hx : a.eval x = .slice A n c) (h : Sat w0 L w) (p : Pull (own e 1 A n c xs) L L') (hn : 1 ≤ n)
    (hK : ∀ (g : Nat) (cur : Array Value) (fr : Nat × Nat) (w' : World), (∀ (j : Nat) (v : Value), xs[j]? = some v → cur[j]? = some v) → Sat w0 (blk g (.cells cur e fr) :: L') w' → wpList P ops Q rest (a.put dst (.slice (some ⟨g, 0, none⟩) n c)) w') :
    wpList P ops Q (⟨dst, .convert T T x, ty, pos, aft, gd⟩ :: rest) a w := by
  rcases own_open h p with ⟨_, h0, _⟩ | ⟨g, cur, rfl, hsz, ht, h'⟩
  · omega
  · have hg := h'.heap
    have hsh : w.shape? g = some (e, cur.size) := by unfold World.shape?; rw [hg]
    refine wpl_value (v := .slice (some ⟨g, 0, none⟩) n c) (w' := w.freeze ⟨g, cur.size, none⟩ 1) hw ?_ (hK g cur (cur.size, cur.size + 1) _ ?_ ?_)
    · simp only [execOp, hx, Sem.run_bind]
      simp [convert, run_underlying hs, run_underlying he, markStringish, hsh]
    · intro j v hv
      rw [← ht, List.getElem?_take] at hv
      split at hv
      · simpa using hv
      · cases hv
    · refine Sat.change h' ?_ ?_ ?_ ?_ ?_
      · simp [World.freeze]
      · simp [World.freeze]
      · simp [World.freeze]
      · simp only [World.freeze, if_neg (show ¬ (1 : Nat) = 0 by decide)]
        rw [Array.getElem?_modify, if_pos rfl, hg]
        rfl
      · intro k hk hne
        simp only [World.freeze, if_neg (show ¬ (1 : Nat) = 0 by decide)]
        rw [Array.getElem?_modify, if_neg (fun h => hne h.symm)]
/-- What a call needs of the table. -/
def FormsIn (L : List SProp) : Prop := Rd L (some ⟨10, 1, none⟩) [.func (.func 244) #[] #[]] ∧ Rd L (some ⟨10, 2, none⟩) [.func (.func 245) #[] #[]]
theorem FormsIn.cons {A : SProp} (h : FormsIn L) : FormsIn (A :: L) := ⟨h.1.cons, h.2.cons⟩
theorem one_of {ps : List Pc} {l : List UInt8} (h : ps.map Pc.l = [some l]) : ∃ x, ps = [x] ∧ x.l = some l := by
  cases ps with
  | nil => simp at h
  | cons x r =>
    cases r with
    | nil => exact ⟨x, rfl, by simpa using h⟩
    | cons y r => simp at h
theorem am_l5 : amb.length = 5 := rfl
theorem own_head {B : Option Addr} {n d : Nat} {l : List UInt8} {T : TypeId} (h : Sat w0 (own T 1 B n d (bv l) :: L) w) (hn : n = l.length) (k : Nat) : Rd (own T 1 B n d (bv l) :: L) (subA B d 0 1) (bv (l.take k)) := by
  have hc := (own_cap h .here).1
  have hR : Rd (own T 1 B n d (bv l) :: L) B (bv l) := Rd.own .here
  have := hR.bytes (c := d) (by omega) 0 k
  rwa [List.drop_zero] at this
/-- A row of a bag: what a walk asks of it. -/
theorem row_at {B : SProp} {ps : List Pc} {i : Nat} {l : List UInt8} (h : Sat w0 (B :: pcP ps :: L) w) (hi : i < ps.length) (hl : ps[i].l = some l) (hne : 1 ≤ l.length) :
    ∃ a q, l.length ≤ q ∧ (pcV ps)[i]? = some (.slice (some a) l.length q) ∧ Rd (B :: pcP ps :: L) (some a) (bv l) ∧ ∀ M : List SProp, Rd (pcP ps :: M) (some a) (bv l) := by
  obtain ⟨a, ha, hv⟩ := pc_some hi hl hne h.drop
  have hR : Rd (B :: pcP ps :: L) ps[i].A (bv l) := (pcP_rd hi hl).cons
  rw [ha] at hR
  have h2 := pcP_take hi h.drop
  unfold Pc.P at h2
  rw [hl] at h2
  exact ⟨a, _, (own_cap h2 .here).1, hv, hR, fun M => ha ▸ pcP_rd hi hl⟩
set_option maxRecDepth 100000 in
set_option maxHeartbeats 3200000 in
theorem ships_spec (h : Sat w0 L w) (hf : FormsIn L) :
    Calls Tryd.prog 20 #[] w fun e w' => e = .returned (.bool true) ∧ Sat w0 L w' := by
  go_enter Tryd.func20, Tryd.ntmps20
  go_wp2_with (first | (go_at_call 25; refine (NewSender_ok (l := amb) (by decide) rfl (by assumption) (Rd.blk .here (fun j v hv => by rw [Nat.zero_add]; exact hcur j v hv))).mono ?_; rintro _ _ ⟨b, rfl, h1⟩; replace h1 : Sat w0 (SenderP b amS :: _) _ := h1) | (go_at_call 21; refine (NewReceiver_spec h1).mono ?_; rintro _ _ ⟨r, rfl, h2⟩) | (go_at_call 29; refine (SLeft_spec h2.swap).mono ?_; rintro _ _ ⟨he, h3⟩; rw [am_left] at he; subst he) | (go_at_call 33; refine (Tick_spec h3).mono ?_; rintro _ _ ⟨TA, tc, ps, hps, rfl, h4⟩; rw [am_tick] at hps; obtain ⟨x, rfl, hx⟩ := one_of hps; obtain ⟨a0, q0, hq0, hv, hR, hRa⟩ := row_at (i := 0) h4 (by simp) hx (by rw [am_len]; decide); have hR16 := hR.bytes hq0 0 16; rw [List.drop_zero, am_head] at hR16; rw [am_len] at hq0 hv) | (go_at_call 35; refine (RTake_spec (s := Rc.fresh) (l := amPk.bytes) am_len.symm (by rw [am_len]; decide) (Sat.pull (by assumption) (.there (.there (.there .here)))) (hRa _).cons (by repeat (first | exact hf.1 | apply Rd.cons))).mono ?_; rintro _ _ ⟨B5, d5, he, h6⟩; rw [am_take] at he h6; simp only [am_alen] at he h6; subst he; have hcap5 := (own_cap h6 .here).1; have hR12 := own_head h6 am_alen.symm 12; rw [am_ack] at hR12) | (go_at_call 31; refine (Cargo_spec h6.swap).mono ?_; rintro _ _ ⟨B7, d7, he, h7⟩; rw [am_cargo] at he h7; simp only [am_l5] at he h7; subst he) | (go_at_call 69; refine (STake_spec (s := amS) (l := amR.ack.bytes) am_alen.symm (by rw [am_alen]; decide) (Sat.pull h7 (.there (.there (.there (.there (.there .here)))))) (Rd.own (.there (.there .here))) (by repeat (first | exact hf.2 | apply Rd.cons))).mono ?_; rintro _ _ ⟨he, h8⟩; rw [am_stake] at he h8; subst he) | (go_at_call 29; refine (SLeft_spec h8).mono ?_; rintro _ _ ⟨he, h9⟩; rw [am_left0] at he; subst he) | ((with_reducible refine wpl_off ?_ ?_); exact rfl; (try simp only [Act.put, zqa, zqb, zqc, zqd, zqe])) | ((with_reducible apply (wpl_buildSlice (cells := #[.int .u8 97, .int .u8 109, .int .u8 98, .int .u8 101, .int .u8 114]) sl37)); exact rfl; exact rfl; decide; kernel_rfl; exact rfl; assumption; intro _ _ _; (try simp only [Act.put, zqa, zqb, zqc, zqd, zqe])) | ((with_reducible apply (wpl_conv_mark Tryd.underlying37 Tryd.underlying5)); exact rfl; exact rfl; assumption; (exact Pull.here); decide; intro gm cur fr _ hcur _; (try simp only [Act.put, zqa, zqb, zqc, zqd, zqe])) | ((with_reducible apply wpl_buildSlice sl37); exact rfl; exact rfl; decide; exact rfl; rfl; assumption; intro _ _ _; (try simp only [Act.put, zqa, zqb, zqc, zqd, zqe])) | ((with_reducible apply wpl_index sl33); exact rfl; exact rfl; exact rfl; assumption; (first | assumption | (apply Rd.own; focus ((with_reducible repeat first | exact pH | apply pT); done)) | (focus ((repeat first | assumption | with_reducible apply Rd.cons); done)) | with_reducible exact Rd.nil); omega; omega; (first | assumption | (simp only [bv_length]; omega) | (simp only [iv_length, List.length_append, List.length_singleton]; omega) | (simp <;> omega)); (try simp only [Act.put, zqa, zqb, zqc, zqd, zqe])) | ((with_reducible apply wpl_load Tryd.isAgg37); exact rfl; exact rfl; assumption; (with_reducible repeat first | exact pH | apply pT); ((try simp only [zqf, zqg, zqh]) <;> exact rfl); (try simp only [Act.put, zqa, zqb, zqc, zqd, zqe])) | ((with_reducible apply wpl_load_rd Tryd.isAgg37); exact rfl; exact rfl; assumption; (first | assumption | (apply Rd.own; focus ((with_reducible repeat first | exact pH | apply pT); done)) | (focus ((repeat first | assumption | with_reducible apply Rd.cons); done)) | with_reducible exact Rd.nil); (first | assumption | exact rfl); (try simp only [Act.put, zqa, zqb, zqc, zqd, zqe])) | ((with_reducible apply (wpl_slice (kl := .i64) sl37)); exact rfl; exact rfl; (exact .inl ⟨rfl, rfl⟩); exact .inr ⟨_, rfl, rfl⟩; omega; omega; omega; (try simp only [Act.put, zqa, zqb, zqc, zqd, zqe])) | ((with_reducible apply wpl_string Tryd.underlying37 Tryd.underlying5 Tryd.underlying9); exact rfl; exact rfl; assumption; (first | assumption | (apply Rd.own; focus ((with_reducible repeat first | exact pH | apply pT); done)) | (focus ((repeat first | assumption | with_reducible apply Rd.cons); done)) | with_reducible exact Rd.nil); (first | rfl | assumption | (simp <;> done)); (try simp only [Act.put, zqa, zqb, zqc, zqd, zqe])))
  go_ret
  exact ⟨congrArg (fun z => Ending.returned (Value.bool z)) (show (amb == [97, 109, 98, 101, 114]) = true from rfl), Sat.sub h9 (by (with_reducible repeat first | exact pH | exact Sub.refl _ | exact Sub.nil | apply pT | apply Sub.cons | apply Sub.skip))⟩
end
end Go.Proofs.YtgobibgpkcdmdaaDoor
