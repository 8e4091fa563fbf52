/- Regions that draw their order, over 'Sat': operations that read what no other turns are taken first; the others one at a time. -/
import Derived.Test.YtgobibgpkcdmdaaDoorRules2
import Derived.OrdersHeld
import Derived.StillTail
import Derived.KernelRfl
import Derived.IntWalk
set_option linter.all false
namespace Go.Proofs.YtgobibgpkcdmdaaDoor
open Go.RowKit

/-- M is a part of L. -/
inductive Sub : List SProp → List SProp → Prop where
  | nil {L : List SProp} : Sub [] L
  | cons {A : SProp} {M L L' : List SProp} : Pull A L L' → Sub M L' → Sub (A :: M) L
theorem Sat.cons_mono {w0 w : World} {A : SProp} {L M : List SProp} (hLM : ∀ f, Star L f → ∃ g, Star M g ∧ g.Sublist f) (h : Sat w0 (A :: L) w) : Sat w0 (A :: M) w := by
  obtain ⟨f, hs, hn, hm⟩ := h.frag
  obtain ⟨x, k, rfl, hA, hk⟩ := hs.cons_inv
  obtain ⟨g, hg, hsub⟩ := hLM k hk
  have hs2 : (x ++ g).Sublist (x ++ k) := List.Sublist.append_left hsub x
  exact ⟨h.os, h.tape, h.output, x ++ g, .cons hA hg, (hs2.map _).nodup hn, fun p hp => hm p (hs2.mem hp)⟩
theorem Sub.part {M L : List SProp} (s : Sub M L) : ∃ N, L.Perm (M ++ N) := by
  induction s with
  | @nil L => exact ⟨L, List.Perm.refl _⟩
  | @cons A M L L' p s ih =>
    obtain ⟨N, hN⟩ := ih
    exact ⟨N, p.perm.trans (hN.cons A)⟩
theorem Sat.sub {w0 w : World} {M L : List SProp} (h : Sat w0 L w) (s : Sub M L) : Sat w0 M w := by
  obtain ⟨N, hN⟩ := s.part
  have h2 := h.perm (hN.trans List.perm_append_comm)
  clear h hN s
  induction N with
  | nil => exact h2
  | cons B N ih => exact ih h2.drop

theorem Sub.refl : ∀ L : List SProp, Sub L L
  | [] => .nil
  | _ :: L => .cons .here (Sub.refl L)
theorem Sub.skip {B : SProp} {M L : List SProp} (s : Sub M L) : Sub M (B :: L) := by
  induction s with
  | nil => exact .nil
  | cons p s ih => exact .cons (.there p) ih
/-- What is told by L0, as the class of a region that draws. -/
structure Base (w0 : World) (L0 : List SProp) (w : World) : Prop where
  out : Sat w0 L0 w
def KQ (K : Act → World → Prop) (Q : Exit → Act → World → Prop) : Exit → Act → World → Prop
  | .normal => K
  | e => Q e

section
variable {P : Program} {ops : Array Oper} {Q : Exit → Act → World → Prop} {S : World → Prop} {md : Region.Mode} {fuel : Nat} {listed : Array Bool} {a : Act} {w w0 : World} {L L0 L' : List SProp} {o : Oper} {v : Value}
variable {dst : Option Tmp} {ty T e s b : Nat} {z : Value} {pos : String} {aft : Array Edge} {gd : Option (Nat × Bool)} {x y : Operand}
variable {A B : Option Addr} {n c m d : Nat} {xs ys : List Value}

theorem wp_of_KQ {K : Act → World → Prop} (h : wpList P ops (KQ K Q) [o] a w) : if Region.wanted o (yielded ops a.tmps) then o.wp P a w K Q ∨ (o.asks P a w ∧ LetsOut Q) else K (a.put o.dst undef) w := by
  unfold wpList at h
  split at h
  · rename_i hw
    rw [if_pos hw]
    rcases h with h | h
    · left
      unfold Oper.wp at *
      generalize (execOp a.eval o).run P w = r at *
      have hk : ∀ (a : Act) (w : World), wpList P ops (KQ K Q) [] a w → K a w := fun a w h => h
      cases r with
      | ok n w' =>
        cases n <;> simp only [Oper.upon] at h ⊢
        case value u => exact hk _ _ h
        case skip => exact hk _ _ h
        case defer d => exact hk _ _ h
        case enter f args =>
          refine Calls.mono h fun e w'' he => ?_
          cases e with
          | returned u => exact hk _ _ he
          | panicked c => exact he
          | outgrown => exact he
        case row row args => exact Rows.mono h fun u w'' he => hk _ _ he
      | halt x w' => cases x <;> simp only [Oper.upon] at h ⊢; exact h
    · exact .inr h
  · rename_i hw
    rw [if_neg hw]
    exact h

/-- The beginning: what is told by L0 holds behind each operation. -/
theorem wp_draw (id n : Nat) (L0 : List SProp) {l : List Oper} (hm : P.follows .mixedOrders = true) (hn : l.length = n) (h : Sat w0 L w) (hs : Sub L0 L)
    (H : ∀ w', Base w0 L0 w' → Sat w0 L w' → wpAnyH P .any l.toArray Q (Base w0 L0) n (Array.replicate n false) a w') : (Code.region id l.toArray true).wp P Q a w := by
  subst hn
  have h1 := h.drawn (w.drawn + 1)
  have := H _ ⟨h1.sub hs⟩ h1
  exact wp_region_held hm (by simpa using this)

theorem take_value {k : Nat} {op : Op} (hi : ops[k]? = some ⟨dst, op, ty, pos, aft, gd⟩) (hs : Region.noSelect ops = true) (hf : Region.free md ops listed k = true) (hr : (Region.ready md ops listed).contains k = true)
    (hQ : ∀ c a w, Q (.panic c) (a.put dst v) w → Q (.panic c) a w) (hw : Region.wanted ⟨dst, op, ty, pos, aft, gd⟩ (yielded ops a.tmps) = true) (hS : S w) (hrun : ∀ w, S w → (execOp a.eval ⟨dst, op, ty, pos, aft, gd⟩).run P w = .ok (.value v) w)
    (h : wpAnyH P md ops Q S fuel (listed.setIfInBounds k true) (a.put dst v) w) : wpAnyH P md ops Q S (fuel + 1) listed a w :=
  wpAnyH_take hi hs hf hr hQ (.inl ⟨hw, hrun⟩) hS h
theorem take_skip {k : Nat} {op : Op} (hi : ops[k]? = some ⟨dst, op, ty, pos, aft, gd⟩) (hs : Region.noSelect ops = true) (hf : Region.free md ops listed k = true) (hr : (Region.ready md ops listed).contains k = true)
    (hQ : ∀ c a w, Q (.panic c) (a.put dst undef) w → Q (.panic c) a w) (hw : Region.wanted ⟨dst, op, ty, pos, aft, gd⟩ (yielded ops a.tmps) = false) (hS : S w)
    (h : wpAnyH P md ops Q S fuel (listed.setIfInBounds k true) (a.put dst undef) w) : wpAnyH P md ops Q S (fuel + 1) listed a w :=
  wpAnyH_take hi hs hf hr hQ (.inr ⟨hw, rfl⟩) hS h
theorem take_active {k : Nat} {op : Op} (hr : Region.ready md ops listed = [k]) (hi : ops[k]? = some ⟨dst, op, ty, pos, aft, gd⟩)
    (h : wpList P ops (KQ (fun a' w' => S w' ∧ wpAnyH P md ops Q S fuel (listed.setIfInBounds k true) a' w') Q) [⟨dst, op, ty, pos, aft, gd⟩] a w) : wpAnyH P md ops Q S (fuel + 1) listed a w :=
  wpAnyH_all hr (by simp) fun j hj => by
    obtain rfl := List.mem_singleton.1 hj
    unfold wpOp
    rw [hi]
    exact wp_of_KQ h
theorem take_done (hr : Region.ready md ops listed = []) (h : Q .normal a w) : wpAnyH P md ops Q S fuel listed a w := wpAnyH_done hr h fuel

/-! ### A region whose last operation waits for all others: behind that one L0 need not hold -/
/-- Whatever order is picked from here on; behind each operation but number z the class S holds. -/
def AnyZ (P : Program) (md : Region.Mode) (ops : Array Oper) (Q : Exit → Act → World → Prop) (S : World → Prop) (z : Nat) : Nat → Array Bool → Act → World → Prop
  | 0, listed, a, w => Region.ready md ops listed = [] ∧ Q .normal a w
  | n + 1, listed, a, w => (Region.ready md ops listed = [] → Q .normal a w) ∧
      ∀ j ∈ Region.ready md ops listed, wpOp P ops Q j (fun a' w' => (j ≠ z → S w') ∧ AnyZ P md ops Q S z n (listed.setIfInBounds j true) a' w') a w
theorem AnyZ.any {z : Nat} : ∀ (n : Nat) (listed : Array Bool) (a : Act) (w : World), AnyZ P md ops Q S z n listed a w → wpAny P md ops Q n listed a w
  | 0, _, _, _, h => h
  | n + 1, _, _, _, h => ⟨h.1, fun i hi => wpOp_mono (fun a' w' h' => AnyZ.any n _ a' w' h'.2) (h.2 i hi)⟩
theorem AnyZ.pick {z i : Nat} {oi : Oper} (hi : ops[i]? = some oi) (hsel : ∀ (j : Nat) (o : Oper) cs b, ops[j]? = some o → o.op ≠ .select cs b) (hQ : ∀ c a w, Q (.panic c) (a.put oi.dst v) w → Q (.panic c) a w)
    (hs : Region.sinkB md ops z = true) (hc : Region.chainB md ops z = true) (hz : z < ops.size) (hiz : i < z) :
    ∀ (n : Nat) (listed : Array Bool) (a : Act) (w : World), HeadInv md ops z listed →
      (∀ j oj, ops[j]? = some oj → j ≠ i → listed.getD j true = false → (∀ e ∈ oj.after, Region.binds md e = true → e.on ≠ i) → oi.apart ops oj = true) →
      i ∈ Region.ready md ops listed → YieldsIf P ops S oi v a → S w → AnyZ P md ops Q S z n (listed.setIfInBounds i true) (a.put oi.dst v) w → AnyZ P md ops Q S z (n + 1) listed a w := by
  intro n
  induction n with
  | zero =>
    intro listed a w _ _ hr hy hS H
    refine ⟨fun h => (by rw [h] at hr; cases hr), fun j hj => ?_⟩
    by_cases hji : j = i
    · subst hji; exact hy.wpOp hi hS ⟨fun _ => hS, H⟩
    · have := ready_mono hj hji
      rw [H.1] at this
      cases this
  | succ n ih =>
    intro listed a w inv hfree hr hy hS H
    have hun := (mem_ready.1 hr).1
    refine ⟨fun h => (by rw [h] at hr; cases hr), fun j hj => ?_⟩
    by_cases hji : j = i
    · subst hji; exact hy.wpOp hi hS ⟨fun _ => hS, H⟩
    · have hjz : j < z := by
        rcases Nat.lt_or_ge j z with h | h
        · exact h
        · exact absurd hj (tail_waits hs hc hz inv _ i rfl hiz hun j h)
      have h1 := H.2 j (ready_mono hj hji)
      obtain ⟨hjun, oj, hoj, hall⟩ := mem_ready.1 hj
      have hnot : ∀ e ∈ oj.after, Region.binds md e = true → e.on ≠ i := fun e he hb heq => by
        have h1 := hall e he hb
        rw [heq, getD_both hun] at h1
        cases h1
      have h2 := wpOp_putIf hoj (hfree j oj hoj hji hjun hnot) (fun cs b => hsel i oi cs b hi) (fun cs b => hsel j oj cs b hoj) hQ hy h1
      have hfree' : ∀ k ok, ops[k]? = some ok → k ≠ i → (listed.setIfInBounds j true).getD k true = false → (∀ e ∈ ok.after, Region.binds md e = true → e.on ≠ i) → oi.apart ops ok = true := fun k ok hk hki hu hno => by
        refine hfree k ok hk hki ?_ hno
        by_cases hjk : j = k
        · subst hjk; exact hjun
        · rw [getD_set_ne true hjk] at hu; exact hu
      refine wpOp_mono (fun a' w' h3 => ⟨h3.2.1, ih (listed.setIfInBounds j true) a' w' (inv.set hj hjz) hfree' (ready_mono hr (Ne.symm hji)) h3.1 (h3.2.1 (Nat.ne_of_lt hjz)) ?_⟩) h2
      rw [Array.setIfInBounds_comm _ _ hji]
      exact h3.2.2
/-- From a state in which the operations listed so far are closed, and z has not come up. -/
def FromZ (P : Program) (ops : Array Oper) (Q : Exit → Act → World → Prop) (S : World → Prop) (z n : Nat) (listed : Array Bool) (a : Act) (w : World) : Prop := HeadInv .any ops z listed → AnyZ P .any ops Q S z n listed a w
theorem wp_drawZ (id n z : Nat) (L0 : List SProp) {l : List Oper} (hm : P.follows .mixedOrders = true) (hB : (decide (z < l.length) && Region.sinkB .any l.toArray z && Region.chainB .any l.toArray z) = true) (hn : l.length = n) (h : Sat w0 L w) (hs : Sub L0 L)
    (H : ∀ w', Base w0 L0 w' → Sat w0 L w' → FromZ P l.toArray Q (Base w0 L0) z n (Array.replicate n false) a w') : (Code.region id l.toArray true).wp P Q a w := by
  subst hn
  have h1 := h.drawn (w.drawn + 1)
  simp only [Bool.and_eq_true, decide_eq_true_eq] at hB
  have inv0 : HeadInv .any l.toArray z (Array.replicate l.toArray.size false) :=
    ⟨by simp, fun j oj _ hl => (by rw [getD_replicate_false] at hl; cases hl), fun t _ ht => getD_in (by simpa using ht) (getD_replicate_false _ _)⟩
  have := H _ ⟨h1.sub hs⟩ h1 (by simpa using inv0)
  exact wp_region_any hm (by simpa using AnyZ.any _ _ _ _ this)
/-- The look at an operation that is taken first. -/
def takeB (ops : Array Oper) (z k : Nat) (listed : Array Bool) : Bool :=
  Region.noSelect ops && decide (z < ops.size) && Region.sinkB .any ops z && Region.chainB .any ops z && decide (k < z) && Region.free .any ops listed k && (Region.ready .any ops listed).contains k
theorem zake_value {k z n : Nat} {op : Op} (hi : ops[k]? = some ⟨dst, op, ty, pos, aft, gd⟩) (hb : takeB ops z k listed = true)
    (hQ : ∀ c a w, Q (.panic c) (a.put dst v) w → Q (.panic c) a w) (hw : Region.wanted ⟨dst, op, ty, pos, aft, gd⟩ (yielded ops a.tmps) = true) (hS : S w) (hrun : ∀ w, S w → (execOp a.eval ⟨dst, op, ty, pos, aft, gd⟩).run P w = .ok (.value v) w)
    (h : FromZ P ops Q S z n (listed.setIfInBounds k true) (a.put dst v) w) : FromZ P ops Q S z (n + 1) listed a w := fun inv => by
  simp only [takeB, Bool.and_eq_true, decide_eq_true_eq] at hb
  obtain ⟨⟨⟨⟨⟨⟨h1, h2⟩, h3⟩, h4⟩, h5⟩, h6⟩, h7⟩ := hb
  have hr : k ∈ Region.ready .any ops listed := by simpa using h7
  exact AnyZ.pick (v := v) hi (Region.noSelect_spec h1) hQ h3 h4 h2 h5 n listed a w inv (Region.free_spec hi h6) hr (.inl ⟨hw, hrun⟩) hS (h (inv.set hr h5))
theorem zake_skip {k z n : Nat} {op : Op} (hi : ops[k]? = some ⟨dst, op, ty, pos, aft, gd⟩) (hb : takeB ops z k listed = true)
    (hQ : ∀ c a w, Q (.panic c) (a.put dst undef) w → Q (.panic c) a w) (hw : Region.wanted ⟨dst, op, ty, pos, aft, gd⟩ (yielded ops a.tmps) = false) (hS : S w)
    (h : FromZ P ops Q S z n (listed.setIfInBounds k true) (a.put dst undef) w) : FromZ P ops Q S z (n + 1) listed a w := fun inv => by
  simp only [takeB, Bool.and_eq_true, decide_eq_true_eq] at hb
  obtain ⟨⟨⟨⟨⟨⟨h1, h2⟩, h3⟩, h4⟩, h5⟩, h6⟩, h7⟩ := hb
  have hr : k ∈ Region.ready .any ops listed := by simpa using h7
  exact AnyZ.pick (v := undef) hi (Region.noSelect_spec h1) hQ h3 h4 h2 h5 n listed a w inv (Region.free_spec hi h6) hr (.inr ⟨hw, rfl⟩) hS (h (inv.set hr h5))
theorem zake_active {k z n : Nat} {op : Op} (hr : Region.ready .any ops listed = [k]) (hkz : k < z) (hi : ops[k]? = some ⟨dst, op, ty, pos, aft, gd⟩)
    (h : wpList P ops (KQ (fun a' w' => S w' ∧ FromZ P ops Q S z n (listed.setIfInBounds k true) a' w') Q) [⟨dst, op, ty, pos, aft, gd⟩] a w) : FromZ P ops Q S z (n + 1) listed a w := fun inv =>
  ⟨fun h0 => (by rw [hr] at h0; cases h0), fun j hj => by
    have hj0 := hj
    rw [hr] at hj
    obtain rfl := List.mem_singleton.1 hj
    have h2 : wpOp P ops Q j (fun a' w' => S w' ∧ FromZ P ops Q S z n (listed.setIfInBounds j true) a' w') a w := by
      unfold wpOp
      rw [hi]
      exact wp_of_KQ h
    exact wpOp_mono (fun a' w' h3 => ⟨fun _ => h3.1, h3.2 (inv.set hj0 hkz)⟩) h2⟩
theorem zake_last {z : Nat} {op : Op} (hr : Region.ready .any ops listed = [z]) (hi : ops[z]? = some ⟨dst, op, ty, pos, aft, gd⟩) (he : Region.ready .any ops (listed.setIfInBounds z true) = [])
    (h : wpList P ops (KQ (Q .normal) Q) [⟨dst, op, ty, pos, aft, gd⟩] a w) : FromZ P ops Q S z 1 listed a w := fun inv =>
  ⟨fun h0 => (by rw [hr] at h0; cases h0), fun j hj => by
    rw [hr] at hj
    obtain rfl := List.mem_singleton.1 hj
    have h2 : wpOp P ops Q j (Q .normal) a w := by
      unfold wpOp
      rw [hi]
      exact wp_of_KQ h
    exact wpOp_mono (fun a' w' h3 => ⟨fun hne => absurd rfl hne, he, h3⟩) h2⟩

/-! ### What the quiet ones yield -/
theorem q_move (hx : a.eval x = v) : ∀ w, S w → (execOp a.eval ⟨dst, .move x, ty, pos, aft, gd⟩).run P w = .ok (.value v) w := fun w _ => by simp [execOp, hx]
theorem q_assign (hx : a.eval x = v) : ∀ w, S w → (execOp a.eval ⟨dst, .assign x, ty, pos, aft, gd⟩).run P w = .ok (.value v) w := fun w _ => by simp [execOp, hx]
theorem q_nilCheck {ad : Addr} (hx : a.eval x = .pointer (some ad)) : ∀ w, S w → (execOp a.eval ⟨dst, .nilCheck x, ty, pos, aft, gd⟩).run P w = .ok (.value (.pointer (some ad))) w := fun w _ => by simp [execOp, hx]
theorem q_load {b i : Nat} {cs : Array Value} {T' : TypeId} {fr : Nat × Nat} (hagg : ∀ w, (isAgg T).run P w = .ok false w) (hx : a.eval x = .pointer (some ⟨b, i, none⟩)) (p : Pull (blk b (.cells cs T' fr)) L0 L') (hv : cs[i]? = some v) :
    ∀ w, Base w0 L0 w → (execOp a.eval ⟨dst, .load T x, ty, pos, aft, gd⟩).run P w = .ok (.value v) w := fun w h => by
  simp [execOp, hx, run_load_one hagg ((h.out.cell p i).trans hv)]
theorem q_load_rd {k : Nat} (hagg : ∀ w, (isAgg T).run P w = .ok false w) (hx : a.eval x = .pointer (some (cellAt A k))) (hr : Rd L0 A xs) (hv : xs[k]? = some v) :
    ∀ w, Base w0 L0 w → (execOp a.eval ⟨dst, .load T x, ty, pos, aft, gd⟩).run P w = .ok (.value v) w := fun w h => by
  simp [execOp, hx, run_load_one hagg ((hr.at_ h.out).cell hv)]
theorem q_load_agg {b i n : Nat} {cs ds : Array Value} {T' : TypeId} {fr : Nat × Nat} (hagg : ∀ w, (isAgg T).run P w = .ok true w) (hs : ∀ w, (sizeOf T).run P w = .ok n w) (hx : a.eval x = .pointer (some ⟨b, i, none⟩))
    (p : Pull (blk b (.cells cs T' fr)) L0 L') (hi : i + n ≤ cs.size) (hd : cs.extract i (i + n) = ds) :
    ∀ w, Base w0 L0 w → (execOp a.eval ⟨dst, .load T x, ty, pos, aft, gd⟩).run P w = .ok (.value (.agg ds)) w := fun w h => by
  simp [execOp, hx, run_load_agg hagg hs (h.out.heap_of p) hi, hd]
theorem q_load_rd_agg {k n : Nat} {arr : Array Value} (hagg : ∀ w, (isAgg T).run P w = .ok true w) (hs : ∀ w, (sizeOf T).run P w = .ok n w) (hx : a.eval x = .pointer (some (cellAt A k))) (hr : Rd L0 A xs) (hn : arr.size = n) (hv : ∀ j, j < n → xs[k + j]? = arr[j]?) :
    ∀ w, Base w0 L0 w → (execOp a.eval ⟨dst, .load T x, ty, pos, aft, gd⟩).run P w = .ok (.value (.agg arr)) w := fun w h => by
  subst hn
  simp [execOp, hx, run_load_rd hagg hs (hr.at_ h.out) hv]
theorem q_index (Sl : SliceT P T e s b z) {k : IntKind} {i : Int} (hx : a.eval x = .slice A n c) (hy : a.eval y = .int k i) (hr : Rd L0 A xs) (h0 : 0 ≤ i) (h1 : i < (n : Int)) (hn : n * s ≤ xs.length) :
    ∀ w, Base w0 L0 w → (execOp a.eval ⟨dst, .indexAddr T x y, ty, pos, aft, gd⟩).run P w = .ok (.value (.pointer (some (cellAt A (i.toNat * s))))) w := fun w h => by
  have hne : xs ≠ [] := by
    rintro rfl
    have h2 : 0 < n := by omega
    have := Nat.mul_pos h2 Sl.pos
    simp at hn
    have hp := Sl.pos
    omega
  simp [execOp, hx, hy, run_index Sl h0 h1 ((hr.at_ h.out).some_of hne)]
theorem q_len {T : TypeId} (hu : P.underlying T = some (.slice e)) (hx : a.eval x = .slice A n c) : ∀ w, S w → (execOp a.eval ⟨dst, .call ⟨.builtin .len, #[x], #[T]⟩, ty, pos, aft, gd⟩).run P w = .ok (.value (.int .i64 (n : Int))) w := fun w _ => by
  simp [execOp, resolve, invoke, builtin, hx, Builtin.len_, run_underlying hu, goInt]
theorem q_add {t t' : TypeId} {p q : Int} (hx : a.eval x = .int .i64 p) (hy : a.eval y = .int .i64 q) (h0 : -9223372036854775808 ≤ p + q) (h1 : p + q ≤ 9223372036854775807) : ∀ w, S w → (execOp a.eval ⟨dst, .binOp .add t x y t', ty, pos, aft, gd⟩).run P w = .ok (.value (.int .i64 (p + q))) w := fun w _ => by
  have := IntWalk.i64_in (p + q) (by omega)
  simp only [execOp, hx, hy]
  simp [go_sem, this]
theorem q_sub {t t' : TypeId} {p q : Int} (hx : a.eval x = .int .i64 p) (hy : a.eval y = .int .i64 q) (h0 : -9223372036854775808 ≤ p - q) (h1 : p - q ≤ 9223372036854775807) : ∀ w, S w → (execOp a.eval ⟨dst, .binOp .sub t x y t', ty, pos, aft, gd⟩).run P w = .ok (.value (.int .i64 (p - q))) w := fun w _ => by
  have := IntWalk.i64_in (p - q) (by omega)
  simp only [execOp, hx, hy]
  simp [go_sem, this]
theorem q_slice {lo hi : Option Operand} {kl kh : IntKind} {l h : Int} (Sl : SliceT P T e s b z) (hx : a.eval x = .slice A n c)
    (hl : lo = none ∧ l = 0 ∨ ∃ x, lo = some x ∧ a.eval x = .int kl l) (hh : hi = none ∧ h = (n : Int) ∨ ∃ x, hi = some x ∧ a.eval x = .int kh h) (h0 : 0 ≤ l) (h1 : l ≤ h) (h2 : h ≤ (c : Int)) :
    ∀ w, S w → (execOp a.eval ⟨dst, .slice T x lo hi none, ty, pos, aft, gd⟩).run P w = .ok (.value (.slice (subA A c l.toNat s) (h.toNat - l.toNat) (c - l.toNat))) w := fun w _ => run_sliceA Sl hx hl hh h0 h1 h2 w
theorem q_string {l : List UInt8} {n : Nat} {U : TypeId} (hs : P.underlying T = some (.slice e)) (he : P.underlying e = some (.int .u8)) (hd : P.underlying U = some .string)
    (hx : a.eval x = .slice A n c) (hr : Rd L0 A (bv l)) (hn : n = l.length) : ∀ w, Base w0 L0 w → (execOp a.eval ⟨dst, .convert T U x, ty, pos, aft, gd⟩).run P w = .ok (.value (.string ⟨l.toArray⟩)) w := fun w h => run_string hs he hd hx (hr.at_ h.out) hn
theorem KQ_end {K : Act → World → Prop} (h : K a w) : wpList P ops (KQ K Q) [] a w := h
theorem KQ_nil {K : Act → World → Prop} (h1 : S w) (h2 : S w → K a w) : wpList P ops (KQ (fun a' w' => S w' ∧ K a' w') Q) [] a w := ⟨h1, h2 h1⟩

/-- A call of a function of the program. -/
theorem wpl_call {f : FuncId} {ops : Array Oper} {Q : Exit → Act → World → Prop} {rest : List Oper} {xs : Array Operand} {ats : Array TypeId} {args : Array Value} (hc : ∀ (args : Array Value) (w : World), (callFunc f args).run P w = .ok (.enter f args) w)
    (hw : Region.wanted ⟨dst, .call ⟨.value (.func f), xs, ats⟩, ty, pos, aft, gd⟩ (yielded ops a.tmps) = true) (ha : xs.map a.eval = args)
    (h : Calls P f args w fun e w' => ∃ v, e = .returned v ∧ wpList P ops Q rest (a.put dst v) w') : wpList P ops Q (⟨dst, .call ⟨.value (.func f), xs, ats⟩, ty, pos, aft, gd⟩ :: rest) a w := by
  subst ha
  refine BigFrame.wpList_want hw fun K hK => ?_
  unfold Oper.wp
  have he : a.eval (.func f) = .func (.func f) #[] #[] := rfl
  have hrun : (execOp a.eval ⟨dst, .call ⟨.value (.func f), xs, ats⟩, ty, pos, aft, gd⟩).run P w = .ok (.enter f (xs.map a.eval)) w := by
    simp [execOp, resolve, invoke, Deferred.ofValue, he, hc]
  rw [hrun]
  exact h.mono fun e w' ⟨v, hv, hk⟩ => by subst hv; exact hK _ _ hk
/-- A load of one cell at a known place, from what is read only. -/
theorem q_load_at {b i : Nat} {v : Value} {xs : List Value} (hagg : ∀ w, (isAgg T).run P w = .ok false w) (hx : a.eval x = .pointer (some ⟨b, i, none⟩)) (hr : Rd L0 (some ⟨b, i, none⟩) (v :: xs)) :
    ∀ w, Base w0 L0 w → (execOp a.eval ⟨dst, .load T x, ty, pos, aft, gd⟩).run P w = .ok (.value v) w := fun w h => by
  have hc : w.cell? ⟨b, i, none⟩ = some v := by
    have := (hr.at_ h.out).cell (k := 0) (v := v) rfl
    rwa [cellAt_some, Nat.add_zero] at this
  simp [execOp, hx, run_load_one hagg hc]
/-- An operation whose guard says no. -/
theorem wpl_off {o : Oper} {ops : Array Oper} {Q : Exit → Act → World → Prop} {rest : List Oper} (hw : Region.wanted o (yielded ops a.tmps) = false) (h : wpList P ops Q rest (a.put o.dst undef) w) : wpList P ops Q (o :: rest) a w := by
  unfold wpList
  rw [hw]
  simpa using h
/-- A call of a function value. -/
theorem wpl_callV {f : FuncId} {ops : Array Oper} {Q : Exit → Act → World → Prop} {rest : List Oper} {y : Operand} {xs : Array Operand} {ats : Array TypeId} {args : Array Value} (hc : ∀ (args : Array Value) (w : World), (callFunc f args).run P w = .ok (.enter f args) w)
    (he : a.eval y = .func (.func f) #[] #[])
    (hw : Region.wanted ⟨dst, .call ⟨.value y, xs, ats⟩, ty, pos, aft, gd⟩ (yielded ops a.tmps) = true) (ha : xs.map a.eval = args)
    (h : Calls P f args w fun e w' => ∃ v, e = .returned v ∧ wpList P ops Q rest (a.put dst v) w') : wpList P ops Q (⟨dst, .call ⟨.value y, xs, ats⟩, ty, pos, aft, gd⟩ :: rest) a w := by
  subst ha
  refine BigFrame.wpList_want hw fun K hK => ?_
  unfold Oper.wp
  have hrun : (execOp a.eval ⟨dst, .call ⟨.value y, xs, ats⟩, ty, pos, aft, gd⟩).run P w = .ok (.enter f (xs.map a.eval)) w := by
    simp [execOp, resolve, invoke, Deferred.ofValue, he, hc]
  rw [hrun]
  exact h.mono fun e w' ⟨v, hv, hk⟩ => by subst hv; exact hK _ _ hk
end
end Go.Proofs.YtgobibgpkcdmdaaDoor
