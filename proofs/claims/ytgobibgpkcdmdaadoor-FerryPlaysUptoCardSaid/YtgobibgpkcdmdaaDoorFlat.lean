/- Slices of plain structs that came in: their cells, one by one. -/
import Derived.Test.YtgobibgpkcdmdaaDoorOld
set_option linter.all false
namespace Go.Proofs.YtgobibgpkcdmdaaDoor
open Go Go.RowKit Go.ChangeShapes Go.WideShapes Go.ChangeAt
theorem u32_wf {n : Int} (h : (Lit.int .u32 n).wf = true) : 0 ≤ n ∧ n < 4294967296 := by
  simp [Lit.wf] at h
  have e1 : IntKind.u32.min = 0 := rfl
  have e2 : IntKind.u32.max = 4294967295 := rfl
  omega
/-- The kind of a cell. -/
inductive CK where
  | b
  | i (k : IntKind)
def Fits : CK → Value → Prop
  | .b, v => ∃ x, v = .bool x
  | .i k, v => ∃ n, v = .int k n ∧ (Lit.int k n).wf = true
inductive FitsAll : List CK → List Value → Prop where
  | nil : FitsAll [] []
  | cons {k : CK} {v : Value} {ks : List CK} {vs : List Value} : Fits k v → FitsAll ks vs → FitsAll (k :: ks) (v :: vs)
theorem FitsAll.length {ks : List CK} {vs : List Value} (h : FitsAll ks vs) : vs.length = ks.length := by
  induction h with
  | nil => rfl
  | cons _ _ ih => simp [ih]
theorem FitsAll.append {ks ls : List CK} {vs ws : List Value} (h : FitsAll ks vs) (h2 : FitsAll ls ws) : FitsAll (ks ++ ls) (vs ++ ws) := by
  induction h with
  | nil => exact h2
  | cons a _ ih => exact .cons a ih
theorem FitsAll.inv {k : CK} {ks : List CK} {vs : List Value} (h : FitsAll (k :: ks) vs) : ∃ v ws, vs = v :: ws ∧ Fits k v ∧ FitsAll ks ws := by
  cases h with
  | cons a b => exact ⟨_, _, rfl, a, b⟩
theorem FitsAll.nil_inv {vs : List Value} (h : FitsAll [] vs) : vs = [] := by cases h; rfl
theorem FitsAll.one {vs : List Value} {k : IntKind} {ks : List CK} (h : FitsAll (.i k :: ks) vs) : ∃ n ws, vs = .int k n :: ws ∧ (Lit.int k n).wf = true ∧ FitsAll ks ws := by
  obtain ⟨v, ws, rfl, ⟨n, rfl, hw⟩, h2⟩ := h.inv
  exact ⟨n, ws, rfl, hw, h2⟩
theorem FitsAll.bool {vs : List Value} {ks : List CK} (h : FitsAll (.b :: ks) vs) : ∃ x ws, vs = .bool x :: ws ∧ FitsAll ks ws := by
  obtain ⟨v, ws, rfl, ⟨n, rfl⟩, h2⟩ := h.inv
  exact ⟨n, ws, rfl, h2⟩
/-- The fields' kinds, one behind the other from cell 'at' on. -/
def flatFs (rec_ : TypeId → Option (List CK)) (P : Program) : Nat → List Field → Option (List CK)
  | _, [] => some []
  | at_, f :: fs => if f.offset = at_ then (rec_ f.type).bind fun ks => if ks.length = P.cellsOf f.type then (flatFs rec_ P (at_ + ks.length) fs).map (ks ++ ·) else none else none
/-- The kinds of the cells of a type without roads. -/
def flatK (P : Program) : Nat → TypeId → Option (List CK)
  | 0, _ => none
  | n + 1, t => match P.underlying t with
    | some .bool => some [.b]
    | some (.int k) => some [.i k]
    | some (.struct fs) => (flatFs (flatK P n) P 0 fs.toList).bind fun ks => if ks.length = P.cellsOf t then some ks else none
    | some (.array m e) => (flatK P n e).bind fun ks => if ks.length = P.cellsOf e ∧ m * ks.length = P.cellsOf t then some (List.replicate m ks).flatten else none
    | _ => none
section
variable {H : Type} {enc : TypeId × Value → H} {P : Program} {w : World} {base : Nat} {sp : Nat → Bool} {held : Bool}
theorem flatFs_cells {rec_ : TypeId → Option (List CK)} {fuel : Nat} (ih : ∀ t ks cs x, rec_ t = some ks → DataW.trod enc P w base sp held fuel t cs = some x → FitsAll ks cs) :
    ∀ (fs : List Field) (at_ : Nat) (ks : List CK) (cs : List Value), flatFs rec_ P at_ fs = some ks → at_ + ks.length = cs.length → (∀ f ∈ fs, ∃ x, DataW.trod enc P w base sp held fuel f.type ((cs.drop f.offset).take (P.cellsOf f.type)) = some x) → FitsAll ks (cs.drop at_) := by
  intro fs
  induction fs with
  | nil =>
    intro at_ ks cs h hl _
    simp only [flatFs, Option.some.injEq] at h
    subst h
    rw [List.drop_of_length_le (by simpa using Nat.le_of_eq hl.symm)]
    exact .nil
  | cons f fs ihf =>
    intro at_ ks cs h hl hx
    simp only [flatFs] at h
    split at h
    · rename_i ho
      simp only [Option.bind_eq_some_iff] at h
      obtain ⟨k1, h1, h2⟩ := h
      split at h2
      · rename_i hk
        simp only [Option.map_eq_some_iff] at h2
        obtain ⟨k2, h2, rfl⟩ := h2
        rw [List.length_append] at hl
        obtain ⟨x, hx1⟩ := hx f (List.mem_cons_self ..)
        have a := ih _ _ _ _ h1 hx1
        have b := ihf (at_ + k1.length) k2 cs h2 (by omega) fun g hg => hx g (List.mem_cons_of_mem _ hg)
        have e : cs.drop at_ = (cs.drop f.offset).take (P.cellsOf f.type) ++ cs.drop (at_ + k1.length) := by
          rw [ho, ← hk, ← List.drop_drop, List.take_append_drop]
        rw [e]
        exact a.append b
      · cases h2
    · cases h
theorem chunks {ks : List CK} {s : Nat} : ∀ (m : Nat) (cs : List Value), cs.length = m * s → (∀ i, i < m → FitsAll ks ((cs.drop (i * s)).take s)) → FitsAll (List.replicate m ks).flatten cs := by
  intro m
  induction m with
  | zero => intro cs h _; obtain rfl : cs = [] := List.eq_nil_of_length_eq_zero (by simpa using h); exact .nil
  | succ m ih =>
    intro cs h hi
    have h0 := hi 0 (by omega)
    rw [Nat.zero_mul, List.drop_zero] at h0
    have h1 := ih (cs.drop s) (by rw [List.length_drop, h, Nat.succ_mul]; omega) fun i hlt => by
      have := hi (i + 1) (by omega)
      rwa [List.drop_drop, Nat.add_comm s, ← Nat.succ_mul]
    rw [← List.take_append_drop s cs, List.replicate_succ, List.flatten_cons]
    exact h0.append h1
theorem flat_cells : ∀ (n fuel : Nat) (t : TypeId) (ks : List CK) (cs : List Value) (x : DataW H × List MemPlace), flatK P n t = some ks → DataW.trod enc P w base sp held fuel t cs = some x → FitsAll ks cs := by
  intro n
  induction n with
  | zero => intro fuel t ks cs x h; simp [flatK] at h
  | succ n ih =>
    intro fuel t ks cs x h hd
    simp only [flatK] at h
    split at h
    · rename_i hu
      obtain ⟨b, rfl, _⟩ := DataW.trod_bool hu hd
      cases h
      exact .cons ⟨b, rfl⟩ .nil
    · rename_i k hu
      obtain ⟨m, rfl, _, hw⟩ := DataW.trod_int hu hd
      cases h
      exact .cons ⟨m, rfl, hw⟩ .nil
    · rename_i fs hu
      simp only [Option.bind_eq_some_iff] at h
      obtain ⟨k2, h2, h3⟩ := h
      split at h3
      · rename_i hkl
        cases h3
        obtain ⟨xs, m, rfl, hx, hcl, hxl, hel⟩ := DataW.trod_struct hu hd
        have := flatFs_cells (fuel := m) (fun t ks cs x a b => ih m t ks cs x a b) fs.toList 0 ks cs h2 (by omega) fun f hf => by
          obtain ⟨i, hi, he⟩ := List.getElem_of_mem hf
          have hi2 : i < fs.size := by simpa using hi
          have := hel i f (by rw [Array.getElem?_eq_getElem hi2]; congr 1)
          rw [this]
          have hix : i < xs.length := by omega
          exact ⟨xs[i], List.getElem?_eq_getElem hix⟩
        rwa [List.drop_zero] at this
      · cases h3
    · rename_i m e hu
      simp only [Option.bind_eq_some_iff] at h
      obtain ⟨k2, h2, h3⟩ := h
      split at h3
      · rename_i hk
        cases h3
        obtain ⟨xs, q, rfl, hx, hcl, hxl, hel⟩ := DataW.trod_array hu hd
        refine chunks (s := P.cellsOf e) m cs (by rw [hcl, ← hk.2, hk.1]) fun i hi => ?_
        have h4 := hel i hi
        have hix : i < xs.length := by omega
        rw [List.getElem?_eq_getElem hix] at h4
        exact ih q e k2 _ _ h2 h4
      · cases h3
    · cases h
theorem gather {W : World} {a : Addr} {ks : List CK} {s : Nat} (m : Nat) (hch : ∀ i, i < m → ∃ cs : List Value, cs.length = s ∧ FitsAll ks cs ∧ ∀ j v, cs[j]? = some v → W.cell? ((a.add (i * s)).add j) = some v) :
    ∃ xs : List Value, xs.length = m * s ∧ (∀ i, i < m → FitsAll ks ((xs.drop (i * s)).take s)) ∧ ∀ j v, xs[j]? = some v → W.cell? (a.add j) = some v := by
  induction m with
  | zero => exact ⟨[], by simp, (fun i hi => by omega), fun j v hv => by simp at hv⟩
  | succ m ih =>
    obtain ⟨xs, h1, h2, h3⟩ := ih fun i hi => hch i (by omega)
    obtain ⟨cs, g1, g2, g3⟩ := hch m (by omega)
    refine ⟨xs ++ cs, by rw [List.length_append, h1, g1, Nat.succ_mul], fun i hi => ?_, fun j v hv => ?_⟩
    · by_cases e : i = m
      · subst e
        rw [← h1, List.drop_left, List.take_of_length_le (by omega)]
        exact g2
      · have : (i + 1) * s ≤ m * s := Nat.mul_le_mul_right _ (by omega)
        rw [Nat.succ_mul] at this
        rw [List.drop_append_of_le_length (by omega), List.take_append_of_le_length (by rw [List.length_drop]; omega)]
        exact h2 i (by omega)
    · rw [List.getElem?_append] at hv
      split at hv
      · exact h3 j v hv
      · have := g3 _ _ hv
        rw [add_add] at this
        rwa [show m * s + (j - xs.length) = j by omega] at this
/-- A slice of such that came in: its cells. -/
theorem open_flat {W : World} {t e : TypeId} {v : Value} {d : DataW H} {ps : List MemPlace} {r : Reach} {b0 n s : Nat} {ks : List CK} (ht : P.underlying t = some (.slice e)) (he : flatK P n e = some ks) (hs : P.cellsOf e = s)
    (hval : Value.okWide P W r b0 t v) (hd : DataW.Trod enc P W 0 (fun _ => true) true t v d ps) :
    ∃ (A : Option Addr) (m c : Nat) (xs : List Value), v = .slice A m c ∧ m ≤ c ∧ xs.length = m * s ∧ (∀ i, i < m → FitsAll ks ((xs.drop (i * s)).take s)) ∧ (∀ {L L' : List SProp}, Pull (oldP W) L L' → Rd L A xs) ∧
      (d = .nil ∧ c = 0 ∨ ∃ es sp : List (DataW H), d = .slice es sp ∧ es.length + sp.length = c) := by
  subst hs
  obtain ⟨fuel, hf⟩ := hd
  obtain ⟨A, m, c, rfl⟩ := okWide_slice ht hval
  rcases DataW.trod_slice ht hf with ⟨h, hx⟩ | ⟨a, len, cap, elems, rest, q, _, h, hx, hb, hl, hm, hlen, hel, hsp, hns⟩
  · simp [Value.cells] at h
    obtain ⟨rfl, rfl, rfl⟩ := h
    exact ⟨none, 0, 0, [], rfl, Nat.le_refl _, by simp, (fun i hi => by omega), fun _ => Rd.nil, .inl ⟨by simpa using congrArg Prod.fst hx, rfl⟩⟩
  · simp [Value.cells] at h
    obtain ⟨rfl, rfl, rfl⟩ := h
    have hch : ∀ i, i < m → ∃ cs, cs.length = P.cellsOf e ∧ FitsAll ks cs ∧ ∀ j v, cs[j]? = some v → W.cell? ((a.add (i * P.cellsOf e)).add j) = some v := by
      intro i hi
      have h1 := hel i hi
      have hil : i < elems.length := by omega
      rw [List.getElem?_eq_getElem hil, Option.bind_eq_some_iff] at h1
      obtain ⟨cs, hcs, htr⟩ := h1
      obtain ⟨_, hcl, hcell⟩ := World.cells?_some hcs
      refine ⟨cs, hcl, flat_cells _ _ _ _ _ _ he htr, fun j v hv => ?_⟩
      have hj := (List.getElem?_eq_some_iff.1 hv).1
      rw [hcell j (by omega), hv]
    clear hel
    obtain ⟨xs, hxl, hxf, hxc⟩ := gather m hch
    refine ⟨some a, m, c, xs, rfl, hl, hxl, hxf, fun p => Rd.old p hxc, .inr ⟨_, _, congrArg Prod.fst hx, ?_⟩⟩
    have := (hsp rfl).1
    simp only [List.length_map]
    omega
end
/-- The cells as records. -/
theorem flat_list {α : Type} {ok : α → Prop} {f : α → List Value} {ks : List CK} {s : Nat} (hf : ∀ cs, FitsAll ks cs → ∃ a, cs = f a ∧ ok a) :
    ∀ (m : Nat) (xs : List Value), xs.length = m * s → (∀ i, i < m → FitsAll ks ((xs.drop (i * s)).take s)) → ∃ l : List α, l.length = m ∧ xs = l.flatMap f ∧ ∀ a ∈ l, ok a := by
  intro m
  induction m with
  | zero => intro xs h _; exact ⟨[], rfl, List.eq_nil_of_length_eq_zero (by simpa using h), by simp⟩
  | succ m ih =>
    intro xs h hi
    have h0 := hi 0 (by omega)
    rw [Nat.zero_mul, List.drop_zero] at h0
    obtain ⟨a, ha, hk⟩ := hf _ h0
    obtain ⟨l, hl, e, ho⟩ := ih (xs.drop s) (by rw [List.length_drop, h, Nat.succ_mul]; omega) fun i hlt => by
      have := hi (i + 1) (by omega)
      rwa [List.drop_drop, Nat.add_comm s, ← Nat.succ_mul]
    refine ⟨a :: l, by simp [hl], ?_, ?_⟩
    · rw [List.flatMap_cons, ← ha, ← e, List.take_append_drop]
    · intro x hx
      rcases List.mem_cons.1 hx with rfl | hx
      · exact hk
      · exact ho x hx
end Go.Proofs.YtgobibgpkcdmdaaDoor
