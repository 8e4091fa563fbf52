/- A script of steps that came in: its records, their bytes. -/
import Derived.Test.YtgobibgpkcdmdaaDoorWPlays
import Derived.Test.YtgobibgpkcdmdaaDoorFlat
import Derived.Test.YtgobibgpkcdmdaaDoorBulk
set_option linter.all false
namespace Go.Proofs.YtgobibgpkcdmdaaDoor
open Go Go.RowKit Go.ChangeShapes Go.WideShapes Go.ChangeAt
set_option maxRecDepth 100000
section
variable {H : Type} {enc : TypeId × Value → H} {P : Program} {W : World}
/-- A field of the type []byte. -/
theorem trod_bytes {fuel : Nat} {t e : TypeId} {cs : List Value} {x : DataW H × List MemPlace} (ht : P.underlying t = some (.slice e)) (he : P.underlying e = some (.int .u8)) (hc : P.cellsOf e = 1)
    (h : DataW.trod enc P W 0 (fun _ => true) true fuel t cs = some x) :
    ∃ (A : Option Addr) (c : Nat) (l : List UInt8), cs = [.slice A l.length c] ∧ l.length ≤ c ∧ (∀ {L L' : List SProp}, Pull (oldP W) L L' → Rd L A (bv l)) ∧ (x.1 = .nil ∧ c = 0 ∨ ∃ es sp : List (DataW H), x.1 = .slice es sp ∧ es.length + sp.length = c) := by
  rcases open_ints ht he hc h with ⟨rfl, rfl⟩ | ⟨a, len, cap, zs, rfl, _, h2, h3, h4, rfl, h6, h7⟩
  · exact ⟨none, 0, [], rfl, Nat.le_refl _, fun _ => Rd.nil, .inl ⟨rfl, rfl⟩⟩
  · rw [if_pos rfl] at h4
    obtain ⟨l, hl, hv⟩ := u8_list (zs.take len) fun n hn => h7 n (List.mem_of_mem_take hn)
    have hll : l.length = len := by rw [hl, List.length_take]; omega
    refine ⟨some a, cap, l, by rw [hll], by omega, fun p => ?_, .inr ⟨_, _, rfl, ?_⟩⟩
    · rw [← hv]
      refine Rd.old p fun j v hj => ?_
      rw [List.getElem?_map, List.getElem?_take] at hj
      split at hj
      · cases hz : zs[j]? with
        | none => rw [hz] at hj; cases hj
        | some z =>
          rw [hz] at hj
          have hjl := (List.getElem?_eq_some_iff.1 hz).1
          rw [h6 j hjl, List.getD_eq_getElem?_getD, hz]
          exact hj
      · cases hj
    · simp only [lits, List.length_map, List.length_take, List.length_drop]
      omega
theorem bulk_slice {d : DataW H} {l es sp : List (DataW H)} (hd : d ∈ l) (he : d = .slice es sp) : es.length + sp.length ≤ Rows.uptoBulkAll l := by
  have h := bulks.mem hd
  rw [he, Rows.uptoBulk] at h
  have := bulks.count es
  have := bulks.count sp
  omega
theorem bulk_one {l : List (DataW H)} {d : DataW H} (h : Rows.uptoSmall H l = true) (hd : d ∈ l) : Rows.uptoBulk d ≤ 1048576 := Nat.le_trans (bulks.mem hd) (bulks.small h)
theorem six {α : Type} (l : List α) (h : l.length = 6) : ∃ a b c d e f, l = [a, b, c, d, e, f] := by
  match l, h with
  | [a, b, c, d, e, f], _ => exact ⟨a, b, c, d, e, f, rfl⟩
/-- The cells of one step. -/
def StepCells (W : World) (bnd : Nat) (cs : List Value) : Prop := ∃ o : OpR, cs = o.vs ∧ o.mask < 4294967296 ∧ o.data.length ≤ bnd ∧ ∀ {L L' : List SProp}, Pull (oldP W) L L' → Rd L o.D (bv o.data)
theorem step_cells {fuel : Nat} {cs : List Value} {x : DataW H × List MemPlace} (h : DataW.trod enc Tryd.prog W 0 (fun _ => true) true fuel 39 cs = some x) : StepCells W (Rows.uptoBulk x.1) cs := by
  obtain ⟨xs, n, _, rfl, hcl, hxl, hel⟩ := DataW.trod_struct Tryd.underlying39 h
  have hl6 : cs.length = 6 := hcl.trans (by kernel_rfl)
  have hx6 : xs.length = 6 := hxl.trans rfl
  obtain ⟨c0, c1, c2, c3, c4, c5, rfl⟩ := six cs hl6
  obtain ⟨x0, x1, x2, x3, x4, x5, rfl⟩ := six xs hx6
  have e0 := hel 0 _ rfl
  have e1 := hel 1 _ rfl
  have e2 := hel 2 _ rfl
  have e3 := hel 3 _ rfl
  have e4 := hel 4 _ rfl
  have e5 := hel 5 _ rfl
  obtain ⟨z0, r0, _, _⟩ := DataW.trod_int Tryd.underlying3 e0
  obtain ⟨z1, r1, _⟩ := DataW.trod_bool Tryd.underlying4 e1
  obtain ⟨z2, r2, _, _⟩ := DataW.trod_int Tryd.underlying3 e2
  obtain ⟨z3, r3, _, _⟩ := DataW.trod_int Tryd.underlying3 e3
  obtain ⟨z4, r4, _, w4⟩ := DataW.trod_int Tryd.underlying36 e4
  obtain ⟨A, c, l, r5, hlc, hr, hd⟩ := trod_bytes Tryd.underlying37 Tryd.underlying5 (by kernel_rfl) e5
  obtain rfl : c0 = .int .i64 z0 := List.head_eq_of_cons_eq r0
  obtain rfl : c1 = .bool z1 := List.head_eq_of_cons_eq r1
  obtain rfl : c2 = .int .i64 z2 := List.head_eq_of_cons_eq r2
  obtain rfl : c3 = .int .i64 z3 := List.head_eq_of_cons_eq r3
  obtain rfl : c4 = .int .u32 z4 := List.head_eq_of_cons_eq r4
  obtain rfl : c5 = .slice A l.length c := List.head_eq_of_cons_eq r5
  have hw := u32_wf w4
  refine ⟨⟨z0, z1, z2, z3, z4.toNat, A, c, l⟩, ?_, by show z4.toNat < _; omega, ?_, fun p => hr p⟩
  · simp only [OpR.vs]
    rw [Int.toNat_of_nonneg hw.1]
  · show l.length ≤ _
    rcases hd with ⟨_, h0⟩ | ⟨es, sp, he, h0⟩
    · omega
    · have := bulk_slice (l := [x0, x1, x2, x3, x4, x5].map (·.1)) (d := x5.1) (by simp) he
      simp only [Rows.uptoBulk]
      omega
theorem ops_list {bnd : Nat} : ∀ (m : Nat) (xs : List Value), xs.length = m * 6 → (∀ i, i < m → StepCells W bnd ((xs.drop (i * 6)).take 6)) →
    ∃ ops : List OpR, ops.length = m ∧ xs = opV ops ∧ ∀ o ∈ ops, o.mask < 4294967296 ∧ o.data.length ≤ bnd ∧ ∀ {L L' : List SProp}, Pull (oldP W) L L' → Rd L o.D (bv o.data) := by
  intro m
  induction m with
  | zero => intro xs h _; exact ⟨[], rfl, List.eq_nil_of_length_eq_zero (by simpa using h), by simp⟩
  | succ m ih =>
    intro xs h hi
    have h0 := hi 0 (by omega)
    rw [Nat.zero_mul, List.drop_zero] at h0
    obtain ⟨o, ha, hk⟩ := h0
    obtain ⟨l, hl, e, ho⟩ := ih (xs.drop 6) (by rw [List.length_drop, h, Nat.succ_mul]; omega) fun i hlt => by
      have := hi (i + 1) (by omega)
      rwa [List.drop_drop, Nat.add_comm 6, ← Nat.succ_mul]
    refine ⟨o :: l, by simp [hl], ?_, ?_⟩
    · show xs = o.vs ++ opV l
      rw [← ha, ← e, List.take_append_drop]
    · intro x hx
      rcases List.mem_cons.1 hx with rfl | hx
      · exact ⟨hk.1, hk.2.1, fun p => hk.2.2 p⟩
      · exact ho x hx
theorem gather_ops {a : Addr} {s bnd : Nat} (m : Nat) (hch : ∀ i, i < m → ∃ cs : List Value, cs.length = s ∧ StepCells W bnd cs ∧ ∀ j v, cs[j]? = some v → W.cell? ((a.add (i * s)).add j) = some v) :
    ∃ xs : List Value, xs.length = m * s ∧ (∀ i, i < m → StepCells W bnd ((xs.drop (i * s)).take s)) ∧ ∀ j v, xs[j]? = some v → W.cell? (a.add j) = some v := by
  induction m with
  | zero => exact ⟨[], by simp, (fun i hi => by omega), fun j v hv => by simp at hv⟩
  | succ m ih =>
    obtain ⟨xs, h1, h2, h3⟩ := ih fun i hi => hch i (by omega)
    obtain ⟨cs, g1, g2, g3⟩ := hch m (by omega)
    refine ⟨xs ++ cs, by rw [List.length_append, h1, g1, Nat.succ_mul], fun i hi => ?_, fun j v hv => ?_⟩
    · by_cases e : i = m
      · subst e
        rw [← h1, List.drop_left, List.take_of_length_le (by omega)]
        exact g2
      · have : (i + 1) * s ≤ m * s := Nat.mul_le_mul_right _ (by omega)
        rw [Nat.succ_mul] at this
        rw [List.drop_append_of_le_length (by omega), List.take_append_of_le_length (by rw [List.length_drop]; omega)]
        exact h2 i (by omega)
    · rw [List.getElem?_append] at hv
      split at hv
      · exact h3 j v hv
      · have := g3 _ _ hv
        rw [add_add] at this
        rwa [show m * s + (j - xs.length) = j by omega] at this
theorem StepCells.mono {b1 b2 : Nat} (h : b1 ≤ b2) {cs : List Value} (hs : StepCells W b1 cs) : StepCells W b2 cs := by
  obtain ⟨o, h1, h2, h3, h4⟩ := hs
  exact ⟨o, h1, h2, Nat.le_trans h3 h, fun p => h4 p⟩
theorem open_ops {v : Value} {d : DataW H} {ps : List MemPlace} {r : Reach} {b0 : Nat} (hval : Value.okWide Tryd.prog W r b0 22 v) (hd : DataW.Trod enc Tryd.prog W 0 (fun _ => true) true 22 v d ps) (hb : Rows.uptoBulk d ≤ 1048576) :
    ∃ (A : Option Addr) (c : Nat) (ops : List OpR), v = .slice A ops.length c ∧ ops.length ≤ 1048576 ∧ (∀ o ∈ ops, o.mask < 4294967296 ∧ o.data.length ≤ 1048576 ∧ ∀ {L L' : List SProp}, Pull (oldP W) L L' → Rd L o.D (bv o.data)) ∧ (∀ {L L' : List SProp}, Pull (oldP W) L L' → Rd L A (opV ops)) := by
  obtain ⟨fuel, hf⟩ := hd
  obtain ⟨A, m, c, rfl⟩ := okWide_slice Tryd.underlying22 hval
  rcases DataW.trod_slice Tryd.underlying22 hf with ⟨h, hx⟩ | ⟨a, len, cap, elems, rest, q, _, h, hx, _, hl, hm, hlen, hel, hsp, hns⟩
  · simp [Value.cells] at h
    obtain ⟨rfl, rfl, rfl⟩ := h
    exact ⟨none, 0, [], rfl, by simp, by simp, fun _ => Rd.nil⟩
  · simp [Value.cells] at h
    obtain ⟨rfl, rfl, rfl⟩ := h
    have hdx : d = .slice (elems.map (·.1)) (rest.map (·.1)) := congrArg Prod.fst hx
    rw [hdx, Rows.uptoBulk] at hb
    have hch : ∀ i, i < m → ∃ cs, cs.length = 6 ∧ StepCells W 1048576 cs ∧ ∀ j v, cs[j]? = some v → W.cell? ((a.add (i * 6)).add j) = some v := by
      intro i hi
      have h1 := hel i hi
      have hil : i < elems.length := by omega
      rw [List.getElem?_eq_getElem hil, Option.bind_eq_some_iff] at h1
      obtain ⟨cs, hcs, htr⟩ := h1
      obtain ⟨_, hcl, hcell⟩ := World.cells?_some hcs
      have hcl6 : cs.length = 6 := hcl.trans (by kernel_rfl)
      refine ⟨cs, hcl6, (step_cells htr).mono ?_, fun j v hv => ?_⟩
      · have := bulks.mem (show elems[i].1 ∈ elems.map (·.1) from List.mem_map.2 ⟨_, List.getElem_mem hil, rfl⟩)
        omega
      · have hj := (List.getElem?_eq_some_iff.1 hv).1
        have := hcell j (by rw [← hcl]; exact hj)
        rw [show Tryd.prog.cellsOf 39 = 6 from by kernel_rfl] at this
        rw [this, hv]
    clear hel
    obtain ⟨xs, hxl, hxf, hxc⟩ := gather_ops m hch
    obtain ⟨ops, hol, rfl, ho⟩ := ops_list m xs hxl hxf
    subst hol
    have hcnt := bulks.count (elems.map (·.1))
    rw [List.length_map] at hcnt
    exact ⟨some a, c, ops, rfl, by omega, ho, fun p => Rd.old p hxc⟩
end
end Go.Proofs.YtgobibgpkcdmdaaDoor
