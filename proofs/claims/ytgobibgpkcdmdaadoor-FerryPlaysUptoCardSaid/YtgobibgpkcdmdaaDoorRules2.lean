/- The walk's rules over 'Sat': indexes, slices, append, make, literals of slices, bytes as a string. -/
import Derived.Test.YtgobibgpkcdmdaaDoorRules
import Derived.Laws.MakeOwn
import Derived.Laws.IdiomStrings
set_option linter.all false
namespace Go.Proofs.YtgobibgpkcdmdaaDoor
open Go.RowKit

/-- T: the slice type; e: its element's, of s cells and b bytes each, with this zero. -/
structure SliceT (P : Program) (T e s b : Nat) (z : Value) : Prop where
  under : P.underlying T = some (.slice e)
  info : (P.info? e).map (fun i => (i.zero, i.size, i.bytes)) = some (some z, s, b)
  zsize : z.cells.size = s
  pos : 0 < s

section
variable {P : Program} {ops : Array Oper} {Q : Exit → Act → World → Prop} {a : Act} {w w' w0 : World} {rest : List Oper} {o : Oper} {v : Value} {L L' L'' : List SProp}
variable {dst : Option Tmp} {ty T e s b : Nat} {z : Value} {pos : String} {aft : Array Edge} {gd : Option (Nat × Bool)} {x y : Operand}
variable {A B : Option Addr} {n c m d : Nat} {xs ys : List Value}

theorem SliceT.parts (S : SliceT P T e s b z) : ∃ i, P.info? e = some i ∧ i.zero = some z ∧ i.size = s ∧ i.bytes = b := info_parts S.info
theorem SliceT.size (S : SliceT P T e s b z) (w : World) : (sizeOf e).run P w = .ok s w := by
  obtain ⟨i, hi, _, hs, _⟩ := S.parts
  simp [sizeOf, typeInfo, hi, hs]

theorem run_index (S : SliceT P T e s b z) {k : IntKind} {i : Int} (h0 : 0 ≤ i) (h1 : i < (n : Int)) (hA : A = some (cellAt A 0)) :
    (Instr.indexAt T (.slice A n c) (.int k i)).run P w = .ok (.pointer (some (cellAt A (i.toNat * s)))) w := by
  rw [hA]
  simp only [Instr.indexAt, run_underlying S.under, asIntOf, Sem.run_bind, Sem.run_pure, Result.andThen]
  simp [h0, h1, S.size, cellAt, add_add]
theorem wpl_index (S : SliceT P T e s b z) (hw : Region.wanted ⟨dst, .indexAddr T x y, ty, pos, aft, gd⟩ (yielded ops a.tmps) = true) {k : IntKind} {i : Int} (hx : a.eval x = .slice A n c) (hy : a.eval y = .int k i)
    (h : Sat w0 L w) (hr : Rd L A xs) (h0 : 0 ≤ i) (h1 : i < (n : Int)) (hn : n * s ≤ xs.length) (hK : wpList P ops Q rest (a.put dst (.pointer (some (cellAt A (i.toNat * s))))) w) :
    wpList P ops Q (⟨dst, .indexAddr T x y, ty, pos, aft, gd⟩ :: rest) a w := by
  have hne : xs ≠ [] := by
    rintro rfl
    have h2 : 0 < n := by omega
    have := Nat.mul_pos h2 S.pos
    simp at hn
    have hp := S.pos
    omega
  refine wpl_value (v := .pointer (some (cellAt A (i.toNat * s)))) (w' := w) hw ?_ hK
  simp [execOp, hx, hy, run_index S h0 h1 ((hr.at_ h).some_of hne)]
theorem wpl_load_rd (hagg : ∀ w, (isAgg T).run P w = .ok false w) (hw : Region.wanted ⟨dst, .load T x, ty, pos, aft, gd⟩ (yielded ops a.tmps) = true) {k : Nat} (hx : a.eval x = .pointer (some (cellAt A k)))
    (h : Sat w0 L w) (hr : Rd L A xs) (hv : xs[k]? = some v) (hK : wpList P ops Q rest (a.put dst v) w) :
    wpList P ops Q (⟨dst, .load T x, ty, pos, aft, gd⟩ :: rest) a w := wpl_load_cell hagg hw hx ((hr.at_ h).cell hv) hK
theorem run_load_rd {k : Nat} {arr : Array Value} (hagg : ∀ w, (isAgg T).run P w = .ok true w) (hs : ∀ w, (sizeOf T).run P w = .ok arr.size w) (hr : Reads w A xs) (hv : ∀ j, j < arr.size → xs[k + j]? = arr[j]?) :
    (Instr.loadAt T (.pointer (some (cellAt A k)))).run P w = .ok (.agg arr) w := by
  have hl := run_loadCells_list (P := P) w (cellAt A k) arr.toList (fun j u hu => by
    rw [cellAt_add]
    have hj : j < arr.size := by simpa using (List.getElem?_eq_some_iff.1 hu).1
    exact hr.cell ((hv j hj).trans (by simpa using hu)))
  simp only [Array.length_toList, Array.toArray_toList] at hl
  simp [Instr.loadAt, Instr.sureAddr, loadVar, hagg, hs, hl]
theorem wpl_load_rd_agg {k n : Nat} {arr : Array Value} (hagg : ∀ w, (isAgg T).run P w = .ok true w) (hs : ∀ w, (sizeOf T).run P w = .ok n w) (hw : Region.wanted ⟨dst, .load T x, ty, pos, aft, gd⟩ (yielded ops a.tmps) = true) (hx : a.eval x = .pointer (some (cellAt A k)))
    (h : Sat w0 L w) (hr : Rd L A xs) (hn : arr.size = n) (hv : ∀ j, j < n → xs[k + j]? = arr[j]?) (hK : wpList P ops Q rest (a.put dst (.agg arr)) w) :
    wpList P ops Q (⟨dst, .load T x, ty, pos, aft, gd⟩ :: rest) a w := by
  subst hn
  refine wpl_value (v := .agg arr) (w' := w) hw ?_ hK
  simp [execOp, hx, run_load_rd hagg hs (hr.at_ h) hv]

/-- A store into a slice of the call's own. -/
theorem wpl_store_own {k : Nat} (hs : ∀ w, (sizeOf T).run P w = .ok 1 w) (hw : Region.wanted ⟨dst, .store T x y, ty, pos, aft, gd⟩ (yielded ops a.tmps) = true) (hx : a.eval x = .pointer (some (cellAt A k))) (hy : a.eval y = v) (h1 : v.oneCell' = true)
    (h : Sat w0 L w) (p : Pull (own e s A n c xs) L L') (hk : k < xs.length)
    (hK : ∀ w', Sat w0 (own e s A n c (xs.set k v) :: L') w' → wpList P ops Q rest (a.put dst undef) w') :
    wpList P ops Q (⟨dst, .store T x y, ty, pos, aft, gd⟩ :: rest) a w := by
  have hl := own_len h p
  have hcap := own_cap h p
  rcases own_open h p with ⟨rfl, rfl, rfl, rfl, _⟩ | ⟨g, cur, rfl, hsz, ht, h'⟩
  · simp at hk
  · rw [cellAt_some, Nat.zero_add] at hx
    have hkn : k < n * s := by omega
    have hkc : k < cur.size := by
      rw [hsz]
      exact Nat.lt_of_lt_of_le hkn (Nat.mul_le_mul_right _ hcap.1)
    refine wpl_store hs hw hx hy h1 h' .here hkc rfl fun w' h2 => hK w' (own_shut h2 hcap.1 hcap.2 (by simpa using hsz) ?_)
    rw [← ht, Array.toList_setIfInBounds, List.take_set]

theorem run_sliceA {lo hi : Option Operand} (S : SliceT P T e s b z) (hx : a.eval x = .slice A n c)
    {kl kh : IntKind} {l h : Int} (hl : lo = none ∧ l = 0 ∨ ∃ x, lo = some x ∧ a.eval x = .int kl l) (hh : hi = none ∧ h = (n : Int) ∨ ∃ x, hi = some x ∧ a.eval x = .int kh h) (h0 : 0 ≤ l) (h1 : l ≤ h) (h2 : h ≤ (c : Int)) (w : World) :
    (execOp a.eval ⟨dst, .slice T x lo hi none, ty, pos, aft, gd⟩).run P w = .ok (.value (.slice (subA A c l.toNat s) (h.toNat - l.toNat) (c - l.toNat))) w := by
  have hu := run_underlying (w := w) S.under
  have hsb : ∀ (k : IntKind) (code : BoundsCode), (Instr.sliceBound (.int k h) c code).run P w = .ok h.toNat w := fun k code => run_sliceBound w k h c code (by omega) h2
  have hsl : ∀ (k : IntKind) (code : BoundsCode), (Instr.sliceBound (.int k l) h.toNat code).run P w = .ok l.toNat w := fun k code => run_sliceBound w k l h.toNat code h0 (by omega)
  rcases hl with ⟨rfl, rfl⟩ | ⟨xl, rfl, hl⟩ <;> rcases hh with ⟨rfl, rfl⟩ | ⟨xh, rfl, hh⟩
  · simp [execOp, hx, Instr.sliceAt, hu, Instr.slice, Instr.sliceBounds, S.size, subA]
  · simp [execOp, hx, hh, Instr.sliceAt, hu, Instr.slice, Instr.sliceBounds, S.size, subA, hsb]
  · simp only [Int.toNat_natCast] at hsl
    simp [execOp, hx, hl, Instr.sliceAt, hu, Instr.slice, Instr.sliceBounds, S.size, subA, hsl]
  · simp [execOp, hx, hl, hh, Instr.sliceAt, hu, Instr.slice, Instr.sliceBounds, S.size, subA, hsb, hsl]
theorem wpl_slice {lo hi : Option Operand} {kl kh : IntKind} {l h : Int} (S : SliceT P T e s b z) (hw : Region.wanted ⟨dst, .slice T x lo hi none, ty, pos, aft, gd⟩ (yielded ops a.tmps) = true) (hx : a.eval x = .slice A n c)
    (hl : lo = none ∧ l = 0 ∨ ∃ x, lo = some x ∧ a.eval x = .int kl l) (hh : hi = none ∧ h = (n : Int) ∨ ∃ x, hi = some x ∧ a.eval x = .int kh h) (h0 : 0 ≤ l) (h1 : l ≤ h) (h2 : h ≤ (c : Int))
    (hK : wpList P ops Q rest (a.put dst (.slice (subA A c l.toNat s) (h.toNat - l.toNat) (c - l.toNat))) w) :
    wpList P ops Q (⟨dst, .slice T x lo hi none, ty, pos, aft, gd⟩ :: rest) a w := wpl_value hw (run_sliceA S hx hl hh h0 h1 h2 w) hK

/-! ### New slices -/
theorem madeCells_take (cs : Array Value) (k : Nat) : (madeCells cs k).toList.length = k := by simp [size_madeCells]
theorem wpl_make (S : SliceT P T e s b z) (hw : Region.wanted ⟨dst, .makeSlice T x y, ty, pos, aft, gd⟩ (yielded ops a.tmps) = true) {kl kc : IntKind} {l c : Int} (hx : a.eval x = .int kl l) (hy : a.eval y = .int kc c)
    (h0 : 0 ≤ l) (hlc : l = c) (hb : (b : Int) * c ≤ 281474976710656) (hm : c ≤ 9223372036854775807) (h : Sat w0 L w)
    (hK : ∀ A w', Sat w0 (own e s A l.toNat l.toNat (madeCells z.cells (l.toNat * s)).toList :: L) w' → wpList P ops Q rest (a.put dst (.slice A l.toNat l.toNat)) w') :
    wpList P ops Q (⟨dst, .makeSlice T x y, ty, pos, aft, gd⟩ :: rest) a w := by
  subst hlc
  obtain ⟨i, hi, hz, hs, hbb⟩ := S.parts
  subst hs hbb
  have hr := run_make (P := P) w T e i z S.under hi hz kl kc l l h0 (Int.le_refl _) hb hm
  refine wpl_value (v := .slice (some ⟨w.heap.size, 0, none⟩) l.toNat l.toNat) (w' := w.alloc (.cells (madeCells z.cells (l.toNat * i.size)) e)) hw ?_ (hK _ _ (own_shut (h.alloc _) (Nat.le_refl _) (by unfold maxLen; omega) (size_madeCells _ _) ?_))
  · simp [execOp, hx, hy, hr]
  · rw [List.take_of_length_le (by rw [madeCells_take]; exact Nat.le_refl _)]

theorem wpl_append_nil (S : SliceT P T e s b z) (hw : Region.wanted ⟨dst, .call ⟨.builtin .append, #[x, y], #[T, T]⟩, ty, pos, aft, gd⟩ (yielded ops a.tmps) = true) (hx : a.eval x = .slice none 0 0) (hy : a.eval y = .slice B m d)
    (h : Sat w0 L w) (hr : Rd L B ys) (hl : ys.length = m * s) (h1 : ∀ u ∈ ys, u.oneCell' = true) (hbytes : m * b ≤ 140737488355328) (h63 : m ≤ maxLen)
    (hK : ∀ A c w', Sat w0 (own e s A m c ys :: L) w' → wpList P ops Q rest (a.put dst (.slice A m c)) w') :
    wpList P ops Q (⟨dst, .call ⟨.builtin .append, #[x, y], #[T, T]⟩, ty, pos, aft, gd⟩ :: rest) a w := by
  obtain ⟨i, hi, hz, hs, hbb⟩ := S.parts
  subst hs hbb
  by_cases hm : m = 0
  · subst hm
    have hn : ys = [] := List.eq_nil_of_length_eq_zero (by simpa using hl)
    subst hn
    refine wpl_value (v := .slice none 0 0) (w' := w) hw ?_ (hK _ _ _ (own_nil h))
    cases B with
    | none => simp [execOp, resolve, invoke, builtin, hx, hy, Builtin.append_, run_underlying S.under, sizeOf, typeInfo, hi, Builtin.lenOf, Builtin.firstCells]
    | some ad => simp [execOp, resolve, invoke, builtin, hx, hy, Builtin.append_, run_underlying S.under, sizeOf, typeInfo, hi, Builtin.lenOf, Builtin.firstCells, loadCells, loadCellsFrom]
  · have hne : ys ≠ [] := by
      rintro rfl
      have := Nat.mul_pos (Nat.pos_of_ne_zero hm) S.pos
      simp at hl
      omega
    rcases hr.at_ h with he | ⟨ad, rfl, hc⟩
    · exact absurd he hne
    · have hmx : m ≤ 9223372036854775807 := h63
      have hrun := run_append_nil (P := P) w T ty e i z S.under hi hz ad m d ys hl hc (by omega) (by omega) (by omega)
      have hge := grownCap_ge w m 0 e
      refine wpl_value (v := .slice (some ⟨w.heap.size, 0, none⟩) m (grownCap w m 0 e)) (w' := w.drew.alloc (.cells (ys.toArray ++ Builtin.zeroCells z.cells (grownCap w m 0 e - m)) e)) hw ?_
        (hK _ _ _ (own_shut (h.drew.alloc _) hge (grownCap_le_maxLen w m 0 e h63) ?_ ?_))
      · simp [execOp, resolve, invoke, builtin, hx, hy, hrun]
      · simp only [Array.size_append, List.size_toArray, size_zeroCells, S.zsize, hl, ← Nat.add_mul]
        congr 1
        omega
      · simp only [Array.toList_append]
        rw [← hl]
        exact List.take_left
theorem wpl_append (S : SliceT P T e s b z) (hw : Region.wanted ⟨dst, .call ⟨.builtin .append, #[x, y], #[T, T]⟩, ty, pos, aft, gd⟩ (yielded ops a.tmps) = true) (hx : a.eval x = .slice A n c) (hy : a.eval y = .slice B m d)
    (h : Sat w0 L w) (p : Pull (own e s A n c xs) L L') (hr : Rd L B ys) (hl : ys.length = m * s) (h1 : ∀ u ∈ ys, u.oneCell' = true) (hbytes : (n + m) * b ≤ 140737488355328) (h63 : n + m ≤ maxLen)
    (hK : ∀ A c w', Sat w0 (own e s A (n + m) c (xs ++ ys) :: L') w' → wpList P ops Q rest (a.put dst (.slice A (n + m) c)) w') :
    wpList P ops Q (⟨dst, .call ⟨.builtin .append, #[x, y], #[T, T]⟩, ty, pos, aft, gd⟩ :: rest) a w := by
  have hln := own_len h p
  have hcap := own_cap h p
  rcases own_open h p with ⟨rfl, rfl, rfl, rfl, h'⟩ | ⟨g, cur, rfl, hsz, ht, h'⟩
  · refine wpl_append_nil S hw hx hy h hr hl h1 (by simpa using hbytes) (by simpa using h63) fun A c w' h2 => ?_
    have := hK A c w'
    simp only [Nat.zero_add, List.nil_append] at this
    exact this ((h2.perm (((Pull.perm p).cons _).trans (List.Perm.swap _ _ _))).drop)
  · obtain ⟨i, hi, hz, hs, hbb⟩ := S.parts
    subst hs hbb
    by_cases hm : m = 0
    · subst hm
      have hn : ys = [] := List.eq_nil_of_length_eq_zero (by simpa using hl)
      subst hn
      refine wpl_value (v := .slice (some ⟨g, 0, none⟩) n c) (w' := w) hw ?_ (by have := hK (some ⟨g, 0, none⟩) c w; simp only [Nat.add_zero, List.append_nil] at this; exact this (h.pull p))
      have h0 : (Builtin.firstCells i.size 0 (.slice B 0 d)).run P w = .ok #[] w := by
        cases B <;> simp [Builtin.firstCells, loadCells, loadCellsFrom]
      simp [execOp, resolve, invoke, builtin, hx, hy, Builtin.append_, run_underlying S.under, sizeOf, typeInfo, hi, Builtin.lenOf, hcap.1, h0, storeCells]
    · have hne : ys ≠ [] := by
        rintro rfl
        have := Nat.mul_pos (Nat.pos_of_ne_zero hm) S.pos
        simp at hl
        omega
      rcases hr.at_ h with he | ⟨ad, rfl, hc⟩
      · exact absurd he hne
      · have hmx : n + m ≤ 9223372036854775807 := h63
        by_cases hroom : n + m ≤ c
        · have hfit : n * i.size + ys.length ≤ cur.size := by rw [hl, hsz, ← Nat.add_mul]; exact Nat.mul_le_mul_right _ hroom
          have hrun := run_append_room (P := P) w T ty e i S.under hi g n c cur h'.heap ad m d ys hl hc h1 hroom hfit
          refine wpl_value (v := .slice (some ⟨g, 0, none⟩) (n + m) c) (w' := w.setRow g (cur.toList.take (n * i.size) ++ ys ++ cur.toList.drop (n * i.size + ys.length)).toArray) hw ?_
            (hK _ _ _ (own_shut h'.setRow hroom hcap.2 ?_ ?_))
          · simp [execOp, resolve, invoke, builtin, hx, hy, hrun]
          · simp only [List.size_toArray, List.length_append, List.length_take, List.length_drop, Array.length_toList]
            omega
          · rw [ht]
            have e1 : (n + m) * i.size = (xs ++ ys).length := by rw [List.length_append, hln, hl, Nat.add_mul]
            rw [e1]
            exact List.take_left
        · have holds : ∀ j u, xs[j]? = some u → w.cell? ((⟨g, 0, none⟩ : Addr).add j) = some u := fun j u hu => by
            rw [Addr.add_lit, h'.cell .here, Nat.zero_add]
            rw [← ht, List.getElem?_take] at hu
            split at hu
            · simpa using hu
            · cases hu
          have hrun := run_append_grow (P := P) w T ty e i z S.under hi hz ⟨g, 0, none⟩ n c xs hln holds ad m d ys hl hc (by omega) (by omega) (growslice_fits (by omega) hbytes)
          have hge := grownCap_ge w (n + m) c e
          refine wpl_value (v := .slice (some ⟨w.heap.size, 0, none⟩) (n + m) (grownCap w (n + m) c e)) (w' := w.drew.alloc (.cells (xs.toArray ++ ys.toArray ++ Builtin.zeroCells z.cells (grownCap w (n + m) c e - (n + m))) e)) hw ?_
            (hK _ _ _ (own_shut (h'.drop.drew.alloc _) hge (grownCap_le_maxLen w (n + m) c e h63) ?_ ?_))
          · simp [execOp, resolve, invoke, builtin, hx, hy, hrun]
          · simp only [Array.size_append, List.size_toArray, size_zeroCells, S.zsize, hln, hl, ← Nat.add_mul]
            congr 1
            omega
          · simp only [Array.toList_append]
            have e1 : (n + m) * i.size = (xs ++ ys).length := by rw [List.length_append, hln, hl, Nat.add_mul]
            rw [e1]
            exact List.take_left

/-! ### Literals of slices; bytes as a string, and back -/
theorem wpl_buildSlice {parts : Array (Nat × Operand)} {vals : List (Nat × Value)} {cells : Array Value} {k : Nat} (S : SliceT P T e s b z) (hw : Region.wanted ⟨dst, .buildSlice T k parts, ty, pos, aft, gd⟩ (yielded ops a.tmps) = true) (hp : (parts.toList.map fun x => (x.1, a.eval x.2)) = vals)
    (hk : k * s ≤ 16777216) (hf : Instr.fill (fun i => some (i * s, s)) (madeCells z.cells (k * s)) vals = some cells) (hsz : cells.size = k * s) (h : Sat w0 L w)
    (hK : ∀ A w', Sat w0 (own e s A k k cells.toList :: L) w' → wpList P ops Q rest (a.put dst (.slice A k k)) w') :
    wpList P ops Q (⟨dst, .buildSlice T k parts, ty, pos, aft, gd⟩ :: rest) a w := by
  obtain ⟨i, hi, hz, hs, hbb⟩ := S.parts
  subst hs hbb
  have hpos := S.pos
  refine wpl_value (v := .slice (some ⟨w.heap.size, 0, none⟩) k k) (w' := w.alloc (.cells cells e)) hw ?_ (hK _ _ (own_shut (h.alloc _) (Nat.le_refl _) (by unfold maxLen; have := Nat.le_mul_of_pos_right k hpos; omega) hsz ?_))
  · have hlt : ¬ (16777216 < k * i.size) := by omega
    by_cases h0 : k * i.size = 0
    · have hmade : madeCells z.cells (k * i.size) = #[] := by rw [h0]; simp [madeCells]
      rw [hmade] at hf
      simp [execOp, Instr.buildSlice, run_underlying S.under, sizeOf, typeInfo, hi, hlt, h0, hp, hf, newRow, newObj, Array.range_zero']
      rfl
    · have hmade : ((Array.range (k * i.size)).map fun j => z.cells[j % z.cells.size]!) = madeCells z.cells (k * i.size) := rfl
      simp [execOp, Instr.buildSlice, run_underlying S.under, sizeOf, typeInfo, zeroValue, hz, hi, hlt, h0, hp, hmade, hf, newRow, newObj]
      rfl
  · rw [List.take_of_length_le (by rw [Array.length_toList, hsz]; exact Nat.le_refl _)]
theorem wpl_build1 {x : Operand} {v : Value} (S : SliceT P T e 1 b z) (hw : Region.wanted ⟨dst, .buildSlice T 1 #[(0, x)], ty, pos, aft, gd⟩ (yielded ops a.tmps) = true) (hx : a.eval x = v) (h1 : v.cells = #[v]) (h : Sat w0 L w)
    (hK : ∀ A w', Sat w0 (own e 1 A 1 1 [v] :: L) w' → wpList P ops Q rest (a.put dst (.slice A 1 1)) w') :
    wpList P ops Q (⟨dst, .buildSlice T 1 #[(0, x)], ty, pos, aft, gd⟩ :: rest) a w := by
  have hz := S.zsize
  obtain ⟨zz, hzz⟩ : ∃ zz, madeCells z.cells (1 * 1) = #[zz] := by
    have : (madeCells z.cells (1 * 1)).size = 1 := size_madeCells _ _
    generalize madeCells z.cells (1 * 1) = m at this ⊢
    rcases m with ⟨l⟩
    match l, this with
    | [zz], _ => exact ⟨zz, rfl⟩
  exact wpl_buildSlice (cells := #[v]) S hw (vals := [(0, v)]) (by simp [hx]) (by decide) (by rw [hzz]; simp [Instr.fill, h1]) rfl h hK
theorem fold_set (l : List Value) : ∀ (k : Nat) (m : Array Value), k + l.length ≤ m.size →
    ((l.zipIdx k).foldl (fun cs (p : Value × Nat) => cs.setIfInBounds (0 + p.2) p.1) m).toList = m.toList.take k ++ l ++ m.toList.drop (k + l.length) := by
  induction l with
  | nil => intro k m _; simp
  | cons v l ih =>
    intro k m h
    simp only [List.length_cons] at h
    simp only [List.zipIdx_cons, List.foldl_cons, Nat.zero_add]
    have := ih (k + 1) (m.setIfInBounds k v) (by simp; omega)
    simp only [Nat.zero_add] at this
    rw [this, Array.toList_setIfInBounds]
    have hk : k < m.toList.length := by simp; omega
    apply List.ext_getElem?
    intro i
    simp only [List.getElem?_append, List.length_take, List.length_set, List.length_append, List.length_cons, List.getElem?_take, List.getElem?_set, List.getElem?_drop, Array.length_toList]
    have hm : k < m.size := by simpa using hk
    have e1 : min (k + 1) m.size = k + 1 := by omega
    have e2 : min k m.size = k := by omega
    rw [e1, e2]
    by_cases h1 : i < k
    · have : i < k + 1 := by omega
      simp [h1, this, show i < k + (l.length + 1) by omega, show i < k + 1 + l.length by omega, show k ≠ i by omega]
    · by_cases h2 : i = k
      · subst h2
        simp [hk, show i < i + (l.length + 1) by omega, show i < i + 1 + l.length by omega, hm]
      · have h3 : ¬ i < k + 1 := by omega
        by_cases h4 : i < k + 1 + l.length
        · have e : i - k = (i - (k + 1)) + 1 := by omega
          simp [h1, h3, h4, show i < k + (l.length + 1) by omega]
          rw [e, List.getElem?_cons_succ]
        · simp [h4, show ¬ i < k + (l.length + 1) by omega, show k ≠ i by omega, show ¬ (k = k + 1 + l.length + (i - (k + 1 + l.length))) by omega]
          congr 1
          omega
theorem fill_one {place : Nat → Option (Nat × Nat)} {m cs : Array Value} {s : Nat} (hp : place 0 = some (0, s)) (hm : m.size = s) (hs : cs.size = s) : Instr.fill place m [(0, .agg cs)] = some cs := by
  have hc : (Value.agg cs).cells = cs := rfl
  simp [Instr.fill, hp, hc, hs, hm]
  apply Array.ext'
  have := fold_set cs.toList 0 m (by simp; omega)
  have hz : s = cs.zipIdx.size := by simp [hs]
  conv => lhs; rw [hz]
  rw [← Array.foldl_toList, Array.toList_zipIdx]
  simp only [Nat.zero_add] at this
  rw [this]
  simp
  omega
theorem wpl_build1_agg {x : Operand} {cs : Array Value} (S : SliceT P T e s b z) (hw : Region.wanted ⟨dst, .buildSlice T 1 #[(0, x)], ty, pos, aft, gd⟩ (yielded ops a.tmps) = true) (hx : a.eval x = .agg cs) (h1 : cs.size = s) (hs : s ≤ 1000) (h : Sat w0 L w)
    (hK : ∀ A w', Sat w0 (own e s A 1 1 cs.toList :: L) w' → wpList P ops Q rest (a.put dst (.slice A 1 1)) w') :
    wpList P ops Q (⟨dst, .buildSlice T 1 #[(0, x)], ty, pos, aft, gd⟩ :: rest) a w := by
  refine wpl_buildSlice (cells := cs) S hw (vals := [(0, .agg cs)]) (by simp [hx]) (by omega) (fill_one (by simp) (by rw [size_madeCells]; omega) h1) (by omega) h hK
end
/-- The cells of a byte string. -/
def bv (l : List UInt8) : List Value := l.map fun b => .int .u8 (b.toNat : Int)
@[simp] theorem bv_length (l : List UInt8) : (bv l).length = l.length := by simp [bv]
@[simp] theorem bv_nil : bv [] = [] := rfl
@[simp] theorem bv_append (l m : List UInt8) : bv (l ++ m) = bv l ++ bv m := by simp [bv]
theorem bv_get (l : List UInt8) (i : Nat) (h : i < l.length) : (bv l)[i]? = some (.int .u8 (l[i].toNat : Int)) := by simp [bv, h]
theorem bv_one (l : List UInt8) : ∀ u ∈ bv l, u.oneCell' = true := by
  intro u hu
  obtain ⟨_, _, rfl⟩ := List.mem_map.1 hu
  rfl
theorem bv_take (l : List UInt8) (n : Nat) : (bv l).take n = bv (l.take n) := by simp [bv, List.map_take]
theorem bv_drop (l : List UInt8) (n : Nat) : (bv l).drop n = bv (l.drop n) := by simp [bv, List.map_drop]
theorem Rd.bytes {L : List SProp} {A : Option Addr} {l : List UInt8} {c : Nat} (hr : Rd L A (bv l)) (hc : l.length ≤ c) (i j : Nat) : Rd L (subA A c i 1) (bv ((l.drop i).take j)) := by
  have := hr.sub (c := c) (s := 1) (l := i) (m := j) (by simpa using hc)
  rw [Nat.mul_one, bv_drop, bv_take] at this
  exact this
theorem Rd.bytes_to {L : List SProp} {A : Option Addr} {l : List UInt8} {c : Nat} (hr : Rd L A (bv l)) (hc : l.length ≤ c) (i : Nat) : Rd L (subA A c i 1) (bv (l.drop i)) := by
  have := hr.bytes hc i l.length
  rwa [List.take_of_length_le (by simp)] at this
section
variable {P : Program} {ops : Array Oper} {Q : Exit → Act → World → Prop} {a : Act} {w w' w0 : World} {rest : List Oper} {v : Value} {L L' : List SProp}
variable {dst : Option Tmp} {ty T U e : TypeId} {pos : String} {aft : Array Edge} {gd : Option (Nat × Bool)} {x y : Operand} {A : Option Addr} {c : Nat}
theorem run_string {l : List UInt8} {n : Nat} (hs : P.underlying T = some (.slice e)) (he : P.underlying e = some (.int .u8)) (hd : P.underlying U = some .string)
    (hx : a.eval x = .slice A n c) (hr : Reads w A (bv l)) (hn : n = l.length) : (execOp a.eval ⟨dst, .convert T U x, ty, pos, aft, gd⟩).run P w = .ok (.value (.string ⟨l.toArray⟩)) w := by
  subst hn
  rcases hr with h0 | ⟨ad, rfl, hc⟩
  · have hl : l = [] := by simpa [bv] using h0
    subst hl
    simp only [execOp, hx, Sem.run_bind, run_convert_bytes_string w T U e A [].length c hs he hd]
    cases A with
    | none => simp [Conv.bytesToString]; rfl
    | some ad =>
      have := run_bytesToString (P := P) w ad 0 c [] (by simp [loadCells, loadCellsFrom])
      simp only [List.length_nil, this]
      rfl
  · have := run_convert_bytes_back (P := P) w T U e ad c l hs he hd (fun j hj => hc j _ (bv_get l j hj))
    simp [execOp, hx, this]
theorem wpl_string {l : List UInt8} {n : Nat} (hs : P.underlying T = some (.slice e)) (he : P.underlying e = some (.int .u8)) (hd : P.underlying U = some .string)
    (hw : Region.wanted ⟨dst, .convert T U x, ty, pos, aft, gd⟩ (yielded ops a.tmps) = true) (hx : a.eval x = .slice A n c) (h : Sat w0 L w) (hr : Rd L A (bv l)) (hn : n = l.length) (hK : wpList P ops Q rest (a.put dst (.string ⟨l.toArray⟩)) w) :
    wpList P ops Q (⟨dst, .convert T U x, ty, pos, aft, gd⟩ :: rest) a w := wpl_value hw (run_string hs he hd hx (hr.at_ h) hn) hK
theorem wpl_bytes {t : ByteArray} (hs : P.underlying T = some (.slice e)) (he : P.underlying e = some (.int .u8)) (hd : P.underlying U = some .string)
    (hw : Region.wanted ⟨dst, .convert U T x, ty, pos, aft, gd⟩ (yielded ops a.tmps) = true) (hx : a.eval x = .string t) (h : Sat w0 L w)
    (hK : ∀ (g c : Nat) (cur : Array Value) (fr : Nat × Nat) (w' : World), (∀ (j : Nat) (v : Value), (bv t.data.toList)[j]? = some v → cur[j]? = some v) → Sat w0 (blk g (.cells cur e fr) :: L) w' → wpList P ops Q rest (a.put dst (.slice (some ⟨g, 0, none⟩) t.size c)) w') :
    wpList P ops Q (⟨dst, .convert U T x, ty, pos, aft, gd⟩ :: rest) a w := by
  have hrun := run_bytes_of_string (P := P) w U T e t hd hs he
  refine wpl_value hw (by simp only [execOp, hx, Sem.run_bind, hrun]; rfl) (hK _ _ _ _ _ ?_ (h.drew.alloc _))
  intro j v hv
  unfold bytesRow
  have hj : j < t.data.size := by simpa [bv] using (List.getElem?_eq_some_iff.1 hv).1
  rw [Array.getElem?_append, if_pos (by simpa using hj)]
  simpa [bv] using hv
end
end Go.Proofs.YtgobibgpkcdmdaaDoor
