/- The walk's rules over 'Sat': one for each operation that reads, writes or makes memory. -/
import Derived.Test.YtgobibgpkcdmdaaDoorSat
set_option linter.all false
namespace Go.Proofs.YtgobibgpkcdmdaaDoor
open Go.RowKit

section
variable {P : Program} {ops : Array Oper} {Q : Exit → Act → World → Prop} {a : Act} {w w' w0 : World} {rest : List Oper} {o : Oper} {v : Value} {L L' L'' : List SProp}
variable {dst : Option Tmp} {ty T e : TypeId} {pos : String} {aft : Array Edge} {gd : Option (Nat × Bool)} {x y : Operand}

theorem wpl_value (hw : Region.wanted o (yielded ops a.tmps) = true) (hrun : (execOp a.eval o).run P w = .ok (.value v) w') (hK : wpList P ops Q rest (a.put o.dst v) w') : wpList P ops Q (o :: rest) a w :=
  BigFrame.wpList_want hw fun K hK' => by unfold Oper.wp; rw [hrun]; exact hK' _ _ hK
theorem wpl_skip (hw : Region.wanted o (yielded ops a.tmps) = true) (hrun : (execOp a.eval o).run P w = .ok .skip w') (hK : wpList P ops Q rest (a.put o.dst undef) w') : wpList P ops Q (o :: rest) a w :=
  BigFrame.wpList_want hw fun K hK' => by unfold Oper.wp; rw [hrun]; exact hK' _ _ hK

/-! ### New variables -/
theorem run_newVar (v : Value) (w : World) : (newVar T v).run P w = .ok ⟨w.heap.size, 0, none⟩ (w.alloc (.cells v.cells T)) := by
  simp [newVar, newRow, newObj, Sem.run]
theorem wpl_alloc_agg {arr : Array Value} (hz : ∀ w, (zeroValue T).run P w = .ok (.agg arr) w) (h : Sat w0 L w)
    (hK : ∀ g w', Sat w0 (blk g (.cells arr T) :: L) w' → wpList P ops Q rest (a.put dst (.pointer (some ⟨g, 0, none⟩))) w') :
    wpList P ops Q (⟨dst, .alloc T, ty, pos, aft, none⟩ :: rest) a w := by
  refine wpl_value (v := .pointer (some ⟨w.heap.size, 0, none⟩)) (w' := w.alloc (.cells arr T)) rfl ?_ (hK _ _ (h.alloc _))
  simp [execOp, Instr.alloc, hz, run_newVar, Value.cells]
theorem wpl_alloc_one {z : Value} (hz : ∀ w, (zeroValue T).run P w = .ok z w) (h1 : z.cells = #[z]) (h : Sat w0 L w)
    (hK : ∀ g w', Sat w0 (blk g (.cells #[z] T) :: L) w' → wpList P ops Q rest (a.put dst (.pointer (some ⟨g, 0, none⟩))) w') :
    wpList P ops Q (⟨dst, .alloc T, ty, pos, aft, none⟩ :: rest) a w := by
  refine wpl_value (v := .pointer (some ⟨w.heap.size, 0, none⟩)) (w' := w.alloc (.cells #[z] T)) rfl ?_ (hK _ _ (h.alloc _))
  simp [execOp, Instr.alloc, hz, run_newVar, h1]
theorem wpl_box {v : Value} {arr : Array Value} (hx : a.eval x = v) (hv : v.cells = arr) (h : Sat w0 L w)
    (hK : ∀ g w', Sat w0 (blk g (.cells arr T) :: L) w' → wpList P ops Q rest (a.put dst (.pointer (some ⟨g, 0, none⟩))) w') :
    wpList P ops Q (⟨dst, .box T x, ty, pos, aft, none⟩ :: rest) a w := by
  refine wpl_value (v := .pointer (some ⟨w.heap.size, 0, none⟩)) (w' := w.alloc (.cells arr T)) rfl ?_ (hK _ _ (h.alloc _))
  simp [execOp, Instr.box, hx, run_newVar, hv]

/-! ### Loads and stores of one cell -/
theorem run_load_one {ad : Addr} (hagg : ∀ w, (isAgg T).run P w = .ok false w) (hc : w.cell? ad = some v) :
    (Instr.loadAt T (.pointer (some ad))).run P w = .ok v w := by
  simp [Instr.loadAt, Instr.sureAddr, loadVar, hagg, load, Sem.run, hc]
theorem run_load_agg {b i n : Nat} {cs : Array Value} {T' : TypeId} {fr : Nat × Nat} (hagg : ∀ w, (isAgg T).run P w = .ok true w) (hs : ∀ w, (sizeOf T).run P w = .ok n w)
    (hg : w.heap[b]? = some (.cells cs T' fr)) (hi : i + n ≤ cs.size) :
    (Instr.loadAt T (.pointer (some ⟨b, i, none⟩))).run P w = .ok (.agg (cs.extract i (i + n))) w := by
  have hl := run_loadCells_list (P := P) w ⟨b, i, none⟩ (cs.extract i (i + n)).toList (fun j u hu => by
    rw [Addr.add_lit, cell_of_row w b (i + j) cs T' fr hg]
    simp only [Array.getElem?_toList, Array.getElem?_extract] at hu
    split at hu
    · exact hu
    · cases hu)
  have hlen : (cs.extract i (i + n)).toList.length = n := by simp; omega
  rw [hlen] at hl
  simp [Instr.loadAt, Instr.sureAddr, loadVar, hagg, hs, hl]
  apply Array.ext'
  simp
theorem wpl_load {b i : Nat} {cs : Array Value} {T' : TypeId} {fr : Nat × Nat} (hagg : ∀ w, (isAgg T).run P w = .ok false w) (hw : Region.wanted ⟨dst, .load T x, ty, pos, aft, gd⟩ (yielded ops a.tmps) = true) (hx : a.eval x = .pointer (some ⟨b, i, none⟩))
    (h : Sat w0 L w) (p : Pull (blk b (.cells cs T' fr)) L L') (hv : cs[i]? = some v) (hK : wpList P ops Q rest (a.put dst v) w) :
    wpList P ops Q (⟨dst, .load T x, ty, pos, aft, gd⟩ :: rest) a w := by
  refine wpl_value (v := v) (w' := w) hw ?_ hK
  simp [execOp, hx, run_load_one hagg ((h.cell p i).trans hv)]
theorem wpl_load_cell {ad : Addr} (hagg : ∀ w, (isAgg T).run P w = .ok false w) (hw : Region.wanted ⟨dst, .load T x, ty, pos, aft, gd⟩ (yielded ops a.tmps) = true) (hx : a.eval x = .pointer (some ad))
    (hc : w.cell? ad = some v) (hK : wpList P ops Q rest (a.put dst v) w) :
    wpList P ops Q (⟨dst, .load T x, ty, pos, aft, gd⟩ :: rest) a w := by
  refine wpl_value (v := v) (w' := w) hw ?_ hK
  simp [execOp, hx, run_load_one hagg hc]
theorem wpl_load_agg {b i n : Nat} {cs ds : Array Value} {T' : TypeId} {fr : Nat × Nat} (hagg : ∀ w, (isAgg T).run P w = .ok true w) (hs : ∀ w, (sizeOf T).run P w = .ok n w)
    (hw : Region.wanted ⟨dst, .load T x, ty, pos, aft, gd⟩ (yielded ops a.tmps) = true) (hx : a.eval x = .pointer (some ⟨b, i, none⟩)) (h : Sat w0 L w) (p : Pull (blk b (.cells cs T' fr)) L L') (hi : i + n ≤ cs.size) (hd : cs.extract i (i + n) = ds) (hK : wpList P ops Q rest (a.put dst (.agg ds)) w) :
    wpList P ops Q (⟨dst, .load T x, ty, pos, aft, gd⟩ :: rest) a w := by
  refine wpl_value (v := .agg ds) (w' := w) hw ?_ hK
  simp [execOp, hx, run_load_agg hagg hs (h.heap_of p) hi, hd]
theorem wpl_store {b i : Nat} {cs ds : Array Value} {T' : TypeId} (hs : ∀ w, (sizeOf T).run P w = .ok 1 w) (hw : Region.wanted ⟨dst, .store T x y, ty, pos, aft, gd⟩ (yielded ops a.tmps) = true) (hx : a.eval x = .pointer (some ⟨b, i, none⟩)) (hy : a.eval y = v) (h1 : v.oneCell' = true)
    (h : Sat w0 L w) (p : Pull (blk b (.cells cs T' (0, 0))) L L') (hi : i < cs.size) (hd : cs.setIfInBounds i v = ds)
    (hK : ∀ w', Sat w0 (blk b (.cells ds T' (0, 0)) :: L') w' → wpList P ops Q rest (a.put dst undef) w') :
    wpList P ops Q (⟨dst, .store T x y, ty, pos, aft, gd⟩ :: rest) a w := by
  subst hd
  refine wpl_skip (w' := w.setCell ⟨b, i, none⟩ v) hw ?_ (hK _ ((h.pull p).setCell i v))
  have hc : w.cell? ⟨b, i, none⟩ = some cs[i] := (h.cell p i).trans (by simp [hi])
  have hf := h.unfrozen p i
  have hcells : v.cells = #[v] := by cases v <;> first | rfl | (simp [Value.oneCell'] at h1)
  simp [execOp, hx, hy, Instr.storeAt, Instr.sureAddr, storeVar, hcells, hs, storeCells, Addr.add, run_store, h1, hc, hf]
theorem wpl_store_agg {b i n : Nat} {cs ds vs : Array Value} {T' : TypeId} (hs : ∀ w, (sizeOf T).run P w = .ok n w) (hw : Region.wanted ⟨dst, .store T x y, ty, pos, aft, gd⟩ (yielded ops a.tmps) = true) (hx : a.eval x = .pointer (some ⟨b, i, none⟩)) (hy : a.eval y = .agg vs) (hn : vs.size = n) (h1 : ∀ v ∈ vs.toList, v.oneCell' = true)
    (h : Sat w0 L w) (p : Pull (blk b (.cells cs T' (0, 0))) L L') (hi : i + n ≤ cs.size) (hd : (cs.toList.take i ++ vs.toList ++ cs.toList.drop (i + n)).toArray = ds)
    (hK : ∀ w', Sat w0 (blk b (.cells ds T' (0, 0)) :: L') w' → wpList P ops Q rest (a.put dst undef) w') :
    wpList P ops Q (⟨dst, .store T x y, ty, pos, aft, gd⟩ :: rest) a w := by
  subst hd hn
  refine wpl_skip (w' := w.setRow b (cs.toList.take i ++ vs.toList ++ cs.toList.drop (i + vs.size)).toArray) hw ?_ (hK _ ((h.pull p).setRow))
  have hst := run_storeCells_at P b i T' vs.toList 0 cs w (h.heap_of p) (by simpa using hi) h1
  simp only [Nat.add_zero, Array.length_toList] at hst
  simp [execOp, hx, hy, Instr.storeAt, Instr.sureAddr, storeVar, Value.cells, hs, hst]

/-! ### Slices: what is read -/
/-- Row A of world w begins with the cells xs. -/
def Reads (w : World) (A : Option Addr) (xs : List Value) : Prop := xs = [] ∨ ∃ ad, A = some ad ∧ ∀ j v, xs[j]? = some v → w.cell? (ad.add j) = some v
/-- In every world that L tells, row A begins with the cells xs. -/
def Rd (L : List SProp) (A : Option Addr) (xs : List Value) : Prop := ∀ w0 w, Sat w0 L w → Reads w A xs
/-- Cell k of a row. -/
def cellAt (A : Option Addr) (k : Nat) : Addr := (A.getD ⟨0, 0, none⟩).add k
theorem add_add (ad : Addr) (j k : Nat) : (ad.add j).add k = ad.add (j + k) := by
  unfold Addr.add
  by_cases hj : j = 0
  · subst hj; simp
  · by_cases hk : k = 0
    · subst hk; simp [hj]
    · have : j + k ≠ 0 := by omega
      simp [hj, hk, this, Nat.add_assoc]
theorem cellAt_add (A : Option Addr) (j k : Nat) : (cellAt A j).add k = cellAt A (j + k) := add_add _ _ _
theorem cellAt_some (b i k : Nat) : cellAt (some ⟨b, i, none⟩) k = ⟨b, i + k, none⟩ := by simp [cellAt, Addr.add_lit]
theorem Reads.cell {A : Option Addr} {xs : List Value} (h : Reads w A xs) {k : Nat} {v : Value} (hv : xs[k]? = some v) : w.cell? (cellAt A k) = some v := by
  rcases h with rfl | ⟨ad, rfl, hc⟩
  · simp at hv
  · exact hc k v hv
theorem Reads.some_of {A : Option Addr} {xs : List Value} (h : Reads w A xs) (hne : xs ≠ []) : A = some (cellAt A 0) := by
  rcases h with rfl | ⟨ad, rfl, hc⟩
  · exact absurd rfl hne
  · simp [cellAt, Addr.add]
theorem Rd.at_ {A : Option Addr} {xs : List Value} (hr : Rd L A xs) (h : Sat w0 L w) : Reads w A xs := hr _ _ h
theorem Rd.perm {A : Option Addr} {xs : List Value} {M : List SProp} (hr : Rd L A xs) (p : M.Perm L) : Rd M A xs := fun w0 w h => hr _ _ (h.perm p)
theorem Rd.cons {A : Option Addr} {xs : List Value} {B : SProp} (hr : Rd L A xs) : Rd (B :: L) A xs := fun w0 w h => hr _ _ h.drop
theorem Rd.nil {A : Option Addr} : Rd L A [] := fun _ _ _ => .inl rfl
theorem Rd.push {A : Option Addr} {xs : List Value} {B : SProp} (hr : Rd L' A xs) (p : Pull B L L') : Rd L A xs := fun w0 w h => hr _ _ (h.pull p).drop
theorem Rd.take {A : Option Addr} {xs : List Value} (hr : Rd L A xs) (n : Nat) : Rd L A (xs.take n) := fun w0 w h => by
  rcases hr _ _ h with rfl | ⟨ad, rfl, hc⟩
  · exact .inl (by simp)
  · refine .inr ⟨ad, rfl, fun j v hv => hc j v ?_⟩
    rw [List.getElem?_take] at hv
    split at hv
    · exact hv
    · cases hv
theorem Rd.blk {b i : Nat} {cs : Array Value} {T' : TypeId} {fr : Nat × Nat} {xs : List Value} (p : Pull (blk b (.cells cs T' fr)) L L') (hx : ∀ j v, xs[j]? = some v → cs[i + j]? = some v) : Rd L (some ⟨b, i, none⟩) xs := fun w0 w h =>
  .inr ⟨_, rfl, fun j v hv => by rw [Addr.add_lit, h.cell p]; exact hx j v hv⟩

/-- The address behind 's[l:]'. -/
def subA (A : Option Addr) (c l s : Nat) : Option Addr := if c = l then A else A.map (·.add (l * s))
theorem Rd.sub {A : Option Addr} {xs : List Value} {c s l m : Nat} (hr : Rd L A xs) (hlen : xs.length ≤ c * s) : Rd L (subA A c l s) ((xs.drop (l * s)).take m) := fun w0 w h => by
  unfold subA
  split
  · rename_i e
    subst e
    exact .inl (by rw [List.drop_of_length_le hlen]; simp)
  · rcases hr _ _ h with rfl | ⟨ad, rfl, hc⟩
    · exact .inl (by simp)
    · refine .inr ⟨_, rfl, fun j v hv => ?_⟩
      rw [add_add]
      refine hc _ _ ?_
      rw [List.getElem?_take] at hv
      split at hv
      · rwa [List.getElem?_drop] at hv
      · cases hv
theorem subA_zero (A : Option Addr) (c s : Nat) : subA A c 0 s = A := by
  unfold subA
  split
  · rfl
  · cases A <;> simp [Addr.add]

/-! ### Slices: what is the call's own -/
/-- The slice (A, n, c) is nil, or the head of a block of its own; its elements' cells are xs, s each. -/
def own (T s : Nat) (A : Option Addr) (n c : Nat) (xs : List Value) : SProp := fun f => xs.length = n * s ∧ n ≤ c ∧ c ≤ maxLen ∧
  ((A = none ∧ n = 0 ∧ c = 0 ∧ f = []) ∨ ∃ g cur, A = some ⟨g, 0, none⟩ ∧ f = [(g, .cells cur T (0, 0))] ∧ cur.size = c * s ∧ cur.toList.take (n * s) = xs)
section
variable {s n c : Nat} {A : Option Addr} {xs : List Value}
theorem own_nil (h : Sat w0 L w) : Sat w0 (own T s none 0 0 [] :: L) w :=
  Sat.fold (M := []) h fun f hf => by rw [hf.nil_inv]; exact ⟨by simp, Nat.le_refl _, Nat.zero_le _, .inl ⟨rfl, rfl, rfl, rfl⟩⟩
theorem own_len (h : Sat w0 L w) (p : Pull (own T s A n c xs) L L') : xs.length = n * s := (h.pull p).fact_of fun f hf => hf.1
theorem own_cap (h : Sat w0 L w) (p : Pull (own T s A n c xs) L L') : n ≤ c ∧ c ≤ maxLen := (h.pull p).fact_of fun f hf => ⟨hf.2.1, hf.2.2.1⟩
theorem own_open (h : Sat w0 L w) (p : Pull (own T s A n c xs) L L') : (A = none ∧ n = 0 ∧ c = 0 ∧ xs = [] ∧ Sat w0 L' w) ∨
    ∃ g cur, A = some ⟨g, 0, none⟩ ∧ cur.size = c * s ∧ cur.toList.take (n * s) = xs ∧ Sat w0 (blk g (.cells cur T (0, 0)) :: L') w := by
  have h1 := h.pull p
  obtain ⟨f, hs, hn, hm⟩ := h1.frag
  obtain ⟨g, k, rfl, ⟨hl, hnc, hc, ho⟩, hk⟩ := hs.cons_inv
  rcases ho with ⟨rfl, rfl, rfl, rfl⟩ | ⟨g', cur, rfl, rfl, hsz, ht⟩
  · exact .inl ⟨rfl, rfl, rfl, List.eq_nil_of_length_eq_zero (by simpa using hl), h1.drop⟩
  · exact .inr ⟨g', cur, rfl, hsz, ht, h1.os, h1.tape, h1.output, _, .cons rfl hk, hn, hm⟩
theorem own_shut {g : Nat} {cur : Array Value} (h : Sat w0 (blk g (.cells cur T (0, 0)) :: L) w) (hnc : n ≤ c) (hc : c ≤ maxLen) (hsz : cur.size = c * s) (ht : cur.toList.take (n * s) = xs) :
    Sat w0 (own T s (some ⟨g, 0, none⟩) n c xs :: L) w := h.imp fun f hf => ⟨by
      rw [← ht, List.length_take, Array.length_toList, hsz]; exact Nat.min_eq_left (Nat.mul_le_mul_right _ hnc), hnc, hc, .inr ⟨g, cur, rfl, hf, hsz, ht⟩⟩
theorem Rd.own (p : Pull (own T s A n c xs) L L') : Rd L A xs := fun w0 w h => by
  rcases own_open h p with ⟨rfl, rfl, rfl, rfl, _⟩ | ⟨g, cur, rfl, hsz, ht, h'⟩
  · exact .inl rfl
  · refine .inr ⟨_, rfl, fun j v hv => ?_⟩
    rw [Addr.add_lit, h'.cell .here, Nat.zero_add]
    rw [← ht, List.getElem?_take] at hv
    split at hv
    · simpa using hv
    · cases hv
/-- 's = s[:k]' -/
theorem own_cut (h : Sat w0 L w) (p : Pull (own T s A n c xs) L L') (k : Nat) (hk : k ≤ n) : Sat w0 (own T s A k c (xs.take (k * s)) :: L') w := (h.pull p).imp fun f ⟨hl, hnc, hc, ho⟩ => by
  have hks : k * s ≤ n * s := Nat.mul_le_mul_right _ hk
  refine ⟨by rw [List.length_take, hl]; exact Nat.min_eq_left hks, Nat.le_trans hk hnc, hc, ?_⟩
  rcases ho with ⟨rfl, rfl, rfl, rfl⟩ | ⟨g', cur, rfl, rfl, hsz, ht⟩
  · exact .inl ⟨rfl, by omega, rfl, rfl⟩
  · refine .inr ⟨g', cur, rfl, rfl, hsz, ?_⟩
    rw [← ht, List.take_take, Nat.min_eq_left hks]
end
end
end Go.Proofs.YtgobibgpkcdmdaaDoor
