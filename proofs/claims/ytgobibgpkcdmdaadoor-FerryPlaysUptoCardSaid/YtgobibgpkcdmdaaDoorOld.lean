/- What was there before the call, as a part of an assertion; arguments read as data; the table of forms. -/
import Derived.Test.YtgobibgpkcdmdaaDoorWShips
import Derived.Test.YtgobibgpkcdmdaaDoorRows
import Derived.WalkKit
import Derived.ProofKit
import Derived.OpenShut
import Derived.LaidMore
import Derived.LaidOnce
import Derived.SevenBeyond
import Derived.Stop.Joined
import Derived.Deep.DeepHandedRow
set_option linter.all false
namespace Go.Proofs.YtgobibgpkcdmdaaDoor
open Go Go.RowKit Go.ChangeShapes Go.WideShapes Go.ChangeAt
/-- All blocks of W, as they are. -/
def oldP (W : World) : SProp := fun f => f = (List.range W.heap.size).map fun b => (b, W.heap.getD b (.cells #[] 0))
theorem old_start (W : World) : Sat W [oldP W] W := by
  refine ⟨rfl, rfl, rfl, _ ++ [], .cons rfl .nil, ?_, fun p hp => ?_⟩
  · rw [List.append_nil, List.map_map]
    have : (Prod.fst ∘ fun b => (b, W.heap.getD b (.cells #[] 0))) = id := rfl
    rw [this, List.map_id]
    exact List.nodup_range
  · rw [List.append_nil] at hp
    obtain ⟨b, hb, rfl⟩ := List.mem_map.1 hp
    have hb := List.mem_range.1 hb
    show W.heap[b]? = some (W.heap.getD b (.cells #[] 0))
    rw [Array.getElem?_eq_getElem hb]
    simp [Array.getD, hb]
section
variable {W w0 w : World} {L L' : List SProp}
theorem old_heap (h : Sat w0 L w) (p : Pull (oldP W) L L') {b : Nat} (hb : b < W.heap.size) : w.heap[b]? = W.heap[b]? := by
  obtain ⟨f, hs, hn, hm⟩ := (h.pull p).frag
  obtain ⟨g, k, rfl, hg, hk⟩ := hs.cons_inv
  have hg' : g = (List.range W.heap.size).map fun b => (b, W.heap.getD b (.cells #[] 0)) := hg
  subst hg'
  have := hm (b, W.heap.getD b (.cells #[] 0)) (List.mem_append_left _ (List.mem_map.2 ⟨b, List.mem_range.2 hb, rfl⟩))
  rw [this, Array.getElem?_eq_getElem hb]
  simp [Array.getD, hb]
theorem old_below (h : Sat W L w) (p : Pull (oldP W) L L') : Below W.heap.size W w := by
  refine ⟨h.os, h.tape, h.output, ?_, fun k hk => old_heap h p hk⟩
  by_cases hz : W.heap.size = 0
  · omega
  · have := old_heap h p (b := W.heap.size - 1) (by omega)
    have h2 : W.heap[W.heap.size - 1]? = some (W.heap[W.heap.size - 1]'(by omega)) := Array.getElem?_eq_getElem _
    rw [h2] at this
    have := (Array.getElem?_eq_some_iff.1 this).1
    omega
theorem old_cell (h : Sat w0 L w) (p : Pull (oldP W) L L') {a : Addr} {v : Value} (hv : W.cell? a = some v) : w.cell? a = some v := by
  by_cases hb : a.block < W.heap.size
  · unfold World.cell? at hv ⊢
    rw [old_heap h p hb]
    exact hv
  · unfold World.cell? at hv
    rw [Array.getElem?_eq_none (by omega)] at hv
    cases hv
theorem Rd.old {ad : Addr} {xs : List Value} (p : Pull (oldP W) L L') (hx : ∀ j v, xs[j]? = some v → W.cell? (ad.add j) = some v) : Rd L (some ad) xs := fun w0 w h =>
  .inr ⟨ad, rfl, fun j v hv => old_cell h p (hx j v hv)⟩
/-- A slice of plain integers that came in. -/
theorem open_nums {H : Type} {enc : TypeId × Value → H} {P : Program} {t e : TypeId} {k : IntKind} {v : Value} {d : DataW H} {ps : List MemPlace} {r : Reach} {b0 : Nat} (ht : P.underlying t = some (.slice e)) (he : P.underlying e = some (.int k)) (hc : P.cellsOf e = 1)
    (hval : Value.okWide P W r b0 t v) (hd : DataW.Trod enc P W 0 (fun _ => true) true t v d ps) :
    ∃ (A : Option Addr) (c : Nat) (zs : List Int), v = .slice A zs.length c ∧ zs.length ≤ c ∧ (∀ n ∈ zs, (Lit.int k n).wf = true) ∧ (∀ {L L' : List SProp}, Pull (oldP W) L L' → Rd L A (zs.map (Value.int k))) ∧
      (d = .nil ∧ c = 0 ∨ ∃ es sp : List (DataW H), d = .slice es sp ∧ es.length + sp.length = c) := by
  obtain ⟨fuel, hf⟩ := hd
  obtain ⟨A, n, c, rfl⟩ := okWide_slice ht hval
  rcases open_ints ht he hc hf with ⟨h, hx⟩ | ⟨a, len, cap, zs, h, _, h2, h3, h4, hx, h6, h7⟩
  · simp [Value.cells] at h
    obtain ⟨rfl, rfl, rfl⟩ := h
    refine ⟨none, 0, [], rfl, Nat.le_refl _, by simp, fun _ => Rd.nil, .inl ⟨?_, rfl⟩⟩
    simpa using congrArg Prod.fst hx
  · simp [Value.cells] at h
    obtain ⟨rfl, rfl, rfl⟩ := h
    rw [if_pos rfl] at h4
    refine ⟨some a, c, zs.take n, ?_, ?_, fun x hx => h7 x (List.mem_of_mem_take hx), fun p => Rd.old p fun j v hv => ?_, .inr ⟨_, _, congrArg Prod.fst hx, ?_⟩⟩
    · rw [List.length_take, h4, Nat.min_eq_left h2]
    · rw [List.length_take]; omega
    · rw [List.getElem?_map, List.getElem?_take] at hv
      split at hv
      · cases hz : zs[j]? with
        | none => rw [hz] at hv; cases hv
        | some z =>
          rw [hz] at hv
          have hj := (List.getElem?_eq_some_iff.1 hz).1
          rw [h6 j hj, List.getD_eq_getElem?_getD, hz]
          exact hv
      · cases hv
    · simp only [lits, List.length_map, List.length_take, List.length_drop]
      omega
theorem u8_list (zs : List Int) (h : ∀ n ∈ zs, (Lit.int .u8 n).wf = true) : ∃ l : List UInt8, l.length = zs.length ∧ zs.map (Value.int .u8) = bv l := by
  induction zs with
  | nil => exact ⟨[], rfl, rfl⟩
  | cons z zs ih =>
    obtain ⟨l, hl, e⟩ := ih fun n hn => h n (List.mem_cons_of_mem _ hn)
    have hz := h z (List.mem_cons_self ..)
    have hz2 : 0 ≤ z ∧ z < 256 := by
      simp [Lit.wf] at hz
      have e1 : IntKind.u8.min = 0 := rfl
      have e2 : IntKind.u8.max = 255 := rfl
      omega
    refine ⟨UInt8.ofNat z.toNat :: l, by simp [hl], ?_⟩
    rw [List.map_cons, e]
    simp only [bv, List.map_cons, List.cons.injEq, and_true, Value.int.injEq, true_and]
    rw [UInt8.toNat_ofNat']
    omega
/-- A slice of bytes that came in. -/
theorem open_bytes {H : Type} {enc : TypeId × Value → H} {P : Program} {t e : TypeId} {v : Value} {d : DataW H} {ps : List MemPlace} {r : Reach} {b0 : Nat} (ht : P.underlying t = some (.slice e)) (he : P.underlying e = some (.int .u8)) (hc : P.cellsOf e = 1)
    (hval : Value.okWide P W r b0 t v) (hd : DataW.Trod enc P W 0 (fun _ => true) true t v d ps) :
    ∃ (A : Option Addr) (c : Nat) (l : List UInt8), v = .slice A l.length c ∧ l.length ≤ c ∧ (∀ {L L' : List SProp}, Pull (oldP W) L L' → Rd L A (bv l)) ∧
      (d = .nil ∧ c = 0 ∨ ∃ es sp : List (DataW H), d = .slice es sp ∧ es.length + sp.length = c) := by
  obtain ⟨A, c, zs, rfl, h1, h2, h3, h4⟩ := open_nums ht he hc hval hd
  obtain ⟨l, hl, e⟩ := u8_list zs h2
  exact ⟨A, c, l, by rw [hl], by rw [hl]; exact h1, fun p => by rw [← e]; exact h3 p, h4⟩
/-- The room of a slice that came in, by the form's reach. -/
theorem reach_slice {H : Type} {P : Program} {ts : List TypeId} {ds : List (DataW H)} (h : (DataW.weightsEach P ts ds).all (· ≤ reachBytes) = true) {j : Nat} {t e : TypeId} {c b : Nat} {d : DataW H} (ht : ts[j]? = some t) (hd : ds[j]? = some d) (hu : P.underlying t = some (.slice e)) (hb : P.bytesOf e = b)
    (hx : d = .nil ∧ c = 0 ∨ ∃ es sp : List (DataW H), d = .slice es sp ∧ es.length + sp.length = c) : c * b ≤ 140737488351232 := by
  rcases hx with ⟨_, rfl⟩ | ⟨es, sp, rfl, rfl⟩
  · omega
  · have := sized_slice h ht hd hu
    rw [hb] at this
    exact this
end
/-- What the list gives of the table of forms. -/
theorem forms_of_laid {l : List (String × DataW Unit)} {W : World} (h : laidMetH Tryd.prog l W) (hm : ("amber/ferry.forms", Rows.laid_amber_ferry_forms) ∈ l) :
    W.cell? ⟨10, 1, none⟩ = some (.func (.func 244) #[] #[]) ∧ W.cell? ⟨10, 2, none⟩ = some (.func (.func 245) #[] #[]) := by
  obtain ⟨g, t, cs, fuel, p, hg, ht, hv, hd⟩ := h.funcs hm
  obtain rfl := Option.some.inj ((show Tryd.prog.globalNamed "amber/ferry.forms" = some 10 by kernel_rfl).symm.trans hg)
  obtain rfl := Option.some.inj ((show (Tryd.prog.globals[10]?).map (·.type) = some 218 by kernel_rfl).symm.trans ht)
  have hu : Tryd.prog.underlying 218 = some (.array 3 217) := Tryd.underlying218
  obtain ⟨xs, n, rfl, hx, hcl, hxl, hel⟩ := DataW.trod_array hu hd
  have hx1 : (DataW.agg [DataW.agg [DataW.nil], DataW.agg [.held [97, 109, 98, 101, 114, 47, 102, 101, 114, 114, 121, 46, 102, 111, 114, 109, 115, 36, 49]], DataW.agg [.held [97, 109, 98, 101, 114, 47, 102, 101, 114, 114, 121, 46, 102, 111, 114, 109, 115, 36, 50]]] : DataW (List UInt8)) = .agg (xs.map (·.1)) := congrArg Prod.fst hx
  have hc1 : Tryd.prog.cellsOf 217 = 1 := by kernel_rfl
  have hc3 : Tryd.prog.cellsOf 218 = 3 := by kernel_rfl
  rw [hc3] at hcl
  obtain ⟨c0, c1, c2, hcs⟩ : ∃ c0 c1 c2, cs.toList = [c0, c1, c2] := by
    match hm : cs.toList, hcl with
    | [a, b, c], _ => exact ⟨a, b, c, rfl⟩
  obtain ⟨y0, y1, y2, rfl⟩ : ∃ y0 y1 y2, xs = [y0, y1, y2] := by
    match xs, hxl with
    | [a, b, c], _ => exact ⟨a, b, c, rfl⟩
  simp only [List.map_cons, List.map_nil, DataW.agg.injEq, List.cons.injEq, and_true] at hx1
  obtain ⟨_, hy1, hy2⟩ := hx1
  have e1 := hel 1 (by decide)
  have e2 := hel 2 (by decide)
  rw [hc1, hcs] at e1 e2
  have one : ∀ (c : Value) (b : UInt8) (r : List UInt8) (y : DataW (List UInt8) × List MemPlace) (f0 : FuncId), ((List.range Tryd.prog.funcs.size).filter fun f => (Tryd.prog.funcs[f]?).any (·.name.toUTF8.data.toList == b :: r)) = [f0] →
      DataW.agg [.held (b :: r)] = y.1 → DataW.trod (funcToken Tryd.prog) Tryd.prog W 0 (fun _ => true) true n 217 [c] = some y → c = .func (.func f0) #[] #[] := by
    intro c b r y f0 hone hy h
    have hu2 : Tryd.prog.underlying 217 = some (.struct #[⟨ "good", 216, 0, false, "", "amber/ferry", 0⟩]) := Tryd.underlying217
    obtain ⟨zs, m, rfl, hz, hzc, hzl, hzel⟩ := DataW.trod_struct hu2 h
    obtain ⟨z, rfl⟩ : ∃ z, zs = [z] := by
      match zs, hzl with
      | [a], _ => exact ⟨a, rfl⟩
    have h0 := hzel 0 _ (by simp; rfl)
    dsimp only at h0
    have hcf : Tryd.prog.cellsOf 216 = 1 := by kernel_rfl
    rw [hcf] at h0
    rw [hz] at hy
    simp only [List.map_cons, List.map_nil, DataW.agg.injEq, List.cons.injEq, and_true] at hy
    refine func_of_trod (q := z.2) (fuel := m) (sp := fun _ => true) (base := 0) (w := W) Tryd.underlying216 hone ?_
    have h1 : DataW.trod (funcToken Tryd.prog) Tryd.prog W 0 (fun _ => true) true m 216 [c] = some (z.1, z.2) := h0
    rw [← hy] at h1
    exact h1
  have f1 := one c1 97 _ y1 244 (by kernel_rfl) hy1 e1
  have f2 := one c2 97 _ y2 245 (by kernel_rfl) hy2 e2
  have g1 := World.var?_cell hg hv 1
  have g2 := World.var?_cell hg hv 2
  have k1 : cs[1]? = some c1 := by rw [← Array.getElem?_toList, hcs]; rfl
  have k2 : cs[2]? = some c2 := by rw [← Array.getElem?_toList, hcs]; rfl
  rw [k1] at g1
  rw [k2] at g2
  exact ⟨by rw [g1, f1], by rw [g2, f2]⟩
theorem forms_in {l : List (String × DataW Unit)} {W : World} (h : laidMetH Tryd.prog l W) (hm : ("amber/ferry.forms", Rows.laid_amber_ferry_forms) ∈ l) : FormsIn [oldP W] := by
  obtain ⟨h1, h2⟩ := forms_of_laid h hm
  refine ⟨Rd.old .here fun j v hv => ?_, Rd.old .here fun j v hv => ?_⟩
  · cases j with
    | zero => simp at hv; subst hv; simpa [Addr.add] using h1
    | succ j => simp at hv
  · cases j with
    | zero => simp at hv; subst hv; simpa [Addr.add] using h2
    | succ j => simp at hv
end Go.Proofs.YtgobibgpkcdmdaaDoor
