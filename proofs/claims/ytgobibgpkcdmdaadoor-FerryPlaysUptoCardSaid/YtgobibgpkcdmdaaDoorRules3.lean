/- Rules of the walk, more: a struct out of a slice that came in. -/
import Derived.Test.YtgobibgpkcdmdaaDoorDraw
set_option linter.all false
namespace Go.Proofs.YtgobibgpkcdmdaaDoor
open Go Go.RowKit
section
variable {P : Program} {ops : Array Oper} {Q : Exit → Act → World → Prop} {a : Act} {w w' w0 : World} {rest : List Oper} {v : Value} {L L' : List SProp}
variable {dst : Option Tmp} {ty T : TypeId} {pos : String} {aft : Array Edge} {gd : Option (Nat × Bool)} {x : Operand} {A : Option Addr} {xs : List Value}
theorem wpl_load_rd_agg2 {k n : Nat} {arr : Array Value} (hagg : ∀ w, (isAgg T).run P w = .ok true w) (hs : ∀ w, (sizeOf T).run P w = .ok n w) (hw : Region.wanted ⟨dst, .load T x, ty, pos, aft, gd⟩ (yielded ops a.tmps) = true) (hx : a.eval x = .pointer (some (cellAt A k)))
    (h : Sat w0 L w) (hr : Rd L A xs) (hv : ∀ j, j < n → xs[k + j]? = arr[j]?) (hn : arr.size = n) (hK : wpList P ops Q rest (a.put dst (.agg arr)) w) :
    wpList P ops Q (⟨dst, .load T x, ty, pos, aft, gd⟩ :: rest) a w := wpl_load_rd_agg hagg hs hw hx h hr hn hv hK
theorem wpl_lss3 {t t' : TypeId} {k : IntKind} {y : Operand} {p q : Int} {b : Bool}
    (hw : Region.wanted ⟨dst, .binOp .lss t x y t', ty, pos, aft, gd⟩ (yielded ops a.tmps) = true) (hx : a.eval x = .int k p) (hy : a.eval y = .int k q) (hb : decide (p < q) = b)
    (hK : wpList P ops Q rest (a.put dst (.bool b)) w) : wpList P ops Q (⟨dst, .binOp .lss t x y t', ty, pos, aft, gd⟩ :: rest) a w := by
  subst hb
  refine wpl_value (v := .bool (decide (p < q))) (w' := w) hw ?_ hK
  simp only [execOp, hx, hy]
  simp [go_sem]
theorem wpl_gtr3 {t t' : TypeId} {k : IntKind} {y : Operand} {p q : Int} {b : Bool}
    (hw : Region.wanted ⟨dst, .binOp .gtr t x y t', ty, pos, aft, gd⟩ (yielded ops a.tmps) = true) (hx : a.eval x = .int k p) (hy : a.eval y = .int k q) (hb : decide (q < p) = b)
    (hK : wpList P ops Q rest (a.put dst (.bool b)) w) : wpList P ops Q (⟨dst, .binOp .gtr t x y t', ty, pos, aft, gd⟩ :: rest) a w := by
  subst hb
  refine wpl_value (v := .bool (decide (q < p))) (w' := w) hw ?_ hK
  simp only [execOp, hx, hy]
  simp [go_sem]
theorem wpl_leq3 {t t' : TypeId} {k : IntKind} {y : Operand} {p q : Int} {b : Bool}
    (hw : Region.wanted ⟨dst, .binOp .leq t x y t', ty, pos, aft, gd⟩ (yielded ops a.tmps) = true) (hx : a.eval x = .int k p) (hy : a.eval y = .int k q) (hb : decide (p ≤ q) = b)
    (hK : wpList P ops Q rest (a.put dst (.bool b)) w) : wpList P ops Q (⟨dst, .binOp .leq t x y t', ty, pos, aft, gd⟩ :: rest) a w := by
  subst hb
  refine wpl_value (v := .bool (decide (p ≤ q))) (w' := w) hw ?_ hK
  simp only [execOp, hx, hy]
  simp [go_sem]
theorem wpl_geq3 {t t' : TypeId} {k : IntKind} {y : Operand} {p q : Int} {b : Bool}
    (hw : Region.wanted ⟨dst, .binOp .geq t x y t', ty, pos, aft, gd⟩ (yielded ops a.tmps) = true) (hx : a.eval x = .int k p) (hy : a.eval y = .int k q) (hb : decide (q ≤ p) = b)
    (hK : wpList P ops Q rest (a.put dst (.bool b)) w) : wpList P ops Q (⟨dst, .binOp .geq t x y t', ty, pos, aft, gd⟩ :: rest) a w := by
  subst hb
  refine wpl_value (v := .bool (decide (q ≤ p))) (w' := w) hw ?_ hK
  simp only [execOp, hx, hy]
  simp [go_sem]
theorem wpl_eql3 {t t' : TypeId} {k : IntKind} {y : Operand} {p q : Int} {b : Bool}
    (hw : Region.wanted ⟨dst, .binOp .eql t x y t', ty, pos, aft, gd⟩ (yielded ops a.tmps) = true) (hx : a.eval x = .int k p) (hy : a.eval y = .int k q) (hb : (p == q) = b)
    (hK : wpList P ops Q rest (a.put dst (.bool b)) w) : wpList P ops Q (⟨dst, .binOp .eql t x y t', ty, pos, aft, gd⟩ :: rest) a w := by
  subst hb
  refine wpl_value (v := .bool (p == q)) (w' := w) hw ?_ hK
  simp only [execOp, hx, hy]
  simp [go_sem]
theorem wpl_neq3 {t t' : TypeId} {k : IntKind} {y : Operand} {p q : Int} {b : Bool}
    (hw : Region.wanted ⟨dst, .binOp .neq t x y t', ty, pos, aft, gd⟩ (yielded ops a.tmps) = true) (hx : a.eval x = .int k p) (hy : a.eval y = .int k q) (hb : (p != q) = b)
    (hK : wpList P ops Q rest (a.put dst (.bool b)) w) : wpList P ops Q (⟨dst, .binOp .neq t x y t', ty, pos, aft, gd⟩ :: rest) a w := by
  subst hb
  refine wpl_value (v := .bool (p != q)) (w' := w) hw ?_ hK
  simp only [execOp, hx, hy]
  simp [go_sem]
end
end Go.Proofs.YtgobibgpkcdmdaaDoor
