/- A small separation logic over the heap of the model: an assertion is a list of parts, each with blocks of its own; what is not named is kept. -/
import Derived.WalkKit
import Derived.Deep.Quiet
import Derived.Deep.Draws
set_option linter.all false
namespace Go.Proofs.YtgobibgpkcdmdaaDoor
open Go.RowKit

abbrev Frag := List (Nat × Obj)
def SProp := Frag → Prop

def blk (b : Nat) (o : Obj) : SProp := fun f => f = [(b, o)]
def fact (φ : Prop) : SProp := fun f => φ ∧ f = []
def ex {α : Type} (Φ : α → SProp) : SProp := fun f => ∃ x, Φ x f

inductive Star : List SProp → Frag → Prop where
  | nil : Star [] []
  | cons {A : SProp} {L : List SProp} {f g : Frag} : A f → Star L g → Star (A :: L) (f ++ g)

def star (L : List SProp) : SProp := Star L

structure Sat (w0 : World) (L : List SProp) (w : World) : Prop where
  os : w.os = w0.os
  tape : w.tape = w0.tape
  output : w.output = w0.output
  frag : ∃ f, Star L f ∧ (f.map Prod.fst).Nodup ∧ ∀ p ∈ f, w.heap[p.1]? = some p.2

theorem Star.nil_inv {f : Frag} (h : Star [] f) : f = [] := by cases h; rfl
theorem Star.cons_inv {A : SProp} {L : List SProp} {f : Frag} (h : Star (A :: L) f) : ∃ g k, f = g ++ k ∧ A g ∧ Star L k := by
  cases h with
  | cons a b => exact ⟨_, _, rfl, a, b⟩

theorem Star.perm {L L' : List SProp} (h : L.Perm L') : ∀ {f : Frag}, Star L f → ∃ f', f.Perm f' ∧ Star L' f' := by
  induction h with
  | nil => exact fun h => ⟨_, List.Perm.refl _, h⟩
  | cons x hp ih =>
    intro f h
    obtain ⟨g, k, rfl, hA, hk⟩ := h.cons_inv
    obtain ⟨k', hp', hk'⟩ := ih hk
    exact ⟨g ++ k', hp'.append_left g, .cons hA hk'⟩
  | swap x y l =>
    intro f h
    obtain ⟨g, k, rfl, hA, hk⟩ := h.cons_inv
    obtain ⟨g', k', rfl, hB, hk'⟩ := hk.cons_inv
    refine ⟨g' ++ (g ++ k'), ?_, .cons hB (.cons hA hk')⟩
    rw [← List.append_assoc, ← List.append_assoc]
    exact (List.perm_append_comm).append_right k'
  | trans _ _ ih1 ih2 =>
    intro f h
    obtain ⟨f1, p1, h1⟩ := ih1 h
    obtain ⟨f2, p2, h2⟩ := ih2 h1
    exact ⟨f2, p1.trans p2, h2⟩

theorem Star.append_iff {L M : List SProp} {f : Frag} : Star (L ++ M) f ↔ ∃ g k, f = g ++ k ∧ Star L g ∧ Star M k := by
  induction L generalizing f with
  | nil => exact ⟨fun h => ⟨[], f, rfl, .nil, h⟩, fun ⟨g, k, e, h1, h2⟩ => by rw [h1.nil_inv] at e; subst e; exact h2⟩
  | cons A L ih =>
    constructor
    · intro h
      obtain ⟨g, k, rfl, hA, hk⟩ := Star.cons_inv h
      obtain ⟨g', k', rfl, h1, h2⟩ := ih.1 hk
      exact ⟨g ++ g', k', by rw [List.append_assoc], .cons hA h1, h2⟩
    · rintro ⟨g, k, rfl, h1, h2⟩
      obtain ⟨g1, g2, rfl, hA, h3⟩ := h1.cons_inv
      rw [List.append_assoc]
      exact .cons hA (ih.2 ⟨g2, k, rfl, h3, h2⟩)

section
variable {w0 w : World} {L M : List SProp} {A B : SProp}

theorem Sat.perm (h : Sat w0 L w) (p : L.Perm M) : Sat w0 M w := by
  obtain ⟨f, hs, hn, hm⟩ := h.frag
  obtain ⟨f', hp, hs'⟩ := hs.perm p
  exact ⟨h.os, h.tape, h.output, f', hs', (hp.map _).nodup_iff.1 hn, fun q hq => hm q (hp.mem_iff.2 hq)⟩

theorem Sat.drop (h : Sat w0 (A :: L) w) : Sat w0 L w := by
  obtain ⟨f, hs, hn, hm⟩ := h.frag
  obtain ⟨g, k, rfl, _, hk⟩ := hs.cons_inv
  rw [List.map_append] at hn
  exact ⟨h.os, h.tape, h.output, k, hk, (List.nodup_append.1 hn).2.1, fun q hq => hm q (List.mem_append_right _ hq)⟩

/-- The head's part is told otherwise. -/
theorem Sat.head (h : Sat w0 (A :: L) w) (hA : ∀ f, A f → Star M f) : Sat w0 (M ++ L) w := by
  obtain ⟨f, hs, hn, hm⟩ := h.frag
  obtain ⟨g, k, rfl, hg, hk⟩ := hs.cons_inv
  exact ⟨h.os, h.tape, h.output, g ++ k, Star.append_iff.2 ⟨g, k, rfl, hA _ hg, hk⟩, hn, hm⟩
theorem Sat.fold (h : Sat w0 (M ++ L) w) (hA : ∀ f, Star M f → A f) : Sat w0 (A :: L) w := by
  obtain ⟨f, hs, hn, hm⟩ := h.frag
  obtain ⟨g, k, rfl, hg, hk⟩ := Star.append_iff.1 hs
  exact ⟨h.os, h.tape, h.output, g ++ k, .cons (hA _ hg) hk, hn, hm⟩
theorem Sat.imp (h : Sat w0 (A :: L) w) (hA : ∀ f, A f → B f) : Sat w0 (B :: L) w := by
  obtain ⟨f, hs, hn, hm⟩ := h.frag
  obtain ⟨g, k, rfl, hg, hk⟩ := hs.cons_inv
  exact ⟨h.os, h.tape, h.output, g ++ k, .cons (hA _ hg) hk, hn, hm⟩

theorem Sat.star_iff : Sat w0 (star M :: L) w ↔ Sat w0 (M ++ L) w := ⟨fun h => h.head fun _ h => h, fun h => h.fold fun _ h => h⟩
theorem Sat.ex_iff {α : Type} {Φ : α → SProp} : Sat w0 (ex Φ :: L) w ↔ ∃ x, Sat w0 (Φ x :: L) w := by
  constructor
  · intro h
    obtain ⟨f, hs, hn, hm⟩ := h.frag
    obtain ⟨g, k, rfl, ⟨x, hg⟩, hk⟩ := hs.cons_inv
    exact ⟨x, h.os, h.tape, h.output, g ++ k, .cons hg hk, hn, hm⟩
  · rintro ⟨x, h⟩
    exact h.imp fun _ hf => ⟨x, hf⟩
theorem Sat.fact_iff {φ : Prop} : Sat w0 (fact φ :: L) w ↔ φ ∧ Sat w0 L w := by
  constructor
  · intro h
    refine ⟨?_, h.drop⟩
    obtain ⟨f, hs, hn, hm⟩ := h.frag
    obtain ⟨g, k, rfl, ⟨hφ, _⟩, hk⟩ := hs.cons_inv
    exact hφ
  · rintro ⟨hφ, h⟩
    obtain ⟨f, hs, hn, hm⟩ := h.frag
    exact ⟨h.os, h.tape, h.output, [] ++ f, .cons ⟨hφ, rfl⟩ hs, hn, hm⟩
/-- A fact that the head's part bears. -/
theorem Sat.fact_of (h : Sat w0 (A :: L) w) {φ : Prop} (hA : ∀ f, A f → φ) : φ := by
  obtain ⟨f, hs, hn, hm⟩ := h.frag
  obtain ⟨g, k, rfl, hg, hk⟩ := hs.cons_inv
  exact hA _ hg
theorem Sat.heap {b : Nat} {o : Obj} (h : Sat w0 (blk b o :: L) w) : w.heap[b]? = some o := by
  obtain ⟨f, hs, hn, hm⟩ := h.frag
  obtain ⟨g, k, rfl, hg, hk⟩ := hs.cons_inv
  have hg' : g = [(b, o)] := hg
  subst hg'
  exact hm (b, o) (List.mem_append_left _ (by simp))
theorem Sat.blk_ne {b c : Nat} {o p : Obj} (h : Sat w0 (blk b o :: blk c p :: L) w) : b ≠ c := by
  obtain ⟨f, hs, hn, hm⟩ := h.frag
  obtain ⟨g, k, rfl, hg, hk⟩ := hs.cons_inv
  obtain ⟨g', k', rfl, hg', hk'⟩ := hk.cons_inv
  have e1 : g = [(b, o)] := hg
  have e2 : g' = [(c, p)] := hg'
  subst e1 e2
  rintro rfl
  simp at hn
end

/-! ### A part out of the list -/
inductive Pull : SProp → List SProp → List SProp → Prop where
  | here {A : SProp} {L : List SProp} : Pull A (A :: L) L
  | there {A B : SProp} {L L' : List SProp} : Pull A L L' → Pull A (B :: L) (B :: L')
theorem pH {A : SProp} {L : List SProp} : Pull A (A :: L) L := .here
theorem pT {A B : SProp} {L L' : List SProp} (p : Pull A L L') : Pull A (B :: L) (B :: L') := .there p
theorem zqa {α : Type _} (l : List α) (i : Nat) (a : α) : l.toArray.setIfInBounds i a = (l.set i a).toArray := List.setIfInBounds_toArray l i a
theorem zqb {α : Type _} {x : α} {xs : List α} {a : α} : (x :: xs).set 0 a = a :: xs := rfl
theorem zqc {α : Type _} {x : α} {xs : List α} {i : Nat} {a : α} : (x :: xs).set (i + 1) a = x :: xs.set i a := rfl
theorem zqd (n : Nat) : (n : Int).toNat = n := rfl
theorem zqe (n : Nat) : n * 1 = n := Nat.mul_one n
theorem zqf {α : Type _} {xs : List α} {i : Nat} : xs.toArray[i]? = xs[i]? := List.getElem?_toArray
theorem zqg {α : Type _} {a : α} {i : Nat} {l : List α} : (a :: l)[i + 1]? = l[i]? := List.getElem?_cons_succ
theorem zqh {α : Type _} {a : α} {l : List α} : (a :: l)[0]? = some a := List.getElem?_cons_zero
theorem zqi {α : Type _} {l : List α} {start stop : Nat} : l.toArray.extract start stop = (l.extract start stop).toArray := List.extract_toArray
theorem zqj {α : Type _} {l : List α} {start stop : Nat} : l.extract start stop = List.take (stop - start) (List.drop start l) := List.extract_eq_take_drop
theorem zqk {α : Type _} {a : α} {l : List α} {i : Nat} : List.drop (i + 1) (a :: l) = List.drop i l := rfl
theorem zql {α : Type _} {l : List α} : List.drop 0 l = l := rfl
theorem zqm {α : Type _} {a : α} {as : List α} {i : Nat} : List.take (i + 1) (a :: as) = a :: List.take i as := rfl
theorem zqn {α : Type _} {l : List α} : List.take 0 l = [] := rfl
theorem Pull.perm {A : SProp} {L L' : List SProp} (p : Pull A L L') : L.Perm (A :: L') := by
  induction p with
  | here => exact List.Perm.refl _
  | there p ih => exact (ih.cons _).trans (List.Perm.swap _ _ _)
section
variable {w0 w : World} {L L' M : List SProp} {A B : SProp}
theorem Sat.pull (h : Sat w0 L w) (p : Pull A L L') : Sat w0 (A :: L') w := h.perm p.perm
theorem Sat.push (h : Sat w0 (A :: L') w) (p : Pull A L L') : Sat w0 L w := h.perm p.perm.symm
theorem Sat.swap {B : SProp} (h : Sat w0 (A :: B :: L) w) : Sat w0 (B :: A :: L) w := h.perm (List.Perm.swap ..)
theorem Sat.heap_of (h : Sat w0 L w) {b : Nat} {o : Obj} (p : Pull (blk b o) L L') : w.heap[b]? = some o := (h.pull p).heap
end

/-! ### Steps of memory -/
section
variable {w0 w w' : World} {L L' M : List SProp} {A B : SProp} {b : Nat} {o o' : Obj}
theorem Sat.kept (h : Sat w0 L w) (hos : w'.os = w.os) (ht : w'.tape = w.tape) (ho : w'.output = w.output)
    (hk : ∀ k, k < w.heap.size → w'.heap[k]? = w.heap[k]?) : Sat w0 L w' := by
  obtain ⟨f, hs, hn, hm⟩ := h.frag
  refine ⟨hos.trans h.os, ht.trans h.tape, ho.trans h.output, f, hs, hn, fun p hp => ?_⟩
  have hb := hm p hp
  rw [hk p.1 (Array.getElem?_eq_some_iff.1 hb).1]
  exact hb
theorem Sat.drew (h : Sat w0 L w) : Sat w0 L w.drew := h.kept rfl rfl rfl fun _ _ => rfl
theorem Sat.drewN (h : Sat w0 L w) (n : Nat) : Sat w0 L (w.drewN n) := h.kept rfl rfl rfl fun _ _ => rfl
theorem Sat.drawn (h : Sat w0 L w) (n : Nat) : Sat w0 L { w with drawn := n } := h.kept rfl rfl rfl fun _ _ => rfl
theorem Sat.change (h : Sat w0 (blk b o :: L) w) (hos : w'.os = w.os) (ht : w'.tape = w.tape) (ho : w'.output = w.output)
    (hb : w'.heap[b]? = some o') (hk : ∀ k, k < w.heap.size → k ≠ b → w'.heap[k]? = w.heap[k]?) : Sat w0 (blk b o' :: L) w' := by
  obtain ⟨f, hs, hn, hm⟩ := h.frag
  obtain ⟨g, k, rfl, hg, hs'⟩ := hs.cons_inv
  have e1 : g = [(b, o)] := hg
  subst e1
  refine ⟨hos.trans h.os, ht.trans h.tape, ho.trans h.output, [(b, o')] ++ k, .cons rfl hs', by simpa using hn, fun p hp => ?_⟩
  rcases List.mem_append.1 hp with hp | hp
  · simp only [List.mem_singleton] at hp
    subst hp
    exact hb
  · have hb' := hm p (List.mem_append_right _ hp)
    rw [hk p.1 (Array.getElem?_eq_some_iff.1 hb').1 ?_]
    · exact hb'
    · rintro e
      simp only [List.singleton_append, List.map_cons, List.nodup_cons, List.mem_map] at hn
      exact hn.1 ⟨p, hp, e⟩
theorem Sat.new (h : Sat w0 L w) (hos : w'.os = w.os) (ht : w'.tape = w.tape) (ho : w'.output = w.output) (hsz : w.heap.size ≤ b)
    (hb : w'.heap[b]? = some o) (hk : ∀ k, k < w.heap.size → w'.heap[k]? = w.heap[k]?) : Sat w0 (blk b o :: L) w' := by
  obtain ⟨f, hs, hn, hm⟩ := h.frag
  refine ⟨hos.trans h.os, ht.trans h.tape, ho.trans h.output, [(b, o)] ++ f, .cons rfl hs, ?_, fun p hp => ?_⟩
  · simp only [List.singleton_append, List.map_cons, List.nodup_cons]
    refine ⟨fun hmem => ?_, hn⟩
    obtain ⟨p, hp, e⟩ := List.mem_map.1 hmem
    have := (Array.getElem?_eq_some_iff.1 (hm p hp)).1
    omega
  · rcases List.mem_append.1 hp with hp | hp
    · simp only [List.mem_singleton] at hp
      subst hp
      exact hb
    · have hb' := hm p hp
      rw [hk p.1 (Array.getElem?_eq_some_iff.1 hb').1]
      exact hb'
theorem Sat.alloc (h : Sat w0 L w) (o : Obj) : Sat w0 (blk w.heap.size o :: L) (w.alloc o) :=
  h.new rfl rfl rfl (Nat.le_refl _) (Go.heap_alloc_new w o) fun k hk => Below.heap_alloc w o k hk
theorem Sat.setCell {cs : Array Value} {T : TypeId} (h : Sat w0 (blk b (.cells cs T (0, 0)) :: L) w) (i : Nat) (v : Value) :
    Sat w0 (blk b (.cells (cs.setIfInBounds i v) T (0, 0)) :: L) (w.setCell ⟨b, i, none⟩ v) :=
  h.change rfl rfl rfl (heap_setCell_same w b i cs T v h.heap) fun k _ hk => heap_setCell_other w _ k v hk
theorem Sat.setRow {cs ds : Array Value} {T : TypeId} {fr : Nat × Nat} (h : Sat w0 (blk b (.cells cs T fr) :: L) w) :
    Sat w0 (blk b (.cells ds T fr) :: L) (w.setRow b ds) :=
  h.change rfl rfl rfl (setRow_heap w b cs ds T fr h.heap) fun k _ hk => setRow_other w b k ds hk
theorem Sat.cell {cs : Array Value} {T : TypeId} {fr : Nat × Nat} (h : Sat w0 L w) (p : Pull (blk b (.cells cs T fr)) L L') (i : Nat) : w.cell? ⟨b, i, none⟩ = cs[i]? :=
  cell_of_row w b i cs T fr (h.heap_of p)
theorem Sat.unfrozen {cs : Array Value} {T : TypeId} (h : Sat w0 L w) (p : Pull (blk b (.cells cs T (0, 0))) L L') (i : Nat) : w.frozen? ⟨b, i, none⟩ = false :=
  frozen_of_row w b i cs T (h.heap_of p)
end
end Go.Proofs.YtgobibgpkcdmdaaDoor
