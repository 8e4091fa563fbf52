/- For every cargo, every order and every last part the law FerryAnyOrder answers true and leaves its arguments as they were; the row lists the table of forms (amber/ferry.forms), which the card ties to the program's text. -/
import Derived.Test.YtgobibgpkcdmdaaDoorWAny
import Derived.Test.YtgobibgpkcdmdaaDoorRAnyF
set_option linter.all false
namespace Go.Proofs.YtgobibgpkcdmdaaDoor.anyOrder
open Go Go.RowKit Go.ChangeShapes Go.WideShapes Go.ChangeAt
set_option maxRecDepth 100000
theorem laid_met (os : Os) : laidMetH Tryd.prog Rows.ferryAnyOrderRow.laid ((door os).forCall (fun _ _ => 0) ⟨#[], #[.slice none 0 0, .slice none 0 0, .int .i64 0], []⟩).memory :=
  laidMetH_of_parts3 (fuel := 8) (laidMet_of_run' 8 (by kernel_rfl) (by kernel_rfl)) (by kernel_rfl) (by kernel_rfl)
theorem reads (os : Os) {H : Type} (enc : TypeId × Value → H) : ∃ places, DataW.whole enc Tryd.prog ((door os).forCall (fun _ _ => 0) ⟨#[], #[.slice none 0 0, .slice none 0 0, .int .i64 0], []⟩).memory Tryd.f6.params.toList Rows.ferryAnyOrderSpec.vars false #[Value.slice none 0 0, .slice none 0 0, .int .i64 0].toList 8 = some ([.nil, .nil, .lit (.int .i64 0)], [], places) :=
  ⟨[], by kernel_rfl⟩
theorem lifted (os : Os) (started : os.Started) (H : Type) (enc : TypeId × Value → H) (F : Stop.Interp) :
    ReturnsInHanded {} Tryd.checked os 6 .any ((OpenSpec.ofChange Rows.ferryAnyOrderSpec).preRow enc Tryd.prog Tryd.f6 Rows.ferryAnyOrderRow.domain false Rows.ferryAnyOrderRow.laid) (((OpenSpec.ofChange Rows.ferryAnyOrderSpec).at F).post enc Tryd.prog Tryd.f6 false true false false) := by
  obtain ⟨places, hx⟩ := reads os enc
  refine returnsInHanded_of_row (C := Tryd.checked) (s := OpenSpec.ofChange Rows.ferryAnyOrderSpec) ownK started (by kernel_rfl) Tryd.func6
    (witness_row_atRef (enc := enc) (C := Tryd.checked) false (door os) #[.slice none 0 0, .slice none 0 0, .int .i64 0] rfl (by kernel_rfl) (by kernel_rfl) (by kernel_rfl)
      (OpenSpec.preRow_of_cond 8 hx (by kernel_rfl) (fun k hk => by cases hk) (by kernel_rfl) (laid_met os))) ?_
  intro W base args ds gs before hval hW _ _ hsz hL _ _
  have hW' := hW
  obtain ⟨p, q, hA0, hV, rfl, hfz, hnd⟩ := hW
  have hA : DataW.TrodAll enc Tryd.prog W 0 (fun _ => true) true Tryd.f6.params.toList args.toList ds p := hA0
  have hsz2 : (DataW.weightsEach Tryd.prog (Tryd.f6.params.toList ++ []) (ds ++ gs)).all (· ≤ reachBytes) = true := hsz
  have hval2 : ∀ (j : Nat) t v, Tryd.f6.params[j]? = some t → args[j]? = some v → Value.okWide Tryd.prog W .any base t v := hval
  rw [Tryd.params6] at hA hval2 hsz2
  obtain ⟨v0, v1, v2, d0, d1, d2, p0, p1, p2, rfl, rfl, rfl, h0, h1, h2⟩ := trodAll_three hA
  obtain ⟨rfl, rfl⟩ := trodVars_none hV
  obtain ⟨A, c, l, rfl, hl, hr, hd⟩ := open_bytes Tryd.underlying37 Tryd.underlying5 (by kernel_rfl) (hval2 0 _ _ rfl rfl) h0
  obtain ⟨OA, oc, order, rfl, ho, hw, hro0, hdo⟩ := open_nums Tryd.underlying60 Tryd.underlying3 (by kernel_rfl) (hval2 1 _ _ rfl rfl) h1
  obtain ⟨last, rfl, rfl, rfl, hlw⟩ := open_int Tryd.underlying3 (hval2 2 _ _ rfl rfl) h2
  have hc := reach_slice (P := Tryd.prog) (j := 0) hsz2 rfl rfl Tryd.underlying37 (b := 1) (by kernel_rfl) hd
  have hoc := reach_slice (P := Tryd.prog) (j := 1) hsz2 rfl rfl Tryd.underlying60 (b := 8) (by kernel_rfl) hdo
  refine (anyOrder_spec (l := l) (order := order) (last := last) hl (by omega) (by omega) (hr .here) (hro0 .here) (forms_in hL (by simp [Rows.ferryAnyOrderRow])) (old_start W)).mono fun e W' ⟨he, hS⟩ => ?_
  subst he
  exact ⟨_, rfl, post_law (P := Tryd.prog) (T := 4) laidOut (by kernel_rfl) (by kernel_rfl) Tryd.underlying4 rfl hW' (fun _ _ => rfl) (old_below hS .here)⟩
theorem said : Rows.FerryAnyOrderSaid :=
  OpenClaim.holds_of_cond 6 Tryd.f6 rfl rfl rfl rfl rfl rfl rfl ⟨rfl, rfl, rfl, rfl, rfl⟩ rfl rfl rfl rfl rfl (by kernel_rfl) Tryd.func6 facts
    (of_decide_eq_true (by kernel_rfl)) (by unfold Func.isWrapper; first | (rw [if_pos (by decide +kernel)]; kernel_rfl) | (rw [if_neg (by decide +kernel)]; exact ⟨rfl, rfl⟩))
    (fun os started H enc _ F => by rw [OpenClaim.pre_eq_preRow]; exact lifted os started H enc F)
theorem plain (f : FuncId) (fn : Func) (hf : Tryd.pinned.checked.prog.funcNamed "amber/amberlaw22.FerryAnyOrder" = some f) (hfn : Tryd.pinned.checked.prog.funcs[f]? = some fn) :
    true = Tryd.pinned.checked.prog.looks [] ∧ ∀ (j : Nat) t, fn.params[j]? = some t → Tryd.pinned.checked.prog.wantsStandIn t = false := by
  obtain rfl : f = 6 := Option.some.inj ((show Tryd.prog.funcNamed "amber/amberlaw22.FerryAnyOrder" = some 6 by kernel_rfl).symm.trans hf) |>.symm
  obtain rfl : fn = Tryd.f6 := (Option.some.inj (Tryd.func6.symm.trans hfn)).symm
  refine ⟨by kernel_rfl, fun j t ht => ?_⟩
  have hm : t ∈ Tryd.f6.params.toList := by simpa using Array.mem_of_getElem? ht
  have hall : (Tryd.f6.params.toList.all fun u => !Tryd.prog.wantsStandIn u) = true := by kernel_rfl
  exact (show Tryd.prog.wantsStandIn t = false by simpa using List.all_eq_true.1 hall t hm)
theorem card : Rows.FerryAnyOrderCardSaid :=
  Claim7.holds_tied_plain_at .later [] _ _ _ _ said (fun _ h => by cases h) (by kernel_rfl) (fun _ h => by cases h) ferryAnyOrder_row_tie rfl ⟨rfl, rfl⟩ (by kernel_rfl) rfl plain (by kernel_rfl)
end Go.Proofs.YtgobibgpkcdmdaaDoor.anyOrder
namespace Go.Proofs.YtgobibgpkcdmdaaDoor
theorem ferryAnyOrder_card : Rows.FerryAnyOrderCardSaid := anyOrder.card
end Go.Proofs.YtgobibgpkcdmdaaDoor
