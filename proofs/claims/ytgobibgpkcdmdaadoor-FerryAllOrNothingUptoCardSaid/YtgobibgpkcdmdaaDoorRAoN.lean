/- For every cargo and all moves of a line (together at most 1048576 values and letters) the law FerryAllOrNothing answers true and leaves its arguments as they were; the row lists the table of forms (amber/ferry.forms), which the card ties to the program's text. -/
import Derived.Test.YtgobibgpkcdmdaaDoorFlatMv
import Derived.Test.YtgobibgpkcdmdaaDoorBulk
import Derived.Test.YtgobibgpkcdmdaaDoorRAoNF
set_option linter.all false
namespace Go.Proofs.YtgobibgpkcdmdaaDoor.ferryAllOrNothingUpto
open Go Go.RowKit Go.ChangeShapes Go.WideShapes Go.ChangeAt
set_option maxRecDepth 100000
theorem laid_met (os : Os) : laidMetH Tryd.prog Rows.ferryAllOrNothingUptoRow.laid ((door os).forCall (fun _ _ => 0) ⟨#[], #[.slice none 0 0, .slice none 0 0], []⟩).memory :=
  laidMetH_of_parts3 (fuel := 8) (laidMet_of_run' 8 (by kernel_rfl) (by kernel_rfl)) (by kernel_rfl) (by kernel_rfl)
theorem reads (os : Os) {H : Type} (enc : TypeId × Value → H) : ∃ places, DataW.whole enc Tryd.prog ((door os).forCall (fun _ _ => 0) ⟨#[], #[.slice none 0 0, .slice none 0 0], []⟩).memory Tryd.f4.params.toList (Rows.OpenSpec.upto Rows.ferryAllOrNothingSpec).vars false (#[.slice none 0 0, .slice none 0 0] : Array Value).toList 8 = some ([.nil, .nil], [], places) :=
  ⟨[], by kernel_rfl⟩
theorem lifted (os : Os) (started : os.Started) (H : Type) (enc : TypeId × Value → H) (F : Stop.Interp) :
    ReturnsInHanded {} Tryd.checked os 4 .any ((Rows.OpenSpec.upto Rows.ferryAllOrNothingSpec).preRow enc Tryd.prog Tryd.f4 Rows.ferryAllOrNothingUptoRow.domain false Rows.ferryAllOrNothingUptoRow.laid) (((Rows.OpenSpec.upto Rows.ferryAllOrNothingSpec).at F).post enc Tryd.prog Tryd.f4 false true false false) := by
  obtain ⟨places, hx⟩ := reads os enc
  refine returnsInHanded_of_row (C := Tryd.checked) (s := Rows.OpenSpec.upto Rows.ferryAllOrNothingSpec) ownK started (by kernel_rfl) Tryd.func4
    (witness_row_atRef (enc := enc) (C := Tryd.checked) false (door os) #[.slice none 0 0, .slice none 0 0] rfl (by kernel_rfl) (by kernel_rfl) (by kernel_rfl)
      (OpenSpec.preRow_of_cond 8 hx (by kernel_rfl) (fun k hk => by cases hk; kernel_rfl) (by kernel_rfl) (laid_met os))) ?_
  intro W base args ds gs before hval hW _ hcond hsz hL _ _
  have hW' := hW
  obtain ⟨p, q, hA0, hV, rfl, hfz, hnd⟩ := hW
  have hA : DataW.TrodAll enc Tryd.prog W 0 (fun _ => true) true Tryd.f4.params.toList args.toList ds p := hA0
  have hsz2 : (DataW.weightsEach Tryd.prog (Tryd.f4.params.toList ++ []) (ds ++ gs)).all (· ≤ reachBytes) = true := hsz
  have hval2 : ∀ (j : Nat) t v, Tryd.f4.params[j]? = some t → args[j]? = some v → Value.okWide Tryd.prog W .any base t v := hval
  rw [Tryd.params4] at hA hval2 hsz2
  obtain ⟨v0, v1, d0, d1, p0, p1, rfl, rfl, rfl, h0, h1⟩ := trodAll_two hA
  obtain ⟨rfl, rfl⟩ := trodVars_none hV
  have hbulk : Rows.uptoSmall H _ = true := hcond _ rfl
  obtain ⟨A, c, l, rfl, hl, hr, hd⟩ := open_bytes Tryd.underlying37 Tryd.underlying5 (by kernel_rfl) (hval2 0 _ _ rfl rfl) h0
  have hc := reach_slice (P := Tryd.prog) (j := 0) hsz2 rfl rfl Tryd.underlying37 (b := 1) (by kernel_rfl) hd
  obtain ⟨MA, mm, mc, mxs, rfl, hmc, hmx, hmf, hmr, hdm⟩ := open_flat (ks := [.i .i64, .i .i64, .i .i64, .i .u32]) (n := 4) (s := 4) Tryd.underlying43 (by kernel_rfl) (by kernel_rfl) (hval2 1 _ _ rfl rfl) h1
  obtain ⟨mvs, hml, rfl, hmo⟩ := flat_list (ok := fun m : Mv => m.mask < 4294967296) (f := Mv.v) mv_of mm mxs hmx hmf
  subst hml
  have hms : mvs.length ≤ 1048576 := by
    rcases hdm with ⟨_, h⟩ | ⟨es, sp, rfl, h⟩
    · omega
    · have := bulks.slice (es := es) (sp := sp) hbulk (by simp)
      omega
  refine (allOrNothing_spec (l := l) (mvs := mvs) hl (by omega) (by omega) hmo (hr .here) (hmr .here) (forms_in hL (by simp [Rows.ferryAllOrNothingUptoRow])) (old_start W)).mono fun e W' ⟨he, hS⟩ => ?_
  subst he
  exact ⟨_, rfl, post_law (P := Tryd.prog) (T := 4) laidOut (by kernel_rfl) (by kernel_rfl) Tryd.underlying4 rfl hW' (fun _ _ => rfl) (old_below hS .here)⟩
theorem said : Rows.FerryAllOrNothingUptoSaid :=
  OpenClaim.holds_of_cond 4 Tryd.f4 rfl rfl rfl rfl rfl rfl rfl ⟨rfl, rfl, rfl, rfl, rfl⟩ rfl rfl rfl rfl rfl (by kernel_rfl) Tryd.func4 facts
    (of_decide_eq_true (by kernel_rfl)) (by unfold Func.isWrapper; first | (rw [if_pos (by decide +kernel)]; kernel_rfl) | (rw [if_neg (by decide +kernel)]; exact ⟨rfl, rfl⟩))
    (fun os started H enc _ F => by rw [OpenClaim.pre_eq_preRow]; exact lifted os started H enc F)
theorem plain (f : FuncId) (fn : Func) (hf : Tryd.pinned.checked.prog.funcNamed "amber/amberlaw22.FerryAllOrNothing" = some f) (hfn : Tryd.pinned.checked.prog.funcs[f]? = some fn) :
    true = Tryd.pinned.checked.prog.looks [] ∧ ∀ (j : Nat) t, fn.params[j]? = some t → Tryd.pinned.checked.prog.wantsStandIn t = false := by
  obtain rfl : f = 4 := Option.some.inj ((show Tryd.prog.funcNamed "amber/amberlaw22.FerryAllOrNothing" = some 4 by kernel_rfl).symm.trans hf) |>.symm
  obtain rfl : fn = Tryd.f4 := (Option.some.inj (Tryd.func4.symm.trans hfn)).symm
  refine ⟨by kernel_rfl, fun j t ht => ?_⟩
  have hm : t ∈ Tryd.f4.params.toList := by simpa using Array.mem_of_getElem? ht
  have hall : (Tryd.f4.params.toList.all fun u => !Tryd.prog.wantsStandIn u) = true := by kernel_rfl
  exact (show Tryd.prog.wantsStandIn t = false by simpa using List.all_eq_true.1 hall t hm)
theorem card : Rows.FerryAllOrNothingUptoCardSaid :=
  Claim7.holds_tied_plain_at .later [] _ _ _ _ said (fun _ h => by cases h) (by kernel_rfl) (fun _ h => by cases h) ferryAllOrNothingUpto_row_tie rfl ⟨rfl, rfl⟩ (by kernel_rfl) rfl plain (by kernel_rfl)
end Go.Proofs.YtgobibgpkcdmdaaDoor.ferryAllOrNothingUpto
namespace Go.Proofs.YtgobibgpkcdmdaaDoor
theorem ferryAllOrNothingUpto_card : Rows.FerryAllOrNothingUptoCardSaid := ferryAllOrNothingUpto.card
end Go.Proofs.YtgobibgpkcdmdaaDoor
