/- For every script of steps with two senders and a receiver (at most 1048576 values and letters) the law FerryPlays answers true and leaves its argument as it was; the row lists the table of forms (amber/ferry.forms), which the card ties to the program's text. -/
import Derived.Test.YtgobibgpkcdmdaaDoorOpenOps
import Derived.Test.YtgobibgpkcdmdaaDoorRPlaysF
set_option linter.all false
namespace Go.Proofs.YtgobibgpkcdmdaaDoor.ferryPlaysUpto
open Go Go.RowKit Go.ChangeShapes Go.WideShapes Go.ChangeAt
set_option maxRecDepth 100000
theorem laid_met (os : Os) : laidMetH Tryd.prog Rows.ferryPlaysUptoRow.laid ((door os).forCall (fun _ _ => 0) ⟨#[], #[.slice none 0 0], []⟩).memory :=
  laidMetH_of_parts3 (fuel := 8) (laidMet_of_run' 8 (by kernel_rfl) (by kernel_rfl)) (by kernel_rfl) (by kernel_rfl)
theorem reads (os : Os) {H : Type} (enc : TypeId × Value → H) : ∃ places, DataW.whole enc Tryd.prog ((door os).forCall (fun _ _ => 0) ⟨#[], #[.slice none 0 0], []⟩).memory Tryd.f3.params.toList (Rows.OpenSpec.upto Rows.ferryPlaysSpec).vars false (#[.slice none 0 0] : Array Value).toList 8 = some ([.nil], [], places) :=
  ⟨[], by kernel_rfl⟩
theorem lifted (os : Os) (started : os.Started) (H : Type) (enc : TypeId × Value → H) (F : Stop.Interp) :
    ReturnsInHanded {} Tryd.checked os 3 .any ((Rows.OpenSpec.upto Rows.ferryPlaysSpec).preRow enc Tryd.prog Tryd.f3 Rows.ferryPlaysUptoRow.domain false Rows.ferryPlaysUptoRow.laid) (((Rows.OpenSpec.upto Rows.ferryPlaysSpec).at F).post enc Tryd.prog Tryd.f3 false true false false) := by
  obtain ⟨places, hx⟩ := reads os enc
  refine returnsInHanded_of_row (C := Tryd.checked) (s := Rows.OpenSpec.upto Rows.ferryPlaysSpec) ownK started (by kernel_rfl) Tryd.func3
    (witness_row_atRef (enc := enc) (C := Tryd.checked) false (door os) #[.slice none 0 0] rfl (by kernel_rfl) (by kernel_rfl) (by kernel_rfl)
      (OpenSpec.preRow_of_cond 8 hx (by kernel_rfl) (fun k hk => by cases hk; kernel_rfl) (by kernel_rfl) (laid_met os))) ?_
  intro W base args ds gs before hval hW _ hcond hsz hL _ _
  have hW' := hW
  obtain ⟨p, q, hA0, hV, rfl, hfz, hnd⟩ := hW
  have hA : DataW.TrodAll enc Tryd.prog W 0 (fun _ => true) true Tryd.f3.params.toList args.toList ds p := hA0
  have hsz2 : (DataW.weightsEach Tryd.prog (Tryd.f3.params.toList ++ []) (ds ++ gs)).all (· ≤ reachBytes) = true := hsz
  have hval2 : ∀ (j : Nat) t v, Tryd.f3.params[j]? = some t → args[j]? = some v → Value.okWide Tryd.prog W .any base t v := hval
  rw [Tryd.params3] at hA hval2 hsz2
  obtain ⟨v0, d0, rfl, rfl, h0⟩ := trodAll_one hA
  obtain ⟨rfl, rfl⟩ := trodVars_none hV
  have hbulk : Rows.uptoSmall H _ = true := hcond _ rfl
  have hb1 : Rows.uptoBulk d0 ≤ 1048576 := bulk_one hbulk (by simp)
  obtain ⟨A, c, ops, rfl, hol, ho, hr⟩ := open_ops (hval2 0 _ _ rfl rfl) h0 hb1
  refine (plays_spec (ops := ops) (by omega) (fun o hm => ⟨(ho o hm).1, by have := (ho o hm).2.1; omega, (ho o hm).2.2 .here⟩) (hr .here) (forms_in hL (by simp [Rows.ferryPlaysUptoRow])) (old_start W)).mono fun e W' ⟨he, hS⟩ => ?_
  subst he
  exact ⟨_, rfl, post_law (P := Tryd.prog) (T := 4) laidOut (by kernel_rfl) (by kernel_rfl) Tryd.underlying4 rfl hW' (fun _ _ => rfl) (old_below hS .here)⟩
theorem said : Rows.FerryPlaysUptoSaid :=
  OpenClaim.holds_of_cond 3 Tryd.f3 rfl rfl rfl rfl rfl rfl rfl ⟨rfl, rfl, rfl, rfl, rfl⟩ rfl rfl rfl rfl rfl (by kernel_rfl) Tryd.func3 facts
    (of_decide_eq_true (by kernel_rfl)) (by unfold Func.isWrapper; first | (rw [if_pos (by decide +kernel)]; kernel_rfl) | (rw [if_neg (by decide +kernel)]; exact ⟨rfl, rfl⟩))
    (fun os started H enc _ F => by rw [OpenClaim.pre_eq_preRow]; exact lifted os started H enc F)
theorem plain (f : FuncId) (fn : Func) (hf : Tryd.pinned.checked.prog.funcNamed "amber/amberlaw22.FerryPlays" = some f) (hfn : Tryd.pinned.checked.prog.funcs[f]? = some fn) :
    true = Tryd.pinned.checked.prog.looks [] ∧ ∀ (j : Nat) t, fn.params[j]? = some t → Tryd.pinned.checked.prog.wantsStandIn t = false := by
  obtain rfl : f = 3 := Option.some.inj ((show Tryd.prog.funcNamed "amber/amberlaw22.FerryPlays" = some 3 by kernel_rfl).symm.trans hf) |>.symm
  obtain rfl : fn = Tryd.f3 := (Option.some.inj (Tryd.func3.symm.trans hfn)).symm
  refine ⟨by kernel_rfl, fun j t ht => ?_⟩
  have hm : t ∈ Tryd.f3.params.toList := by simpa using Array.mem_of_getElem? ht
  have hall : (Tryd.f3.params.toList.all fun u => !Tryd.prog.wantsStandIn u) = true := by kernel_rfl
  exact (show Tryd.prog.wantsStandIn t = false by simpa using List.all_eq_true.1 hall t hm)
theorem card : Rows.FerryPlaysUptoCardSaid :=
  Claim7.holds_tied_plain_at .later [] _ _ _ _ said (fun _ h => by cases h) (by kernel_rfl) (fun _ h => by cases h) ferryPlaysUpto_row_tie rfl ⟨rfl, rfl⟩ (by kernel_rfl) rfl plain (by kernel_rfl)
end Go.Proofs.YtgobibgpkcdmdaaDoor.ferryPlaysUpto
namespace Go.Proofs.YtgobibgpkcdmdaaDoor
theorem ferryPlaysUpto_card : Rows.FerryPlaysUptoCardSaid := ferryPlaysUpto.card
end Go.Proofs.YtgobibgpkcdmdaaDoor
