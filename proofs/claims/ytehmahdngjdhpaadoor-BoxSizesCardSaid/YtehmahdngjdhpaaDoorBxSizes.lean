/- Proved: the law Sizes returns true for every input that can be read as data. Conditions: none. -/
import Derived.Test.YtehmahdngjdhpaaDoorBxSizesLaws

set_option maxRecDepth 100000
/-! The row and the card of the law BoxSizes. -/
namespace Go.Proofs.YtehmahdngjdhpaaDoor
open Go Go.Am
theorem boxSizes_laid (os : Os) : laidMetH Tryd.prog Rows.boxSizesRow.laid ((laidWorld os).forCall (fun _ _ => 0) ⟨#[], #[.agg #[.int .i64 0, .slice none 0 0, .slice none 0 0, .bool false]], []⟩).memory :=
  laidMetH_of_parts (laidMet_of_run' 8 (by kernel_rfl) (by kernel_rfl)) (by kernel_rfl)
theorem boxSizes_reads (os : Os) {H : Type} (enc : TypeId × Value → H) : ∃ places, DataW.whole enc Tryd.prog ((laidWorld os).forCall (fun _ _ => 0) ⟨#[], #[.agg #[.int .i64 0, .slice none 0 0, .slice none 0 0, .bool false]], []⟩).memory Tryd.f4.params.toList Rows.boxSizesSpec.vars false #[.agg #[.int .i64 0, .slice none 0 0, .slice none 0 0, .bool false]].toList 8 = some ([.agg [.lit (.int .i64 0), .nil, .nil, .lit (.bool false)]], [], places) :=
  ⟨[], by kernel_rfl⟩
theorem boxSizes_lifted (os : Os) (started : os.Started) (H : Type) (enc : TypeId × Value → H) (F : Stop.Interp) :
    ReturnsInHanded {} Tryd.checked os 4 .any ((OpenSpec.ofChange Rows.boxSizesSpec).preRow enc Tryd.prog Tryd.f4 Rows.boxSizesRow.domain false Rows.boxSizesRow.laid) (((OpenSpec.ofChange Rows.boxSizesSpec).at F).post enc Tryd.prog Tryd.f4 false true false false) := by
  obtain ⟨places, hx⟩ := boxSizes_reads os enc
  exact law_row (C := Tryd.checked) (cx := cx) cxOk naming fit (f := 4) (body := f4_b) Tryd.func4 (by kernel_rfl) (by kernel_rfl) (Ts := [38]) (ts := [.named 1]) (by kernel_rfl) (B := 4) (by kernel_rfl) Tryd.underlying4
    (.cons ⟨_, rfl, rfl⟩ .nil) (laid := Rows.boxSizesRow.laid) (fun W h => ginv h) (N := none) (fun x hx _ => by
      obtain ⟨k, hk⟩ := boxSizes_plain x.1 (okN_wf x.1 hx.1)
      exact ⟨f4_d (f4 k) noDr, f4_ok k FnOk.no, hk⟩) (by kernel_rfl) laidOut (s := Rows.boxSizesSpec) rfl (fun H ds h => match ds, h with
      | [_], _ => rfl) (k := none) rfl (fun n hn => by cases hn) ownKn started (by kernel_rfl)
    (witness_row_ref (enc := enc) (C := Tryd.checked) false (laidWorld os) #[.agg #[.int .i64 0, .slice none 0 0, .slice none 0 0, .bool false]] rfl (by kernel_rfl) (by kernel_rfl) (by kernel_rfl)
      (OpenSpec.preRow_of_cond 8 hx (by kernel_rfl) (fun k hk => by cases hk) (by kernel_rfl) (boxSizes_laid os)))
theorem boxSizes_said : Rows.BoxSizesSaid :=
  OpenClaim.holds_of_cond 4 Tryd.f4 rfl rfl rfl rfl rfl rfl rfl ⟨rfl, rfl, rfl, rfl, rfl⟩ rfl rfl rfl rfl rfl (by kernel_rfl) Tryd.func4 (by kernel_rfl)
    (of_decide_eq_true (by kernel_rfl)) (by unfold Func.isWrapper; first | (rw [if_pos (by decide +kernel)]; kernel_rfl) | (rw [if_neg (by decide +kernel)]; exact ⟨rfl, rfl⟩))
    (fun os started H enc _ F => by rw [OpenClaim.pre_eq_preRow]; exact boxSizes_lifted os started H enc F)
theorem boxSizes_asks (f : FuncId) (fn : Func) (hf : Tryd.pinned.checked.prog.funcNamed "diorama/dioramalaw08.BoxSizes" = some f) (hfn : Tryd.pinned.checked.prog.funcs[f]? = some fn) :
    true = Tryd.pinned.checked.prog.looks [] ∧ ∀ (j : Nat) t, fn.params[j]? = some t → Tryd.pinned.checked.prog.wantsStandIn t = false := by
  obtain rfl : f = 4 := Option.some.inj ((show Tryd.prog.funcNamed "diorama/dioramalaw08.BoxSizes" = some 4 by kernel_rfl).symm.trans hf) |>.symm
  obtain rfl : fn = Tryd.f4 := (Option.some.inj (Tryd.func4.symm.trans hfn)).symm
  refine ⟨by kernel_rfl, fun j t ht => ?_⟩
  have hall : Tryd.f4.params.toList.all (fun t => !Tryd.prog.wantsStandIn t) = true := by kernel_rfl
  have := List.all_eq_true.1 hall t (by rw [← Array.getElem?_toList] at ht; exact List.mem_of_getElem? ht)
  have : Tryd.prog.wantsStandIn t = false := by simpa using this
  exact this
/-- The card of the row: BoxSizes returns true for every input that can be read as data; it changes nothing that was there. -/
theorem boxSizes_holds : Rows.BoxSizesCardSaid :=
  Claim7.holds_tied_plain_at .later [] _ _ _ _ boxSizes_said (fun _ h => by cases h) (by kernel_rfl) (fun _ h => by cases h) boxSizes_row_tie rfl ⟨rfl, rfl⟩ (by kernel_rfl) rfl boxSizes_asks (by kernel_rfl)
end Go.Proofs.YtehmahdngjdhpaaDoor
