/- Proved: the law Names returns true for every input that can be read as data. Conditions: none. -/
import Derived.Test.YtehmahdngjdhpaaDoorBxNamesLaws

set_option maxRecDepth 100000
/-! The row and the card of the law BoxNames. -/
namespace Go.Proofs.YtehmahdngjdhpaaDoor
open Go Go.Am
theorem boxNames_laid (os : Os) : laidMetH Tryd.prog Rows.boxNamesRow.laid ((laidWorld os).forCall (fun _ _ => 0) ⟨#[], #[.string ⟨#[]⟩, .int .i64 0], []⟩).memory :=
  laidMetH_of_parts (laidMet_of_run' 8 (by kernel_rfl) (by kernel_rfl)) (by kernel_rfl)
theorem boxNames_reads (os : Os) {H : Type} (enc : TypeId × Value → H) : ∃ places, DataW.whole enc Tryd.prog ((laidWorld os).forCall (fun _ _ => 0) ⟨#[], #[.string ⟨#[]⟩, .int .i64 0], []⟩).memory Tryd.f6.params.toList Rows.boxNamesSpec.vars false #[.string ⟨#[]⟩, .int .i64 0].toList 8 = some ([.lit (.string []), .lit (.int .i64 0)], [], places) :=
  ⟨[], by kernel_rfl⟩
theorem boxNames_lifted (os : Os) (started : os.Started) (H : Type) (enc : TypeId × Value → H) (F : Stop.Interp) :
    ReturnsInHanded {} Tryd.checked os 6 .any ((OpenSpec.ofChange Rows.boxNamesSpec).preRow enc Tryd.prog Tryd.f6 Rows.boxNamesRow.domain false Rows.boxNamesRow.laid) (((OpenSpec.ofChange Rows.boxNamesSpec).at F).post enc Tryd.prog Tryd.f6 false true false false) := by
  obtain ⟨places, hx⟩ := boxNames_reads os enc
  exact law_row (C := Tryd.checked) (cx := cx) cxOk naming fit (f := 6) (body := f6_b) Tryd.func6 (by kernel_rfl) (by kernel_rfl) (Ts := [9, 3]) (ts := [.str, .int .i64]) (by kernel_rfl) (B := 4) (by kernel_rfl) Tryd.underlying4
    (.cons ⟨_, rfl, rfl⟩ (.cons ⟨_, rfl, rfl⟩ .nil)) (laid := Rows.boxNamesRow.laid) (fun W h => ginv h) (N := none) (fun x hx _ => by
      obtain ⟨k, hk⟩ := boxNames_plain x.1 (wf_str (hx.1 _ (List.mem_singleton.2 rfl))) x.2.1
      exact ⟨f6_d (f6 k) noDr, f6_ok k FnOk.no, hk⟩) (by kernel_rfl) laidOut (s := Rows.boxNamesSpec) rfl (fun H ds h => match ds, h with
      | [_, _], _ => rfl) (k := none) rfl (fun n hn => by cases hn) ownKn started (by kernel_rfl)
    (witness_row_ref (enc := enc) (C := Tryd.checked) false (laidWorld os) #[.string ⟨#[]⟩, .int .i64 0] rfl (by kernel_rfl) (by kernel_rfl) (by kernel_rfl)
      (OpenSpec.preRow_of_cond 8 hx (by kernel_rfl) (fun k hk => by cases hk) (by kernel_rfl) (boxNames_laid os)))
theorem boxNames_said : Rows.BoxNamesSaid :=
  OpenClaim.holds_of_cond 6 Tryd.f6 rfl rfl rfl rfl rfl rfl rfl ⟨rfl, rfl, rfl, rfl, rfl⟩ rfl rfl rfl rfl rfl (by kernel_rfl) Tryd.func6 (by kernel_rfl)
    (of_decide_eq_true (by kernel_rfl)) (by unfold Func.isWrapper; first | (rw [if_pos (by decide +kernel)]; kernel_rfl) | (rw [if_neg (by decide +kernel)]; exact ⟨rfl, rfl⟩))
    (fun os started H enc _ F => by rw [OpenClaim.pre_eq_preRow]; exact boxNames_lifted os started H enc F)
theorem boxNames_asks (f : FuncId) (fn : Func) (hf : Tryd.pinned.checked.prog.funcNamed "diorama/dioramalaw08.BoxNames" = some f) (hfn : Tryd.pinned.checked.prog.funcs[f]? = some fn) :
    true = Tryd.pinned.checked.prog.looks [] ∧ ∀ (j : Nat) t, fn.params[j]? = some t → Tryd.pinned.checked.prog.wantsStandIn t = false := by
  obtain rfl : f = 6 := Option.some.inj ((show Tryd.prog.funcNamed "diorama/dioramalaw08.BoxNames" = some 6 by kernel_rfl).symm.trans hf) |>.symm
  obtain rfl : fn = Tryd.f6 := (Option.some.inj (Tryd.func6.symm.trans hfn)).symm
  refine ⟨by kernel_rfl, fun j t ht => ?_⟩
  have hall : Tryd.f6.params.toList.all (fun t => !Tryd.prog.wantsStandIn t) = true := by kernel_rfl
  have := List.all_eq_true.1 hall t (by rw [← Array.getElem?_toList] at ht; exact List.mem_of_getElem? ht)
  have : Tryd.prog.wantsStandIn t = false := by simpa using this
  exact this
/-- The card of the row: BoxNames returns true for every input that can be read as data; it changes nothing that was there. -/
theorem boxNames_holds : Rows.BoxNamesCardSaid :=
  Claim7.holds_tied_plain_at .later [] _ _ _ _ boxNames_said (fun _ h => by cases h) (by kernel_rfl) (fun _ h => by cases h) boxNames_row_tie rfl ⟨rfl, rfl⟩ (by kernel_rfl) rfl boxNames_asks (by kernel_rfl)
end Go.Proofs.YtehmahdngjdhpaaDoor
