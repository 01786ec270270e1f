/- Proved: the law Frees returns true for every input that can be read as data. Conditions: none. -/
import Derived.Test.YtehmahdngjdhpaaDoorBxFreesLaws

set_option maxRecDepth 100000
/-! The row and the card of the law BoxFrees. -/
namespace Go.Proofs.YtehmahdngjdhpaaDoor
open Go Go.Am
theorem boxFrees_laid (os : Os) : laidMetH Tryd.prog Rows.boxFreesRow.laid ((laidWorld os).forCall (fun _ _ => 0) ⟨#[], #[.int .i64 0], []⟩).memory :=
  laidMetH_of_parts (laidMet_of_run' 8 (by kernel_rfl) (by kernel_rfl)) (by kernel_rfl)
theorem boxFrees_reads (os : Os) {H : Type} (enc : TypeId × Value → H) : ∃ places, DataW.whole enc Tryd.prog ((laidWorld os).forCall (fun _ _ => 0) ⟨#[], #[.int .i64 0], []⟩).memory Tryd.f5.params.toList Rows.boxFreesSpec.vars false #[.int .i64 0].toList 8 = some ([.lit (.int .i64 0)], [], places) :=
  ⟨[], by kernel_rfl⟩
theorem boxFrees_lifted (os : Os) (started : os.Started) (H : Type) (enc : TypeId × Value → H) (F : Stop.Interp) :
    ReturnsInHanded {} Tryd.checked os 5 .any ((OpenSpec.ofChange Rows.boxFreesSpec).preRow enc Tryd.prog Tryd.f5 Rows.boxFreesRow.domain false Rows.boxFreesRow.laid) (((OpenSpec.ofChange Rows.boxFreesSpec).at F).post enc Tryd.prog Tryd.f5 false true false false) := by
  obtain ⟨places, hx⟩ := boxFrees_reads os enc
  exact law_row (C := Tryd.checked) (cx := cx) cxOk naming fit (f := 5) (body := f5_b) Tryd.func5 (by kernel_rfl) (by kernel_rfl) (Ts := [3]) (ts := [.int .i64]) (by kernel_rfl) (B := 4) (by kernel_rfl) Tryd.underlying4
    (.cons ⟨_, rfl, rfl⟩ .nil) (laid := Rows.boxFreesRow.laid) (fun W h => ginv h) (N := none) (fun x _ _ => by
      obtain ⟨k, hk⟩ := boxFrees_plain x.1
      exact ⟨f5_d (f5 k) noDr, f5_ok k FnOk.no, hk⟩) (by kernel_rfl) laidOut (s := Rows.boxFreesSpec) rfl (fun H ds h => match ds, h with
      | [_], _ => rfl) (k := none) rfl (fun n hn => by cases hn) ownKn started (by kernel_rfl)
    (witness_row_ref (enc := enc) (C := Tryd.checked) false (laidWorld os) #[.int .i64 0] rfl (by kernel_rfl) (by kernel_rfl) (by kernel_rfl)
      (OpenSpec.preRow_of_cond 8 hx (by kernel_rfl) (fun k hk => by cases hk) (by kernel_rfl) (boxFrees_laid os)))
theorem boxFrees_said : Rows.BoxFreesSaid :=
  OpenClaim.holds_of_cond 5 Tryd.f5 rfl rfl rfl rfl rfl rfl rfl ⟨rfl, rfl, rfl, rfl, rfl⟩ rfl rfl rfl rfl rfl (by kernel_rfl) Tryd.func5 (by kernel_rfl)
    (of_decide_eq_true (by kernel_rfl)) (by unfold Func.isWrapper; first | (rw [if_pos (by decide +kernel)]; kernel_rfl) | (rw [if_neg (by decide +kernel)]; exact ⟨rfl, rfl⟩))
    (fun os started H enc _ F => by rw [OpenClaim.pre_eq_preRow]; exact boxFrees_lifted os started H enc F)
theorem boxFrees_asks (f : FuncId) (fn : Func) (hf : Tryd.pinned.checked.prog.funcNamed "diorama/dioramalaw08.BoxFrees" = some f) (hfn : Tryd.pinned.checked.prog.funcs[f]? = some fn) :
    true = Tryd.pinned.checked.prog.looks [] ∧ ∀ (j : Nat) t, fn.params[j]? = some t → Tryd.pinned.checked.prog.wantsStandIn t = false := by
  obtain rfl : f = 5 := Option.some.inj ((show Tryd.prog.funcNamed "diorama/dioramalaw08.BoxFrees" = some 5 by kernel_rfl).symm.trans hf) |>.symm
  obtain rfl : fn = Tryd.f5 := (Option.some.inj (Tryd.func5.symm.trans hfn)).symm
  refine ⟨by kernel_rfl, fun j t ht => ?_⟩
  have hall : Tryd.f5.params.toList.all (fun t => !Tryd.prog.wantsStandIn t) = true := by kernel_rfl
  have := List.all_eq_true.1 hall t (by rw [← Array.getElem?_toList] at ht; exact List.mem_of_getElem? ht)
  have : Tryd.prog.wantsStandIn t = false := by simpa using this
  exact this
/-- The card of the row: BoxFrees returns true for every input that can be read as data; it changes nothing that was there. -/
theorem boxFrees_holds : Rows.BoxFreesCardSaid :=
  Claim7.holds_tied_plain_at .later [] _ _ _ _ boxFrees_said (fun _ h => by cases h) (by kernel_rfl) (fun _ h => by cases h) boxFrees_row_tie rfl ⟨rfl, rfl⟩ (by kernel_rfl) rfl boxFrees_asks (by kernel_rfl)
end Go.Proofs.YtehmahdngjdhpaaDoor
