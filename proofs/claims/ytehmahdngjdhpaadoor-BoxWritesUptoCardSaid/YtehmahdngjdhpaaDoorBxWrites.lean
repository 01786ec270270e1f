/- Proved: the law Writes returns true for every input that can be read as data. Conditions: none. -/
import Derived.Test.YtehmahdngjdhpaaDoorBxWritesLaws

set_option maxRecDepth 100000
/-! The row and the card of the law BoxWrites. -/
namespace Go.Proofs.YtehmahdngjdhpaaDoor
open Go Go.Am
theorem boxWrites_laid (os : Os) : laidMetH Tryd.prog Rows.boxWritesUptoRow.laid ((laidWorld os).forCall (fun _ _ => 0) ⟨#[], #[.slice none 0 0], []⟩).memory :=
  laidMetH_of_parts (laidMet_of_run' 8 (by kernel_rfl) (by kernel_rfl)) (by kernel_rfl)
theorem boxWrites_reads (os : Os) {H : Type} (enc : TypeId × Value → H) : ∃ places, DataW.whole enc Tryd.prog ((laidWorld os).forCall (fun _ _ => 0) ⟨#[], #[.slice none 0 0], []⟩).memory Tryd.f12.params.toList Rows.boxWritesSpec.vars false #[.slice none 0 0].toList 8 = some ([.nil], [], places) :=
  ⟨[], by kernel_rfl⟩
theorem boxWrites_lifted (os : Os) (started : os.Started) (H : Type) (enc : TypeId × Value → H) (F : Stop.Interp) :
    ReturnsInHanded {} Tryd.checked os 12 .any ((Rows.OpenSpec.upto Rows.boxWritesSpec).preRow enc Tryd.prog Tryd.f12 Rows.boxWritesUptoRow.domain false Rows.boxWritesUptoRow.laid) (((Rows.OpenSpec.upto Rows.boxWritesSpec).at F).post enc Tryd.prog Tryd.f12 false true false false) := by
  obtain ⟨places, hx⟩ := boxWrites_reads os enc
  exact law_row (C := Tryd.checked) (cx := cx) cxOk naming fit (f := 12) (body := f12_b) Tryd.func12 (by kernel_rfl) (by kernel_rfl) (Ts := [23]) (ts := [.slice (.named 1)]) (by kernel_rfl) (B := 4) (by kernel_rfl) Tryd.underlying4
    (.cons ⟨_, rfl, rfl⟩ .nil) (laid := Rows.boxWritesUptoRow.laid) (fun W h => ginv h) (N := some 1048576) (fun x hx hb => by
      have w := wtL_arg x.1
      have w2 := hb 1048576 rfl
      have w3 : wtL x.1 ≤ 1048576 := by simp only [argsB] at w2; omega
      obtain ⟨k, hk⟩ := boxWrites_plain x.1 (okL_arg hx.1) (by omega)
      exact ⟨f12_d (f12 k) noDr, f12_ok k FnOk.no, hk⟩) (by kernel_rfl) laidOut (s := Rows.boxWritesSpec) rfl (fun H ds h => match ds, h with
      | [_], _ => rfl) (k := some Rows.uptoSmall) rfl (fun n hn H ds hc => by cases hn; exact small_bulk H ds (hc _ rfl)) ownKn started (by kernel_rfl)
    (witness_row_ref (enc := enc) (C := Tryd.checked) false (laidWorld os) #[.slice none 0 0] rfl (by kernel_rfl) (by kernel_rfl) (by kernel_rfl)
      (OpenSpec.preRow_of_cond 8 hx (by kernel_rfl) (fun k hk => by cases hk; kernel_rfl) (by kernel_rfl) (boxWrites_laid os)))
theorem boxWrites_said : Rows.BoxWritesUptoSaid :=
  OpenClaim.holds_of_cond 12 Tryd.f12 rfl rfl rfl rfl rfl rfl rfl ⟨rfl, rfl, rfl, rfl, rfl⟩ rfl rfl rfl rfl rfl (by kernel_rfl) Tryd.func12 (by kernel_rfl)
    (of_decide_eq_true (by kernel_rfl)) (by unfold Func.isWrapper; first | (rw [if_pos (by decide +kernel)]; kernel_rfl) | (rw [if_neg (by decide +kernel)]; exact ⟨rfl, rfl⟩))
    (fun os started H enc _ F => by rw [OpenClaim.pre_eq_preRow]; exact boxWrites_lifted os started H enc F)
theorem boxWrites_asks (f : FuncId) (fn : Func) (hf : Tryd.pinned.checked.prog.funcNamed "diorama/dioramalaw08.BoxWrites" = some f) (hfn : Tryd.pinned.checked.prog.funcs[f]? = some fn) :
    true = Tryd.pinned.checked.prog.looks [] ∧ ∀ (j : Nat) t, fn.params[j]? = some t → Tryd.pinned.checked.prog.wantsStandIn t = false := by
  obtain rfl : f = 12 := Option.some.inj ((show Tryd.prog.funcNamed "diorama/dioramalaw08.BoxWrites" = some 12 by kernel_rfl).symm.trans hf) |>.symm
  obtain rfl : fn = Tryd.f12 := (Option.some.inj (Tryd.func12.symm.trans hfn)).symm
  refine ⟨by kernel_rfl, fun j t ht => ?_⟩
  have hall : Tryd.f12.params.toList.all (fun t => !Tryd.prog.wantsStandIn t) = true := by kernel_rfl
  have := List.all_eq_true.1 hall t (by rw [← Array.getElem?_toList] at ht; exact List.mem_of_getElem? ht)
  have : Tryd.prog.wantsStandIn t = false := by simpa using this
  exact this
/-- The card of the row: BoxWrites returns true for every input of bulk at most 1,048,576 that can be read as data; it changes nothing that was there. -/
theorem boxWritesUpto_holds : Rows.BoxWritesUptoCardSaid :=
  Claim7.holds_tied_plain_at .later [] _ _ _ _ boxWrites_said (fun _ h => by cases h) (by kernel_rfl) (fun _ h => by cases h) boxWritesUpto_row_tie rfl ⟨rfl, rfl⟩ (by kernel_rfl) rfl boxWrites_asks (by kernel_rfl)
end Go.Proofs.YtehmahdngjdhpaaDoor
