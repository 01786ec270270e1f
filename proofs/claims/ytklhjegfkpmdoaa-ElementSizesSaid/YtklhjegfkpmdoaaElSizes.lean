/- Proved: the law Sizes returns true for every input that can be read as data. Conditions: none. -/
import Derived.Test.YtklhjegfkpmdoaaElSizesLaws

/-! The row of the law ElementSizes. -/
namespace Go.Proofs.Ytklhjegfkpmdoaa
open Go Go.Am
theorem elementSizes_lifted (os : Os) (started : os.Started) (H : Type) (enc : TypeId × Value → H) :
    ReturnsInHanded {} Try.checked os 9 .any (Rows.elementSizesSpec.pre6 enc Try.prog Try.f9 Rows.elementSizesRow.domain false) (Rows.elementSizesSpec.post enc Try.prog Try.f9 false true false false) :=
  law_lifted (C := Try.checked) (cx := cx) cxOk naming fit (f := 9) (body := f9_b) Try.func9 (by kernel_rfl) (by kernel_rfl) (Ts := [55]) (ts := [.named 2]) (by kernel_rfl) (B := 4) (by kernel_rfl) Try.underlying4
    (.cons ⟨_, rfl, rfl⟩ .nil) (fun x hx => by
      obtain ⟨k, hk⟩ := elementSizes_plain x.1 (okN_wf x.1 hx.1)
      exact ⟨f9_d (f9 k) noDr, f9_ok k FnOk.no, hk⟩) (by kernel_rfl) laidOut rfl (fun H ds h => match ds, h with
      | [_], _ => rfl) ownKn started (by kernel_rfl)
    (ChangeSpec.witness6 (enc := enc) (C := Try.checked) false ⟨#[], #[.agg #[.int .i64 0, .slice none 0 0, .slice none 0 0, .bool false]], []⟩ 8 (by kernel_rfl) (by kernel_rfl) (by kernel_rfl) (by kernel_rfl))
/-- The row: ElementSizes returns true for every input that can be read as data; it changes nothing that was there. -/
theorem elementSizes_holds : Rows.ElementSizesSaid :=
  OpenClaim.holds_of_wide 9 Try.f9 rfl rfl rfl rfl rfl rfl rfl ⟨rfl, rfl, rfl, rfl, rfl⟩ rfl rfl rfl rfl rfl (by kernel_rfl) Try.func9 (by kernel_rfl)
    (of_decide_eq_true (by kernel_rfl)) (by unfold Func.isWrapper; first | (rw [if_pos (by decide +kernel)]; kernel_rfl) | (rw [if_neg (by decide +kernel)]; exact ⟨rfl, rfl⟩))
    (fun os started H enc _ => elementSizes_lifted os started H enc)
end Go.Proofs.Ytklhjegfkpmdoaa
