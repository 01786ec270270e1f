/- Proved: the law Knows returns true for every input that can be read as data. Conditions: none. -/
import Derived.Test.YtklhjegfkpmdoaaElKnowsLaws

/-! The row of the law ElementKnows. -/
namespace Go.Proofs.Ytklhjegfkpmdoaa
open Go Go.Am
theorem elementKnows_lifted (os : Os) (started : os.Started) (H : Type) (enc : TypeId × Value → H) :
    ReturnsInHanded {} Try.checked os 6 .any (Rows.elementKnowsSpec.pre6 enc Try.prog Try.f6 Rows.elementKnowsRow.domain false) (Rows.elementKnowsSpec.post enc Try.prog Try.f6 false true false false) :=
  law_lifted (C := Try.checked) (cx := cx) cxOk naming fit (f := 6) (body := f6_b) Try.func6 (by kernel_rfl) (by kernel_rfl) (Ts := [3]) (ts := [.int .i64]) (by kernel_rfl) (B := 4) (by kernel_rfl) Try.underlying4
    (.cons ⟨_, rfl, rfl⟩ .nil) (fun x hx => by
      obtain ⟨k, hk⟩ := elementKnows_plain x.1
      exact ⟨f6_d (f6 k) noDr, f6_ok k FnOk.no, hk⟩) (by kernel_rfl) laidOut rfl (fun H ds h => match ds, h with
      | [_], _ => rfl) ownKn started (by kernel_rfl)
    (ChangeSpec.witness6 (enc := enc) (C := Try.checked) false ⟨#[], #[.int .i64 0], []⟩ 8 (by kernel_rfl) (by kernel_rfl) (by kernel_rfl) (by kernel_rfl))
/-- The row: ElementKnows returns true for every input that can be read as data; it changes nothing that was there. -/
theorem elementKnows_holds : Rows.ElementKnowsSaid :=
  OpenClaim.holds_of_wide 6 Try.f6 rfl rfl rfl rfl rfl rfl rfl ⟨rfl, rfl, rfl, rfl, rfl⟩ rfl rfl rfl rfl rfl (by kernel_rfl) Try.func6 (by kernel_rfl)
    (of_decide_eq_true (by kernel_rfl)) (by unfold Func.isWrapper; first | (rw [if_pos (by decide +kernel)]; kernel_rfl) | (rw [if_neg (by decide +kernel)]; exact ⟨rfl, rfl⟩))
    (fun os started H enc _ => elementKnows_lifted os started H enc)
end Go.Proofs.Ytklhjegfkpmdoaa
