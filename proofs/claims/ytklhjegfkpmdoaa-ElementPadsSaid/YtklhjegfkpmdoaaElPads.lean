/- Proved: the law ElementPads returns true for every input that can be read as data. Conditions: none. -/
import Derived.Test.YtklhjegfkpmdoaaElPadsLaws

/-! The row of the law ElementPads. -/
namespace Go.Proofs.Ytklhjegfkpmdoaa
open Go Go.Am
theorem elementPads_lifted (os : Os) (started : os.Started) (H : Type) (enc : TypeId × Value → H) :
    ReturnsInHanded {} Try.checked os 3 .any (Rows.elementPadsSpec.pre6 enc Try.prog Try.f3 Rows.elementPadsRow.domain false) (Rows.elementPadsSpec.post enc Try.prog Try.f3 false true false false) :=
  law_lifted (C := Try.checked) (cx := cx) cxOk naming fit (f := 3) (body := f3_b) Try.func3 (by kernel_rfl) (by kernel_rfl) (Ts := [3]) (ts := [.int .i64]) (by kernel_rfl) (B := 4) (by kernel_rfl) Try.underlying4
    (.cons ⟨_, rfl, rfl⟩ .nil) (fun x hx => by
      obtain ⟨k, hk⟩ := elementPads_plain x.1
      exact ⟨f3_d (f3 k) noDr, f3_ok k FnOk.no, hk⟩) (by kernel_rfl) laidOut rfl (fun H ds h => match ds, h with
      | [_], _ => rfl) ownKn started (by kernel_rfl)
    (ChangeSpec.witness6 (enc := enc) (C := Try.checked) false ⟨#[], #[.int .i64 0], []⟩ 8 (by kernel_rfl) (by kernel_rfl) (by kernel_rfl) (by kernel_rfl))
/-- The row: ElementPads returns true for every input that can be read as data; it changes nothing that was there. -/
theorem elementPads_holds : Rows.ElementPadsSaid :=
  OpenClaim.holds_of_wide 3 Try.f3 rfl rfl rfl rfl rfl rfl rfl ⟨rfl, rfl, rfl, rfl, rfl⟩ rfl rfl rfl rfl rfl (by kernel_rfl) Try.func3 (by kernel_rfl)
    (of_decide_eq_true (by kernel_rfl)) (by unfold Func.isWrapper; first | (rw [if_pos (by decide +kernel)]; kernel_rfl) | (rw [if_neg (by decide +kernel)]; exact ⟨rfl, rfl⟩))
    (fun os started H enc _ => elementPads_lifted os started H enc)
end Go.Proofs.Ytklhjegfkpmdoaa
