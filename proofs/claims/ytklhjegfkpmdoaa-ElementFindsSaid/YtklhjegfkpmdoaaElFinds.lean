/- Proved: the law Finds returns true for every input that can be read as data. Conditions: none. -/
import Derived.Test.YtklhjegfkpmdoaaElFindsLaws

/-! The row of the law ElementFinds. -/
namespace Go.Proofs.Ytklhjegfkpmdoaa
open Go Go.Am
theorem elementFinds_lifted (os : Os) (started : os.Started) (H : Type) (enc : TypeId × Value → H) :
    ReturnsInHanded {} Try.checked os 11 .any (Rows.elementFindsSpec.pre6 enc Try.prog Try.f11 Rows.elementFindsRow.domain false) (Rows.elementFindsSpec.post enc Try.prog Try.f11 false true false false) :=
  law_lifted (C := Try.checked) (cx := cx) cxOk naming fit (f := 11) (body := f11_b) Try.func11 (by kernel_rfl) (by kernel_rfl) (Ts := [29, 29, 3]) (ts := [.slice (.named 2), .slice (.named 2), .int .i64]) (by kernel_rfl) (B := 4) (by kernel_rfl) Try.underlying4
    (.cons ⟨_, rfl, rfl⟩ (.cons ⟨_, rfl, rfl⟩ (.cons ⟨_, rfl, rfl⟩ .nil))) (fun x hx => by
      obtain ⟨k, hk⟩ := elementFinds_plain x.1 x.2.1 x.2.2.1 (okL_arg hx.1)
      exact ⟨f11_d (f11 k) noDr, f11_ok k FnOk.no, hk⟩) (by kernel_rfl) laidOut rfl (fun H ds h => match ds, h with
      | [_, _, _], _ => rfl) ownKn started (by kernel_rfl)
    (ChangeSpec.witness6 (enc := enc) (C := Try.checked) false ⟨#[], #[.slice none 0 0, .slice none 0 0, .int .i64 0], []⟩ 8 (by kernel_rfl) (by kernel_rfl) (by kernel_rfl) (by kernel_rfl))
/-- The row: ElementFinds returns true for every input that can be read as data; it changes nothing that was there. -/
theorem elementFinds_holds : Rows.ElementFindsSaid :=
  OpenClaim.holds_of_wide 11 Try.f11 rfl rfl rfl rfl rfl rfl rfl ⟨rfl, rfl, rfl, rfl, rfl⟩ rfl rfl rfl rfl rfl (by kernel_rfl) Try.func11 (by kernel_rfl)
    (of_decide_eq_true (by kernel_rfl)) (by unfold Func.isWrapper; first | (rw [if_pos (by decide +kernel)]; kernel_rfl) | (rw [if_neg (by decide +kernel)]; exact ⟨rfl, rfl⟩))
    (fun os started H enc _ => elementFinds_lifted os started H enc)
end Go.Proofs.Ytklhjegfkpmdoaa
