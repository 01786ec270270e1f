/- Proved: the law LaceSplits returns true for every input that can be read as data. Conditions: none. -/
import Derived.Test.YtnmoccdnkpkhhaaLcLaws1

/-! The row of the law LaceSplits. -/
namespace Go.Proofs.Ytnmoccdnkpkhhaa
open Go Go.Am
theorem laceSplits_lifted (os : Os) (started : os.Started) (H : Type) (enc : TypeId × Value → H) :
    ReturnsInHanded {} Try.checked os 8 .any (Rows.laceSplitsSpec.pre6 enc Try.prog Try.f8 Rows.laceSplitsRow.domain false) (Rows.laceSplitsSpec.post enc Try.prog Try.f8 false true false false) :=
  law_lifted (C := Try.checked) (cx := cx) cxOk naming fit (f := 8) (body := f8_b) Try.func8 (by kernel_rfl) (by kernel_rfl) (Ts := [24, 24]) (ts := [.named 0, .named 0]) (by kernel_rfl) (B := 4) (by kernel_rfl) Try.underlying4
    (.cons ⟨_, rfl, rfl⟩ (.cons ⟨_, rfl, rfl⟩ .nil)) (fun x hx => by
      obtain ⟨k, hk⟩ := laceSplits_plain x.1 x.2.1 (okB_of hx.1).lens (okB_of hx.2.1).lens
      exact ⟨f8_d (f8 k) noDr, f8_ok k FnOk.no, hk⟩) (by kernel_rfl) laidOut rfl (fun H ds h => match ds, h with
      | [_, _], _ => rfl) ownKn started (by kernel_rfl)
    (ChangeSpec.witness6 (enc := enc) (C := Try.checked) false ⟨#[], #[.agg #[.int .i64 0, .int .i64 0, .bool false, .int .i64 0, .slice none 0 0], .agg #[.int .i64 0, .int .i64 0, .bool false, .int .i64 0, .slice none 0 0]], []⟩ 8 (by kernel_rfl) (by kernel_rfl) (by kernel_rfl) (by kernel_rfl))
/-- The row: LaceSplits returns true for every input that can be read as data; it changes nothing that was there. -/
theorem laceSplits_holds : Rows.LaceSplitsSaid :=
  OpenClaim.holds_of_wide 8 Try.f8 rfl rfl rfl rfl rfl rfl rfl ⟨rfl, rfl, rfl, rfl, rfl⟩ rfl rfl rfl rfl rfl (by kernel_rfl) Try.func8 (by kernel_rfl)
    (of_decide_eq_true (by kernel_rfl)) (by unfold Func.isWrapper; first | (rw [if_pos (by decide +kernel)]; kernel_rfl) | (rw [if_neg (by decide +kernel)]; exact ⟨rfl, rfl⟩))
    (fun os started H enc _ => laceSplits_lifted os started H enc)
end Go.Proofs.Ytnmoccdnkpkhhaa
