/- Proved: the law LaceWrites returns true for every input that can be read as data. Conditions: none. -/
import Derived.Test.YtnmoccdnkpkhhaaLcLaws2

/-! The row of the law LaceWrites. -/
namespace Go.Proofs.Ytnmoccdnkpkhhaa
open Go Go.Am
theorem laceWrites_lifted (os : Os) (started : os.Started) (H : Type) (enc : TypeId × Value → H) :
    ReturnsInHanded {} Try.checked os 3 .any (Rows.laceWritesSpec.pre6 enc Try.prog Try.f3 Rows.laceWritesRow.domain false) (Rows.laceWritesSpec.post enc Try.prog Try.f3 false true false false) :=
  law_lifted (C := Try.checked) (cx := cx) cxOk naming fit (f := 3) (body := f3_b) Try.func3 (by kernel_rfl) (by kernel_rfl) (Ts := [24]) (ts := [.named 0]) (by kernel_rfl) (B := 4) (by kernel_rfl) Try.underlying4
    (.cons ⟨_, rfl, rfl⟩ .nil) (fun x hx => by
      obtain ⟨k, hk⟩ := laceWrites_plain x.1 (okB_of hx.1).lens
      exact ⟨f3_d (f3 k) noDr, f3_ok k FnOk.no, hk⟩) (by kernel_rfl) laidOut rfl (fun H ds h => match ds, h with
      | [_], _ => rfl) ownKn started (by kernel_rfl)
    (ChangeSpec.witness6 (enc := enc) (C := Try.checked) false ⟨#[], #[.agg #[.int .i64 0, .int .i64 0, .bool false, .int .i64 0, .slice none 0 0]], []⟩ 8 (by kernel_rfl) (by kernel_rfl) (by kernel_rfl) (by kernel_rfl))
/-- The row: LaceWrites returns true for every input that can be read as data; it changes nothing that was there. -/
theorem laceWrites_holds : Rows.LaceWritesSaid :=
  OpenClaim.holds_of_wide 3 Try.f3 rfl rfl rfl rfl rfl rfl rfl ⟨rfl, rfl, rfl, rfl, rfl⟩ rfl rfl rfl rfl rfl (by kernel_rfl) Try.func3 (by kernel_rfl)
    (of_decide_eq_true (by kernel_rfl)) (by unfold Func.isWrapper; first | (rw [if_pos (by decide +kernel)]; kernel_rfl) | (rw [if_neg (by decide +kernel)]; exact ⟨rfl, rfl⟩))
    (fun os started H enc _ => laceWrites_lifted os started H enc)
end Go.Proofs.Ytnmoccdnkpkhhaa
