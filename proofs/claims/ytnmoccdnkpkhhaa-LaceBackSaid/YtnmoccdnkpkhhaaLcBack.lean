/- Proved: the law LaceBack returns true for every input that can be read as data. Conditions: none. -/
import Derived.Test.YtnmoccdnkpkhhaaLcLaws5

/-! The row of the law LaceBack. -/
namespace Go.Proofs.Ytnmoccdnkpkhhaa
open Go Go.Am
theorem laceBack_lifted (os : Os) (started : os.Started) (H : Type) (enc : TypeId × Value → H) :
    ReturnsInHanded {} Try.checked os 4 .any (Rows.laceBackSpec.pre6 enc Try.prog Try.f4 Rows.laceBackRow.domain false) (Rows.laceBackSpec.post enc Try.prog Try.f4 false true false false) :=
  law_lifted (C := Try.checked) (cx := cx) cxOk naming fit (f := 4) (body := f4_b) Try.func4 (by kernel_rfl) (by kernel_rfl) (Ts := [24]) (ts := [.named 0]) (by kernel_rfl) (B := 4) (by kernel_rfl) Try.underlying4
    (.cons ⟨_, rfl, rfl⟩ .nil) (fun x hx => by
      obtain ⟨k, hk⟩ := laceBack_plain x.1 (okB_of hx.1)
      exact ⟨f4_d (f4 k) noDr, f4_ok k FnOk.no, hk⟩) (by kernel_rfl) laidOut rfl (fun H ds h => match ds, h with
      | [_], _ => rfl) ownKn started (by kernel_rfl)
    (ChangeSpec.witness6 (enc := enc) (C := Try.checked) false ⟨#[], #[.agg #[.int .i64 0, .int .i64 0, .bool false, .int .i64 0, .slice none 0 0]], []⟩ 8 (by kernel_rfl) (by kernel_rfl) (by kernel_rfl) (by kernel_rfl))
/-- The row: LaceBack returns true for every input that can be read as data; it changes nothing that was there. -/
theorem laceBack_holds : Rows.LaceBackSaid :=
  OpenClaim.holds_of_wide 4 Try.f4 rfl rfl rfl rfl rfl rfl rfl ⟨rfl, rfl, rfl, rfl, rfl⟩ rfl rfl rfl rfl rfl (by kernel_rfl) Try.func4 (by kernel_rfl)
    (of_decide_eq_true (by kernel_rfl)) (by unfold Func.isWrapper; first | (rw [if_pos (by decide +kernel)]; kernel_rfl) | (rw [if_neg (by decide +kernel)]; exact ⟨rfl, rfl⟩))
    (fun os started H enc _ => laceBack_lifted os started H enc)
end Go.Proofs.Ytnmoccdnkpkhhaa
