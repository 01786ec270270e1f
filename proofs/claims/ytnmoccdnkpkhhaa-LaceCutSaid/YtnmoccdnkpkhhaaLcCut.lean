/- Proved: the law LaceCut returns true for every input that can be read as data. Conditions: none. -/
import Derived.Test.YtnmoccdnkpkhhaaLcLaws5

/-! The row of the law LaceCut. -/
namespace Go.Proofs.Ytnmoccdnkpkhhaa
open Go Go.Am
theorem laceCut_lifted (os : Os) (started : os.Started) (H : Type) (enc : TypeId × Value → H) :
    ReturnsInHanded {} Try.checked os 5 .any (Rows.laceCutSpec.pre6 enc Try.prog Try.f5 Rows.laceCutRow.domain false) (Rows.laceCutSpec.post enc Try.prog Try.f5 false true false false) :=
  law_lifted (C := Try.checked) (cx := cx) cxOk naming fit (f := 5) (body := f5_b) Try.func5 (by kernel_rfl) (by kernel_rfl) (Ts := [24, 3]) (ts := [.named 0, .int .i64]) (by kernel_rfl) (B := 4) (by kernel_rfl) Try.underlying4
    (.cons ⟨_, rfl, rfl⟩ (.cons ⟨_, rfl, rfl⟩ .nil)) (fun x hx => by
      obtain ⟨k, hk⟩ := laceCut_plain x.1 (okB_of hx.1) x.2.1
      exact ⟨f5_d (f5 k) noDr, f5_ok k FnOk.no, hk⟩) (by kernel_rfl) laidOut rfl (fun H ds h => match ds, h with
      | [_, _], _ => rfl) ownKn started (by kernel_rfl)
    (ChangeSpec.witness6 (enc := enc) (C := Try.checked) false ⟨#[], #[.agg #[.int .i64 0, .int .i64 0, .bool false, .int .i64 0, .slice none 0 0], .int .i64 0], []⟩ 8 (by kernel_rfl) (by kernel_rfl) (by kernel_rfl) (by kernel_rfl))
/-- The row: LaceCut returns true for every input that can be read as data; it changes nothing that was there. -/
theorem laceCut_holds : Rows.LaceCutSaid :=
  OpenClaim.holds_of_wide 5 Try.f5 rfl rfl rfl rfl rfl rfl rfl ⟨rfl, rfl, rfl, rfl, rfl⟩ rfl rfl rfl rfl rfl (by kernel_rfl) Try.func5 (by kernel_rfl)
    (of_decide_eq_true (by kernel_rfl)) (by unfold Func.isWrapper; first | (rw [if_pos (by decide +kernel)]; kernel_rfl) | (rw [if_neg (by decide +kernel)]; exact ⟨rfl, rfl⟩))
    (fun os started H enc _ => laceCut_lifted os started H enc)
end Go.Proofs.Ytnmoccdnkpkhhaa
