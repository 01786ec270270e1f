/- Proved: the law ElementIds returns true for every input that can be read as data. Conditions: none. -/
import Derived.Test.YtklhjegfkpmdoaaElIdsLaws

/-! The row of the law ElementIds. -/
namespace Go.Proofs.Ytklhjegfkpmdoaa
open Go Go.Am
theorem elementIds_lifted (os : Os) (started : os.Started) (H : Type) (enc : TypeId × Value → H) :
    ReturnsInHanded {} Try.checked os 7 .any (Rows.elementIdsSpec.pre6 enc Try.prog Try.f7 Rows.elementIdsRow.domain false) (Rows.elementIdsSpec.post enc Try.prog Try.f7 false true false false) :=
  law_lifted (C := Try.checked) (cx := cx) cxOk naming fit (f := 7) (body := f7_b) Try.func7 (by kernel_rfl) (by kernel_rfl) (Ts := [22, 3]) (ts := [.slice (.int .u8), .int .i64]) (by kernel_rfl) (B := 4) (by kernel_rfl) Try.underlying4
    (.cons ⟨_, rfl, rfl⟩ (.cons ⟨_, rfl, rfl⟩ .nil)) (fun x hx => by
      have hb := wf_bytes (z := 1) (hx.1 _ (List.mem_singleton.2 rfl))
      obtain ⟨k, hk⟩ := elementIds_plain x.1 hb.2 hb.1 x.2.1
      exact ⟨f7_d (f7 k) noDr, f7_ok k FnOk.no, hk⟩) (by kernel_rfl) laidOut rfl (fun H ds h => match ds, h with
      | [_, _], _ => rfl) ownKn started (by kernel_rfl)
    (ChangeSpec.witness6 (enc := enc) (C := Try.checked) false ⟨#[], #[.slice none 0 0, .int .i64 0], []⟩ 8 (by kernel_rfl) (by kernel_rfl) (by kernel_rfl) (by kernel_rfl))
/-- The row: ElementIds returns true for every input that can be read as data; it changes nothing that was there. -/
theorem elementIds_holds : Rows.ElementIdsSaid :=
  OpenClaim.holds_of_wide 7 Try.f7 rfl rfl rfl rfl rfl rfl rfl ⟨rfl, rfl, rfl, rfl, rfl⟩ rfl rfl rfl rfl rfl (by kernel_rfl) Try.func7 (by kernel_rfl)
    (of_decide_eq_true (by kernel_rfl)) (by unfold Func.isWrapper; first | (rw [if_pos (by decide +kernel)]; kernel_rfl) | (rw [if_neg (by decide +kernel)]; exact ⟨rfl, rfl⟩))
    (fun os started H enc _ => elementIds_lifted os started H enc)
end Go.Proofs.Ytklhjegfkpmdoaa
