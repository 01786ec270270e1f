/- Proved: the law Covers returns true for every input that can be read as data. Conditions: none. -/
import Derived.Test.YtklhjegfkpmdoaaElCoversLaws

/-! The row of the law ElementCovers. -/
namespace Go.Proofs.Ytklhjegfkpmdoaa
open Go Go.Am
theorem elementCovers_lifted (os : Os) (started : os.Started) (H : Type) (enc : TypeId × Value → H) :
    ReturnsInHanded {} Try.checked os 5 .any (Rows.elementCoversSpec.pre6 enc Try.prog Try.f5 Rows.elementCoversRow.domain false) (Rows.elementCoversSpec.post enc Try.prog Try.f5 false true false false) :=
  law_lifted (C := Try.checked) (cx := cx) cxOk naming fit (f := 5) (body := f5_b) Try.func5 (by kernel_rfl) (by kernel_rfl) (Ts := [22]) (ts := [.slice (.int .u8)]) (by kernel_rfl) (B := 4) (by kernel_rfl) Try.underlying4
    (.cons ⟨_, rfl, rfl⟩ .nil) (fun x hx => by
      have hb := wf_bytes (z := 1) (hx.1 _ (List.mem_singleton.2 rfl))
      obtain ⟨k, hk⟩ := elementCovers_plain x.1 hb.2
      exact ⟨f5_d (f5 k) noDr, f5_ok k FnOk.no, hk⟩) (by kernel_rfl) laidOut rfl (fun H ds h => match ds, h with
      | [_], _ => rfl) ownKn started (by kernel_rfl)
    (ChangeSpec.witness6 (enc := enc) (C := Try.checked) false ⟨#[], #[.slice none 0 0], []⟩ 8 (by kernel_rfl) (by kernel_rfl) (by kernel_rfl) (by kernel_rfl))
/-- The row: ElementCovers returns true for every input that can be read as data; it changes nothing that was there. -/
theorem elementCovers_holds : Rows.ElementCoversSaid :=
  OpenClaim.holds_of_wide 5 Try.f5 rfl rfl rfl rfl rfl rfl rfl ⟨rfl, rfl, rfl, rfl, rfl⟩ rfl rfl rfl rfl rfl (by kernel_rfl) Try.func5 (by kernel_rfl)
    (of_decide_eq_true (by kernel_rfl)) (by unfold Func.isWrapper; first | (rw [if_pos (by decide +kernel)]; kernel_rfl) | (rw [if_neg (by decide +kernel)]; exact ⟨rfl, rfl⟩))
    (fun os started H enc _ => elementCovers_lifted os started H enc)
end Go.Proofs.Ytklhjegfkpmdoaa
