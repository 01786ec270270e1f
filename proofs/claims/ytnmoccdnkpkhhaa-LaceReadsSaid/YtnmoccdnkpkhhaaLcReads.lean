/- Proved: the law LaceReads returns true for every input that can be read as data. Conditions: none. -/
import Derived.Test.YtnmoccdnkpkhhaaLcLaws4

/-! The row of the law LaceReads. -/
namespace Go.Proofs.Ytnmoccdnkpkhhaa
open Go Go.Am
theorem laceReads_lifted (os : Os) (started : os.Started) (H : Type) (enc : TypeId × Value → H) :
    ReturnsInHanded {} Try.checked os 6 .any (Rows.laceReadsSpec.pre6 enc Try.prog Try.f6 Rows.laceReadsRow.domain false) (Rows.laceReadsSpec.post enc Try.prog Try.f6 false true false false) :=
  law_lifted (C := Try.checked) (cx := cx) cxOk naming fit (f := 6) (body := f6_b) Try.func6 (by kernel_rfl) (by kernel_rfl) (Ts := [26]) (ts := [.slice (.int .u8)]) (by kernel_rfl) (B := 4) (by kernel_rfl) Try.underlying4
    (.cons ⟨_, rfl, rfl⟩ .nil) (fun x hx => by
      have hb := wf_bytes (z := 1) (hx.1 _ (List.mem_singleton.2 rfl))
      obtain ⟨k, hk⟩ := laceReads_plain x.1 hb.2 hb.1
      exact ⟨f6_d (f6 k) noDr, f6_ok k FnOk.no, hk⟩) (by kernel_rfl) laidOut rfl (fun H ds h => match ds, h with
      | [_], _ => rfl) ownKn started (by kernel_rfl)
    (ChangeSpec.witness6 (enc := enc) (C := Try.checked) false ⟨#[], #[.slice none 0 0], []⟩ 8 (by kernel_rfl) (by kernel_rfl) (by kernel_rfl) (by kernel_rfl))
/-- The row: LaceReads returns true for every input that can be read as data; it changes nothing that was there. -/
theorem laceReads_holds : Rows.LaceReadsSaid :=
  OpenClaim.holds_of_wide 6 Try.f6 rfl rfl rfl rfl rfl rfl rfl ⟨rfl, rfl, rfl, rfl, rfl⟩ rfl rfl rfl rfl rfl (by kernel_rfl) Try.func6 (by kernel_rfl)
    (of_decide_eq_true (by kernel_rfl)) (by unfold Func.isWrapper; first | (rw [if_pos (by decide +kernel)]; kernel_rfl) | (rw [if_neg (by decide +kernel)]; exact ⟨rfl, rfl⟩))
    (fun os started H enc _ => laceReads_lifted os started H enc)
end Go.Proofs.Ytnmoccdnkpkhhaa
