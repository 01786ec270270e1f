/- Proved: the law Numbers returns true for every input that can be read as data. Conditions: none. -/
import Derived.Test.YtklhjegfkpmdoaaElNumbersLaws

set_option maxRecDepth 100000
/-! The row of the law ElementNumbers. -/
namespace Go.Proofs.Ytklhjegfkpmdoaa
open Go Go.Am
theorem elementNumbers_lifted (os : Os) (started : os.Started) (H : Type) (enc : TypeId × Value → H) :
    ReturnsInHanded {} Try.checked os 8 .any (Rows.elementNumbersSpec.pre6 enc Try.prog Try.f8 Rows.elementNumbersRow.domain false) (Rows.elementNumbersSpec.post enc Try.prog Try.f8 false true false false) :=
  law_lifted (C := Try.checked) (cx := cx) cxOk naming fit (f := 8) (body := f8_b) Try.func8 (by kernel_rfl) (by kernel_rfl) (Ts := [55, 3]) (ts := [.named 2, .int .i64]) (by kernel_rfl) (B := 4) (by kernel_rfl) Try.underlying4
    (.cons ⟨_, rfl, rfl⟩ (.cons ⟨_, rfl, rfl⟩ .nil)) (fun x hx => by
      obtain ⟨k, hk⟩ := elementNumbers_plain x.1.c0 x.1.c1 x.1.c2 x.1.c3 x.2.1 (okN_wf x.1 hx.1).by (okN_wf x.1 hx.1).id (wf_int (hx.2.1 _ (List.mem_singleton.2 rfl))).2
      exact ⟨f8_d (f8 k) noDr, f8_ok k FnOk.no, hk⟩) (by kernel_rfl) laidOut rfl (fun H ds h => match ds, h with
      | [_, _], _ => rfl) ownKn started (by kernel_rfl)
    (ChangeSpec.witness6 (enc := enc) (C := Try.checked) false ⟨#[], #[.agg #[.int .i64 0, .slice none 0 0, .slice none 0 0, .bool false], .int .i64 0], []⟩ 8 (by kernel_rfl) (by kernel_rfl) (by kernel_rfl) (by kernel_rfl))
/-- The row: ElementNumbers returns true for every input that can be read as data; it changes nothing that was there. -/
theorem elementNumbers_holds : Rows.ElementNumbersSaid :=
  OpenClaim.holds_of_wide 8 Try.f8 rfl rfl rfl rfl rfl rfl rfl ⟨rfl, rfl, rfl, rfl, rfl⟩ rfl rfl rfl rfl rfl (by kernel_rfl) Try.func8 (by kernel_rfl)
    (of_decide_eq_true (by kernel_rfl)) (by unfold Func.isWrapper; first | (rw [if_pos (by decide +kernel)]; kernel_rfl) | (rw [if_neg (by decide +kernel)]; exact ⟨rfl, rfl⟩))
    (fun os started H enc _ => elementNumbers_lifted os started H enc)
end Go.Proofs.Ytklhjegfkpmdoaa
