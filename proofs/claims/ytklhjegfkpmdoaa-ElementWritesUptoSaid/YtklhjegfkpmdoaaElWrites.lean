/- Proved: the law Writes returns true for every input that can be read as data. Conditions: none. -/
import Derived.Test.YtklhjegfkpmdoaaElWritesLaws

/-! The row of the law ElementWrites, of so much bulk. -/
namespace Go.Proofs.Ytklhjegfkpmdoaa
open Go Go.Am
theorem elementWrites_lifted (os : Os) (started : os.Started) (H : Type) (enc : TypeId × Value → H) (F : Stop.Interp) :
    ReturnsInHanded {} Try.checked os 13 .any ((Rows.OpenSpec.upto Rows.elementWritesSpec).pre6 enc Try.prog Try.f13 Rows.elementWritesUptoRow.domain false) (((Rows.OpenSpec.upto Rows.elementWritesSpec).at F).post enc Try.prog Try.f13 false true false false) :=
  law_lifted_upto (C := Try.checked) (cx := cx) cxOk naming fit (f := 13) (body := f13_b) Try.func13 (by kernel_rfl) (by kernel_rfl) (Ts := [29, 4]) (ts := [.slice (.named 2), .bool]) (by kernel_rfl) (B := 4) (by kernel_rfl) Try.underlying4
    (.cons ⟨_, rfl, rfl⟩ (.cons ⟨_, rfl, rfl⟩ .nil)) (N := 1048576) (fun x hx hb => by
      have w := wtL_arg x.1
      have w2 : wtL x.1 ≤ 1048576 := by simp only [argsB] at hb; omega
      obtain ⟨k, hk⟩ := elementWrites_plain x.1 x.2.1 (okL_arg hx.1) (by omega)
      exact ⟨f13_d (f13 k) noDr, f13_ok k FnOk.no, hk⟩) (by kernel_rfl) laidOut (s := Rows.elementWritesSpec) rfl (fun H ds h => match ds, h with
      | [_, _], _ => rfl) (k := Rows.uptoSmall) rfl small_bulk ownKn started (by kernel_rfl)
    (OpenSpec.witness (enc := enc) (C := Try.checked) (k := Rows.uptoSmall) rfl false ⟨#[], #[.slice none 0 0, .bool false], []⟩ 8 (by kernel_rfl) (by kernel_rfl) (by kernel_rfl) (x := ([.nil, .lit (.bool false)], [], [])) (by kernel_rfl) (by kernel_rfl) (by kernel_rfl) (by kernel_rfl))
/-- The row: ElementWrites returns true for every input of bulk at most 1,048,576 that can be read as data; it changes nothing that was there. -/
theorem elementWritesUpto_holds : Rows.ElementWritesUptoSaid :=
  OpenClaim.holds_of_cond 13 Try.f13 rfl rfl rfl rfl rfl rfl rfl ⟨rfl, rfl, rfl, rfl, rfl⟩ rfl rfl rfl rfl rfl (by kernel_rfl) Try.func13 (by kernel_rfl)
    (of_decide_eq_true (by kernel_rfl)) (by unfold Func.isWrapper; first | (rw [if_pos (by decide +kernel)]; kernel_rfl) | (rw [if_neg (by decide +kernel)]; exact ⟨rfl, rfl⟩))
    (fun os started H enc _ F => elementWrites_lifted os started H enc F)
end Go.Proofs.Ytklhjegfkpmdoaa
