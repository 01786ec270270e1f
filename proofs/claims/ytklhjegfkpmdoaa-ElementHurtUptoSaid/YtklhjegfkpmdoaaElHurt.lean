/- Proved: the law Hurt returns true for every input that can be read as data. Conditions: none. -/
import Derived.Test.YtklhjegfkpmdoaaElHurtLaws

/-! The row of the law ElementHurt, of so much bulk. -/
namespace Go.Proofs.Ytklhjegfkpmdoaa
open Go Go.Am
theorem elementHurt_lifted (os : Os) (started : os.Started) (H : Type) (enc : TypeId × Value → H) (F : Stop.Interp) :
    ReturnsInHanded {} Try.checked os 14 .any ((Rows.OpenSpec.upto Rows.elementHurtSpec).pre6 enc Try.prog Try.f14 Rows.elementHurtUptoRow.domain false) (((Rows.OpenSpec.upto Rows.elementHurtSpec).at F).post enc Try.prog Try.f14 false true false false) :=
  law_lifted_upto (C := Try.checked) (cx := cx) cxOk naming fit (f := 14) (body := f14_b) Try.func14 (by kernel_rfl) (by kernel_rfl) (Ts := [55, 3, 3]) (ts := [.named 2, .int .i64, .int .i64]) (by kernel_rfl) (B := 4) (by kernel_rfl) Try.underlying4
    (.cons ⟨_, rfl, rfl⟩ (.cons ⟨_, rfl, rfl⟩ (.cons ⟨_, rfl, rfl⟩ .nil))) (N := 1048576) (fun x hx hb => by
      have w := wt_bulk x.1
      have w2 : ivBL (deep2 x.1) + (ivBL (deep cx (.int .i64) x.2.1) + (ivBL (deep cx (.int .i64) x.2.2.1) + 0)) ≤ 1048576 := hb
      obtain ⟨k, hk⟩ := elementHurt_plain x.1 x.2.1 x.2.2.1 (okN_wf x.1 hx.1) (by omega)
      exact ⟨f14_d (f14 k) noDr, f14_ok k FnOk.no, hk⟩) (by kernel_rfl) laidOut (s := Rows.elementHurtSpec) rfl (fun H ds h => match ds, h with
      | [_, _, _], _ => rfl) (k := Rows.uptoSmall) rfl small_bulk ownKn started (by kernel_rfl)
    (OpenSpec.witness (enc := enc) (C := Try.checked) (k := Rows.uptoSmall) rfl false ⟨#[], #[.agg #[.int .i64 0, .slice none 0 0, .slice none 0 0, .bool false], .int .i64 0, .int .i64 0], []⟩ 8 (by kernel_rfl) (by kernel_rfl) (by kernel_rfl) (x := ([.agg [.lit (.int .i64 0), .nil, .nil, .lit (.bool false)], .lit (.int .i64 0), .lit (.int .i64 0)], [], [])) (by kernel_rfl) (by kernel_rfl) (by kernel_rfl) (by kernel_rfl))
/-- The row: ElementHurt returns true for every input of bulk at most 1,048,576 that can be read as data; it changes nothing that was there. -/
theorem elementHurtUpto_holds : Rows.ElementHurtUptoSaid :=
  OpenClaim.holds_of_cond 14 Try.f14 rfl rfl rfl rfl rfl rfl rfl ⟨rfl, rfl, rfl, rfl, rfl⟩ rfl rfl rfl rfl rfl (by kernel_rfl) Try.func14 (by kernel_rfl)
    (of_decide_eq_true (by kernel_rfl)) (by unfold Func.isWrapper; first | (rw [if_pos (by decide +kernel)]; kernel_rfl) | (rw [if_neg (by decide +kernel)]; exact ⟨rfl, rfl⟩))
    (fun os started H enc _ F => elementHurt_lifted os started H enc F)
end Go.Proofs.Ytklhjegfkpmdoaa
