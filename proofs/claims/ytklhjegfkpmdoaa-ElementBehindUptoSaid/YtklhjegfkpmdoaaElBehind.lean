/- Proved: the law Behind returns true for every input that can be read as data. Conditions: none. -/
import Derived.Test.YtklhjegfkpmdoaaElBehindLaws

/-! The row of the law ElementBehind, of so much bulk. -/
namespace Go.Proofs.Ytklhjegfkpmdoaa
open Go Go.Am
theorem elementBehind_lifted (os : Os) (started : os.Started) (H : Type) (enc : TypeId × Value → H) (F : Stop.Interp) :
    ReturnsInHanded {} Try.checked os 12 .any ((Rows.OpenSpec.upto Rows.elementBehindSpec).pre6 enc Try.prog Try.f12 Rows.elementBehindUptoRow.domain false) (((Rows.OpenSpec.upto Rows.elementBehindSpec).at F).post enc Try.prog Try.f12 false true false false) :=
  law_lifted_upto (C := Try.checked) (cx := cx) cxOk naming fit (f := 12) (body := f12_b) Try.func12 (by kernel_rfl) (by kernel_rfl) (Ts := [55, 22]) (ts := [.named 2, .slice (.int .u8)]) (by kernel_rfl) (B := 4) (by kernel_rfl) Try.underlying4
    (.cons ⟨_, rfl, rfl⟩ (.cons ⟨_, rfl, rfl⟩ .nil)) (N := 1048576) (fun x hx hb => by
      have w := wt_bulk x.1
      have w1 := byt_arg x.2.1
      have w2 : ivBL (deep2 x.1) + (ivBL (deep cx (.slice (.int .u8)) x.2.1) + 0) ≤ 1048576 := hb
      have hm := wf_bytes (z := 1) (hx.2.1 _ (List.mem_singleton.2 rfl))
      obtain ⟨k, hk⟩ := elementBehind_plain x.1 x.2.1 (okN_wf x.1 hx.1) hm.2 (by omega) (by omega)
      exact ⟨f12_d (f12 k) noDr, f12_ok k FnOk.no, hk⟩) (by kernel_rfl) laidOut (s := Rows.elementBehindSpec) rfl (fun H ds h => match ds, h with
      | [_, _], _ => rfl) (k := Rows.uptoSmall) rfl small_bulk ownKn started (by kernel_rfl)
    (OpenSpec.witness (enc := enc) (C := Try.checked) (k := Rows.uptoSmall) rfl false ⟨#[], #[.agg #[.int .i64 0, .slice none 0 0, .slice none 0 0, .bool false], .slice none 0 0], []⟩ 8 (by kernel_rfl) (by kernel_rfl) (by kernel_rfl) (x := ([.agg [.lit (.int .i64 0), .nil, .nil, .lit (.bool false)], .nil], [], [])) (by kernel_rfl) (by kernel_rfl) (by kernel_rfl) (by kernel_rfl))
/-- The row: ElementBehind returns true for every input of bulk at most 1,048,576 that can be read as data; it changes nothing that was there. -/
theorem elementBehindUpto_holds : Rows.ElementBehindUptoSaid :=
  OpenClaim.holds_of_cond 12 Try.f12 rfl rfl rfl rfl rfl rfl rfl ⟨rfl, rfl, rfl, rfl, rfl⟩ rfl rfl rfl rfl rfl (by kernel_rfl) Try.func12 (by kernel_rfl)
    (of_decide_eq_true (by kernel_rfl)) (by unfold Func.isWrapper; first | (rw [if_pos (by decide +kernel)]; kernel_rfl) | (rw [if_neg (by decide +kernel)]; exact ⟨rfl, rfl⟩))
    (fun os started H enc _ F => elementBehind_lifted os started H enc F)
end Go.Proofs.Ytklhjegfkpmdoaa
