/- Proved: the law Voids returns true for every input that can be read as data. Conditions: none. -/
import Derived.Test.YtklhjegfkpmdoaaElVoidsLaws

/-! The row of the law ElementVoids, of so much bulk. -/
namespace Go.Proofs.Ytklhjegfkpmdoaa
open Go Go.Am
theorem elementVoids_lifted (os : Os) (started : os.Started) (H : Type) (enc : TypeId × Value → H) (F : Stop.Interp) :
    ReturnsInHanded {} Try.checked os 10 .any ((Rows.OpenSpec.upto Rows.elementVoidsSpec).pre6 enc Try.prog Try.f10 Rows.elementVoidsUptoRow.domain false) (((Rows.OpenSpec.upto Rows.elementVoidsSpec).at F).post enc Try.prog Try.f10 false true false false) :=
  law_lifted_upto (C := Try.checked) (cx := cx) cxOk naming fit (f := 10) (body := f10_b) Try.func10 (by kernel_rfl) (by kernel_rfl) (Ts := [63]) (ts := [.named 3]) (by kernel_rfl) (B := 4) (by kernel_rfl) Try.underlying4
    (.cons ⟨_, rfl, rfl⟩ .nil) (N := 1048576) (fun x hx hb => by
      have hd : deep cx (.named 3) x.1 = deep cx (.slice (.named 2)) x.1.1 ++ [IV.int .i64 x.1.2.1, .int .i64 x.1.2.2.1, .int .i64 x.1.2.2.2] := rfl
      have hx1 := hx.1
      rw [hd] at hx1
      have w := wtL_arg x.1.1
      obtain ⟨zz, e⟩ : ∃ z, deep cx (.slice (.named 2)) x.1.1 = [.list z (x.1.1.map fun y => deep2 y)] := ⟨_, rfl⟩
      have w2 : wtL x.1.1 ≤ 1048576 := by
        have hb : ivBL (deep cx (.named 3) x.1) + 0 ≤ 1048576 := hb
        rw [hd, e] at hb
        rw [e] at w
        simp only [ivBL, List.singleton_append] at hb w
        omega
      have r1 := hx1 _ (List.mem_append_right _ (List.mem_cons_self ..))
      have r2 := hx1 _ (List.mem_append_right _ (List.mem_cons_of_mem _ (List.mem_cons_self ..)))
      obtain ⟨k, hk⟩ := elementVoids_plain x.1.1 x.1.2.1 x.1.2.2.1 x.1.2.2.2 (okL_arg fun iv hi => hx1 iv (List.mem_append_left _ hi)) (by omega) (wf_int r1).2 (wf_int r2).2
      exact ⟨f10_d (f10 k) noDr, f10_ok k FnOk.no, hk⟩) (by kernel_rfl) laidOut (s := Rows.elementVoidsSpec) rfl (fun H ds h => match ds, h with
      | [_], _ => rfl) (k := Rows.uptoSmall) rfl small_bulk ownKn started (by kernel_rfl)
    (OpenSpec.witness (enc := enc) (C := Try.checked) (k := Rows.uptoSmall) rfl false ⟨#[], #[.agg #[.slice none 0 0, .int .i64 0, .int .i64 0, .int .i64 0]], []⟩ 8 (by kernel_rfl) (by kernel_rfl) (by kernel_rfl) (x := ([.agg [.nil, .lit (.int .i64 0), .lit (.int .i64 0), .lit (.int .i64 0)]], [], [])) (by kernel_rfl) (by kernel_rfl) (by kernel_rfl) (by kernel_rfl))
/-- The row: ElementVoids returns true for every input of bulk at most 1,048,576 that can be read as data; it changes nothing that was there. -/
theorem elementVoidsUpto_holds : Rows.ElementVoidsUptoSaid :=
  OpenClaim.holds_of_cond 10 Try.f10 rfl rfl rfl rfl rfl rfl rfl ⟨rfl, rfl, rfl, rfl, rfl⟩ rfl rfl rfl rfl rfl (by kernel_rfl) Try.func10 (by kernel_rfl)
    (of_decide_eq_true (by kernel_rfl)) (by unfold Func.isWrapper; first | (rw [if_pos (by decide +kernel)]; kernel_rfl) | (rw [if_neg (by decide +kernel)]; exact ⟨rfl, rfl⟩))
    (fun os started H enc _ F => elementVoids_lifted os started H enc F)
end Go.Proofs.Ytklhjegfkpmdoaa
