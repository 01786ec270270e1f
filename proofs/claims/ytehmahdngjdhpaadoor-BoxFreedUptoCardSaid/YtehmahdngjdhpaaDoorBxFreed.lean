/- Proved: the law Freed returns true for every input that can be read as data. Conditions: none. -/
import Derived.Test.YtehmahdngjdhpaaDoorBxFreedLaws

set_option maxRecDepth 100000
/-! The row and the card of the law BoxFreed. -/
namespace Go.Proofs.YtehmahdngjdhpaaDoor
open Go Go.Am
theorem boxFreed_laid (os : Os) : laidMetH Tryd.prog Rows.boxFreedUptoRow.laid ((laidWorld os).forCall (fun _ _ => 0) ⟨#[], #[.slice none 0 0, .slice none 0 0, .int .i64 0], []⟩).memory :=
  laidMetH_of_parts (laidMet_of_run' 8 (by kernel_rfl) (by kernel_rfl)) (by kernel_rfl)
theorem boxFreed_reads (os : Os) {H : Type} (enc : TypeId × Value → H) : ∃ places, DataW.whole enc Tryd.prog ((laidWorld os).forCall (fun _ _ => 0) ⟨#[], #[.slice none 0 0, .slice none 0 0, .int .i64 0], []⟩).memory Tryd.f11.params.toList Rows.boxFreedSpec.vars false #[.slice none 0 0, .slice none 0 0, .int .i64 0].toList 8 = some ([.nil, .nil, .lit (.int .i64 0)], [], places) :=
  ⟨[], by kernel_rfl⟩
theorem boxFreed_lifted (os : Os) (started : os.Started) (H : Type) (enc : TypeId × Value → H) (F : Stop.Interp) :
    ReturnsInHanded {} Tryd.checked os 11 .any ((Rows.OpenSpec.upto Rows.boxFreedSpec).preRow enc Tryd.prog Tryd.f11 Rows.boxFreedUptoRow.domain false Rows.boxFreedUptoRow.laid) (((Rows.OpenSpec.upto Rows.boxFreedSpec).at F).post enc Tryd.prog Tryd.f11 false true false false) := by
  obtain ⟨places, hx⟩ := boxFreed_reads os enc
  exact law_row (C := Tryd.checked) (cx := cx) cxOk naming fit (f := 11) (body := f11_b) Tryd.func11 (by kernel_rfl) (by kernel_rfl) (Ts := [23, 23, 3]) (ts := [.slice (.named 1), .slice (.named 1), .int .i64]) (by kernel_rfl) (B := 4) (by kernel_rfl) Tryd.underlying4
    (.cons ⟨_, rfl, rfl⟩ (.cons ⟨_, rfl, rfl⟩ (.cons ⟨_, rfl, rfl⟩ .nil))) (laid := Rows.boxFreedUptoRow.laid) (fun W h => ginv h) (N := some 1048576) (fun x hx hb => by
      have w := wtL_arg x.1
      have w1 := wtL_arg x.2.1
      have w2 := hb 1048576 rfl
      have w3 : wtL x.1 ≤ 1048576 := by simp only [argsB] at w2; omega
      have w4 : wtL x.2.1 ≤ 1048576 := by simp only [argsB] at w2; omega
      obtain ⟨k, hk⟩ := boxFreed_plain x.1 x.2.1 x.2.2.1 (okL_arg hx.1) (okL_arg hx.2.1) (by omega) (by omega)
      exact ⟨f11_d (f11 k) noDr, f11_ok k FnOk.no, hk⟩) (by kernel_rfl) laidOut (s := Rows.boxFreedSpec) rfl (fun H ds h => match ds, h with
      | [_, _, _], _ => rfl) (k := some Rows.uptoSmall) rfl (fun n hn H ds hc => by cases hn; exact small_bulk H ds (hc _ rfl)) ownKn started (by kernel_rfl)
    (witness_row_ref (enc := enc) (C := Tryd.checked) false (laidWorld os) #[.slice none 0 0, .slice none 0 0, .int .i64 0] rfl (by kernel_rfl) (by kernel_rfl) (by kernel_rfl)
      (OpenSpec.preRow_of_cond 8 hx (by kernel_rfl) (fun k hk => by cases hk; kernel_rfl) (by kernel_rfl) (boxFreed_laid os)))
theorem boxFreed_said : Rows.BoxFreedUptoSaid :=
  OpenClaim.holds_of_cond 11 Tryd.f11 rfl rfl rfl rfl rfl rfl rfl ⟨rfl, rfl, rfl, rfl, rfl⟩ rfl rfl rfl rfl rfl (by kernel_rfl) Tryd.func11 (by kernel_rfl)
    (of_decide_eq_true (by kernel_rfl)) (by unfold Func.isWrapper; first | (rw [if_pos (by decide +kernel)]; kernel_rfl) | (rw [if_neg (by decide +kernel)]; exact ⟨rfl, rfl⟩))
    (fun os started H enc _ F => by rw [OpenClaim.pre_eq_preRow]; exact boxFreed_lifted os started H enc F)
theorem boxFreed_asks (f : FuncId) (fn : Func) (hf : Tryd.pinned.checked.prog.funcNamed "diorama/dioramalaw08.BoxFreed" = some f) (hfn : Tryd.pinned.checked.prog.funcs[f]? = some fn) :
    true = Tryd.pinned.checked.prog.looks [] ∧ ∀ (j : Nat) t, fn.params[j]? = some t → Tryd.pinned.checked.prog.wantsStandIn t = false := by
  obtain rfl : f = 11 := Option.some.inj ((show Tryd.prog.funcNamed "diorama/dioramalaw08.BoxFreed" = some 11 by kernel_rfl).symm.trans hf) |>.symm
  obtain rfl : fn = Tryd.f11 := (Option.some.inj (Tryd.func11.symm.trans hfn)).symm
  refine ⟨by kernel_rfl, fun j t ht => ?_⟩
  have hall : Tryd.f11.params.toList.all (fun t => !Tryd.prog.wantsStandIn t) = true := by kernel_rfl
  have := List.all_eq_true.1 hall t (by rw [← Array.getElem?_toList] at ht; exact List.mem_of_getElem? ht)
  have : Tryd.prog.wantsStandIn t = false := by simpa using this
  exact this
/-- The card of the row: BoxFreed returns true for every input of bulk at most 1,048,576 that can be read as data; it changes nothing that was there. -/
theorem boxFreedUpto_holds : Rows.BoxFreedUptoCardSaid :=
  Claim7.holds_tied_plain_at .later [] _ _ _ _ boxFreed_said (fun _ h => by cases h) (by kernel_rfl) (fun _ h => by cases h) boxFreedUpto_row_tie rfl ⟨rfl, rfl⟩ (by kernel_rfl) rfl boxFreed_asks (by kernel_rfl)
end Go.Proofs.YtehmahdngjdhpaaDoor
