/- Proved: the law Begins returns true for every input that can be read as data. Conditions: none. -/
import Derived.Test.YtehmahdngjdhpaaDoorBxBeginsLaws

set_option maxRecDepth 100000
/-! The row and the card of the law BoxBegins. -/
namespace Go.Proofs.YtehmahdngjdhpaaDoor
open Go Go.Am
theorem boxBegins_laid (os : Os) : laidMetH Tryd.prog Rows.boxBeginsUptoRow.laid ((laidWorld os).forCall (fun _ _ => 0) ⟨#[], #[.slice none 0 0, .int .i64 0, .bool false], []⟩).memory :=
  laidMetH_of_parts (laidMet_of_run' 8 (by kernel_rfl) (by kernel_rfl)) (by kernel_rfl)
theorem boxBegins_reads (os : Os) {H : Type} (enc : TypeId × Value → H) : ∃ places, DataW.whole enc Tryd.prog ((laidWorld os).forCall (fun _ _ => 0) ⟨#[], #[.slice none 0 0, .int .i64 0, .bool false], []⟩).memory Tryd.f10.params.toList Rows.boxBeginsSpec.vars false #[.slice none 0 0, .int .i64 0, .bool false].toList 8 = some ([.nil, .lit (.int .i64 0), .lit (.bool false)], [], places) :=
  ⟨[], by kernel_rfl⟩
theorem boxBegins_lifted (os : Os) (started : os.Started) (H : Type) (enc : TypeId × Value → H) (F : Stop.Interp) :
    ReturnsInHanded {} Tryd.checked os 10 .any ((Rows.OpenSpec.upto Rows.boxBeginsSpec).preRow enc Tryd.prog Tryd.f10 Rows.boxBeginsUptoRow.domain false Rows.boxBeginsUptoRow.laid) (((Rows.OpenSpec.upto Rows.boxBeginsSpec).at F).post enc Tryd.prog Tryd.f10 false true false false) := by
  obtain ⟨places, hx⟩ := boxBegins_reads os enc
  exact law_row (C := Tryd.checked) (cx := cx) cxOk naming fit (f := 10) (body := f10_b) Tryd.func10 (by kernel_rfl) (by kernel_rfl) (Ts := [23, 3, 4]) (ts := [.slice (.named 1), .int .i64, .bool]) (by kernel_rfl) (B := 4) (by kernel_rfl) Tryd.underlying4
    (.cons ⟨_, rfl, rfl⟩ (.cons ⟨_, rfl, rfl⟩ (.cons ⟨_, rfl, rfl⟩ .nil))) (laid := Rows.boxBeginsUptoRow.laid) (fun W h => ginv h) (N := some 1048576) (fun x hx hb => by
      obtain ⟨l, n, g, u⟩ := x
      have w := wtL_arg l
      have w2 := hb 1048576 rfl
      have w3 : wtL l ≤ 1048576 := by simp only [argsB] at w2; omega
      cases g with
      | false =>
        obtain ⟨k, hk⟩ := f10_v l (okL_arg hx.1) (by omega) n
        exact ⟨f10_d (f10 k) noDr, f10_ok k FnOk.no, hk⟩
      | true =>
        obtain ⟨k, hk⟩ := f10_2_v l (okL_arg hx.1) (by omega) n
        exact ⟨f10_2_d (f10_2 k) noDr, f10_2_ok k FnOk.no, hk⟩) (by kernel_rfl) laidOut (s := Rows.boxBeginsSpec) rfl (fun H ds h => match ds, h with
      | [_, _, _], _ => rfl) (k := some Rows.uptoSmall) rfl (fun n hn H ds hc => by cases hn; exact small_bulk H ds (hc _ rfl)) ownKn started (by kernel_rfl)
    (witness_row_ref (enc := enc) (C := Tryd.checked) false (laidWorld os) #[.slice none 0 0, .int .i64 0, .bool false] rfl (by kernel_rfl) (by kernel_rfl) (by kernel_rfl)
      (OpenSpec.preRow_of_cond 8 hx (by kernel_rfl) (fun k hk => by cases hk; kernel_rfl) (by kernel_rfl) (boxBegins_laid os)))
theorem boxBegins_said : Rows.BoxBeginsUptoSaid :=
  OpenClaim.holds_of_cond 10 Tryd.f10 rfl rfl rfl rfl rfl rfl rfl ⟨rfl, rfl, rfl, rfl, rfl⟩ rfl rfl rfl rfl rfl (by kernel_rfl) Tryd.func10 (by kernel_rfl)
    (of_decide_eq_true (by kernel_rfl)) (by unfold Func.isWrapper; first | (rw [if_pos (by decide +kernel)]; kernel_rfl) | (rw [if_neg (by decide +kernel)]; exact ⟨rfl, rfl⟩))
    (fun os started H enc _ F => by rw [OpenClaim.pre_eq_preRow]; exact boxBegins_lifted os started H enc F)
theorem boxBegins_asks (f : FuncId) (fn : Func) (hf : Tryd.pinned.checked.prog.funcNamed "diorama/dioramalaw08.BoxBegins" = some f) (hfn : Tryd.pinned.checked.prog.funcs[f]? = some fn) :
    true = Tryd.pinned.checked.prog.looks [] ∧ ∀ (j : Nat) t, fn.params[j]? = some t → Tryd.pinned.checked.prog.wantsStandIn t = false := by
  obtain rfl : f = 10 := Option.some.inj ((show Tryd.prog.funcNamed "diorama/dioramalaw08.BoxBegins" = some 10 by kernel_rfl).symm.trans hf) |>.symm
  obtain rfl : fn = Tryd.f10 := (Option.some.inj (Tryd.func10.symm.trans hfn)).symm
  refine ⟨by kernel_rfl, fun j t ht => ?_⟩
  have hall : Tryd.f10.params.toList.all (fun t => !Tryd.prog.wantsStandIn t) = true := by kernel_rfl
  have := List.all_eq_true.1 hall t (by rw [← Array.getElem?_toList] at ht; exact List.mem_of_getElem? ht)
  have : Tryd.prog.wantsStandIn t = false := by simpa using this
  exact this
/-- The card of the row: BoxBegins returns true for every input of bulk at most 1,048,576 that can be read as data; it changes nothing that was there. -/
theorem boxBeginsUpto_holds : Rows.BoxBeginsUptoCardSaid :=
  Claim7.holds_tied_plain_at .later [] _ _ _ _ boxBegins_said (fun _ h => by cases h) (by kernel_rfl) (fun _ h => by cases h) boxBeginsUpto_row_tie rfl ⟨rfl, rfl⟩ (by kernel_rfl) rfl boxBegins_asks (by kernel_rfl)
end Go.Proofs.YtehmahdngjdhpaaDoor
