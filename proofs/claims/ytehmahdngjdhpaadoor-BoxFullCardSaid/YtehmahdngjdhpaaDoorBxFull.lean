/- Proved: the law Full returns true for every input that can be read as data. Conditions: none. -/
import Derived.Test.YtehmahdngjdhpaaDoorBxFullLaws

set_option maxRecDepth 100000
/-! The row and the card of the law BoxFull. -/
namespace Go.Proofs.YtehmahdngjdhpaaDoor
open Go Go.Am
theorem boxFull_laid (os : Os) : laidMetH Tryd.prog Rows.boxFullRow.laid ((laidWorld os).forCall (fun _ _ => 0) ⟨#[], #[.agg #[.string ⟨#[]⟩, .int .i64 0, .int .i64 0, .slice none 0 0], .agg #[.int .i64 0, .slice none 0 0, .slice none 0 0, .bool false]], []⟩).memory :=
  laidMetH_of_parts (laidMet_of_run' 8 (by kernel_rfl) (by kernel_rfl)) (by kernel_rfl)
theorem boxFull_reads (os : Os) {H : Type} (enc : TypeId × Value → H) : ∃ places, DataW.whole enc Tryd.prog ((laidWorld os).forCall (fun _ _ => 0) ⟨#[], #[.agg #[.string ⟨#[]⟩, .int .i64 0, .int .i64 0, .slice none 0 0], .agg #[.int .i64 0, .slice none 0 0, .slice none 0 0, .bool false]], []⟩).memory Tryd.f7.params.toList Rows.boxFullSpec.vars false #[.agg #[.string ⟨#[]⟩, .int .i64 0, .int .i64 0, .slice none 0 0], .agg #[.int .i64 0, .slice none 0 0, .slice none 0 0, .bool false]].toList 8 = some ([.agg [.lit (.string []), .lit (.int .i64 0), .lit (.int .i64 0), .nil], .agg [.lit (.int .i64 0), .nil, .nil, .lit (.bool false)]], [], places) :=
  ⟨[], by kernel_rfl⟩
theorem boxFull_lifted (os : Os) (started : os.Started) (H : Type) (enc : TypeId × Value → H) (F : Stop.Interp) :
    ReturnsInHanded {} Tryd.checked os 7 .any ((OpenSpec.ofChange Rows.boxFullSpec).preRow enc Tryd.prog Tryd.f7 Rows.boxFullRow.domain false Rows.boxFullRow.laid) (((OpenSpec.ofChange Rows.boxFullSpec).at F).post enc Tryd.prog Tryd.f7 false true false false) := by
  obtain ⟨places, hx⟩ := boxFull_reads os enc
  exact law_row (C := Tryd.checked) (cx := cx) cxOk naming fit (f := 7) (body := f7_b) Tryd.func7 (by kernel_rfl) (by kernel_rfl) (Ts := [51, 38]) (ts := [.named 2, .named 1]) (by kernel_rfl) (B := 4) (by kernel_rfl) Tryd.underlying4
    (.cons ⟨_, rfl, rfl⟩ (.cons ⟨_, rfl, rfl⟩ .nil)) (laid := Rows.boxFullRow.laid) (fun W h => ginv h) (N := none) (fun x hx _ => by
      have h1 := wf_str (hx.1 (.str x.1.1) (by simp [deep, cx, mkCx, deeps, deep2]))
      have h2 := wf_bytes (z := 1) (l := x.1.2.2.2) (hx.1 _ (by show _ ∈ deep2 x.1; simp [deep2]))
      obtain ⟨k, hk⟩ := boxFull_plain x.1.1 h1 x.1.2.1 x.1.2.2.1 x.1.2.2.2 h2.2 h2.1 x.2.1 (okN_wf x.2.1 hx.2.1)
      exact ⟨f7_d (f7 k) noDr, f7_ok k FnOk.no, hk⟩) (by kernel_rfl) laidOut (s := Rows.boxFullSpec) rfl (fun H ds h => match ds, h with
      | [_, _], _ => rfl) (k := none) rfl (fun n hn => by cases hn) ownKn started (by kernel_rfl)
    (witness_row_ref (enc := enc) (C := Tryd.checked) false (laidWorld os) #[.agg #[.string ⟨#[]⟩, .int .i64 0, .int .i64 0, .slice none 0 0], .agg #[.int .i64 0, .slice none 0 0, .slice none 0 0, .bool false]] rfl (by kernel_rfl) (by kernel_rfl) (by kernel_rfl)
      (OpenSpec.preRow_of_cond 8 hx (by kernel_rfl) (fun k hk => by cases hk) (by kernel_rfl) (boxFull_laid os)))
theorem boxFull_said : Rows.BoxFullSaid :=
  OpenClaim.holds_of_cond 7 Tryd.f7 rfl rfl rfl rfl rfl rfl rfl ⟨rfl, rfl, rfl, rfl, rfl⟩ rfl rfl rfl rfl rfl (by kernel_rfl) Tryd.func7 (by kernel_rfl)
    (of_decide_eq_true (by kernel_rfl)) (by unfold Func.isWrapper; first | (rw [if_pos (by decide +kernel)]; kernel_rfl) | (rw [if_neg (by decide +kernel)]; exact ⟨rfl, rfl⟩))
    (fun os started H enc _ F => by rw [OpenClaim.pre_eq_preRow]; exact boxFull_lifted os started H enc F)
theorem boxFull_asks (f : FuncId) (fn : Func) (hf : Tryd.pinned.checked.prog.funcNamed "diorama/dioramalaw08.BoxFull" = some f) (hfn : Tryd.pinned.checked.prog.funcs[f]? = some fn) :
    true = Tryd.pinned.checked.prog.looks [] ∧ ∀ (j : Nat) t, fn.params[j]? = some t → Tryd.pinned.checked.prog.wantsStandIn t = false := by
  obtain rfl : f = 7 := Option.some.inj ((show Tryd.prog.funcNamed "diorama/dioramalaw08.BoxFull" = some 7 by kernel_rfl).symm.trans hf) |>.symm
  obtain rfl : fn = Tryd.f7 := (Option.some.inj (Tryd.func7.symm.trans hfn)).symm
  refine ⟨by kernel_rfl, fun j t ht => ?_⟩
  have hall : Tryd.f7.params.toList.all (fun t => !Tryd.prog.wantsStandIn t) = true := by kernel_rfl
  have := List.all_eq_true.1 hall t (by rw [← Array.getElem?_toList] at ht; exact List.mem_of_getElem? ht)
  have : Tryd.prog.wantsStandIn t = false := by simpa using this
  exact this
/-- The card of the row: BoxFull returns true for every input that can be read as data; it changes nothing that was there. -/
theorem boxFull_holds : Rows.BoxFullCardSaid :=
  Claim7.holds_tied_plain_at .later [] _ _ _ _ boxFull_said (fun _ h => by cases h) (by kernel_rfl) (fun _ h => by cases h) boxFull_row_tie rfl ⟨rfl, rfl⟩ (by kernel_rfl) rfl boxFull_asks (by kernel_rfl)
end Go.Proofs.YtehmahdngjdhpaaDoor
