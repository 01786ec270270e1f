/- Proved: the law Covers returns true for every input that can be read as data. Conditions: none. -/
import Derived.Test.YtehmahdngjdhpaaDoorBxCoversLaws

set_option maxRecDepth 100000
/-! The row and the card of the law BoxCovers. -/
namespace Go.Proofs.YtehmahdngjdhpaaDoor
open Go Go.Am
theorem boxCovers_laid (os : Os) : laidMetH Tryd.prog Rows.boxCoversRow.laid ((laidWorld os).forCall (fun _ _ => 0) ⟨#[], #[.slice none 0 0], []⟩).memory :=
  laidMetH_of_parts (laidMet_of_run' 8 (by kernel_rfl) (by kernel_rfl)) (by kernel_rfl)
theorem boxCovers_reads (os : Os) {H : Type} (enc : TypeId × Value → H) : ∃ places, DataW.whole enc Tryd.prog ((laidWorld os).forCall (fun _ _ => 0) ⟨#[], #[.slice none 0 0], []⟩).memory Tryd.f8.params.toList Rows.boxCoversSpec.vars false #[.slice none 0 0].toList 8 = some ([.nil], [], places) :=
  ⟨[], by kernel_rfl⟩
theorem boxCovers_lifted (os : Os) (started : os.Started) (H : Type) (enc : TypeId × Value → H) (F : Stop.Interp) :
    ReturnsInHanded {} Tryd.checked os 8 .any ((OpenSpec.ofChange Rows.boxCoversSpec).preRow enc Tryd.prog Tryd.f8 Rows.boxCoversRow.domain false Rows.boxCoversRow.laid) (((OpenSpec.ofChange Rows.boxCoversSpec).at F).post enc Tryd.prog Tryd.f8 false true false false) := by
  obtain ⟨places, hx⟩ := boxCovers_reads os enc
  exact law_row (C := Tryd.checked) (cx := cx) cxOk naming fit (f := 8) (body := f8_b) Tryd.func8 (by kernel_rfl) (by kernel_rfl) (Ts := [22]) (ts := [.slice (.int .u8)]) (by kernel_rfl) (B := 4) (by kernel_rfl) Tryd.underlying4
    (.cons ⟨_, rfl, rfl⟩ .nil) (laid := Rows.boxCoversRow.laid) (fun W h => ginv h) (N := none) (fun x hx _ => by
      have hb := wf_bytes (z := 1) (l := x.1) (hx.1 _ (List.mem_singleton.2 rfl))
      obtain ⟨k, hk⟩ := boxCovers_plain x.1 hb.2
      exact ⟨f8_d (f8 k) noDr, f8_ok k FnOk.no, hk⟩) (by kernel_rfl) laidOut (s := Rows.boxCoversSpec) rfl (fun H ds h => match ds, h with
      | [_], _ => rfl) (k := none) rfl (fun n hn => by cases hn) ownKn started (by kernel_rfl)
    (witness_row_ref (enc := enc) (C := Tryd.checked) false (laidWorld os) #[.slice none 0 0] rfl (by kernel_rfl) (by kernel_rfl) (by kernel_rfl)
      (OpenSpec.preRow_of_cond 8 hx (by kernel_rfl) (fun k hk => by cases hk) (by kernel_rfl) (boxCovers_laid os)))
theorem boxCovers_said : Rows.BoxCoversSaid :=
  OpenClaim.holds_of_cond 8 Tryd.f8 rfl rfl rfl rfl rfl rfl rfl ⟨rfl, rfl, rfl, rfl, rfl⟩ rfl rfl rfl rfl rfl (by kernel_rfl) Tryd.func8 (by kernel_rfl)
    (of_decide_eq_true (by kernel_rfl)) (by unfold Func.isWrapper; first | (rw [if_pos (by decide +kernel)]; kernel_rfl) | (rw [if_neg (by decide +kernel)]; exact ⟨rfl, rfl⟩))
    (fun os started H enc _ F => by rw [OpenClaim.pre_eq_preRow]; exact boxCovers_lifted os started H enc F)
theorem boxCovers_asks (f : FuncId) (fn : Func) (hf : Tryd.pinned.checked.prog.funcNamed "diorama/dioramalaw08.BoxCovers" = some f) (hfn : Tryd.pinned.checked.prog.funcs[f]? = some fn) :
    true = Tryd.pinned.checked.prog.looks [] ∧ ∀ (j : Nat) t, fn.params[j]? = some t → Tryd.pinned.checked.prog.wantsStandIn t = false := by
  obtain rfl : f = 8 := Option.some.inj ((show Tryd.prog.funcNamed "diorama/dioramalaw08.BoxCovers" = some 8 by kernel_rfl).symm.trans hf) |>.symm
  obtain rfl : fn = Tryd.f8 := (Option.some.inj (Tryd.func8.symm.trans hfn)).symm
  refine ⟨by kernel_rfl, fun j t ht => ?_⟩
  have hall : Tryd.f8.params.toList.all (fun t => !Tryd.prog.wantsStandIn t) = true := by kernel_rfl
  have := List.all_eq_true.1 hall t (by rw [← Array.getElem?_toList] at ht; exact List.mem_of_getElem? ht)
  have : Tryd.prog.wantsStandIn t = false := by simpa using this
  exact this
/-- The card of the row: BoxCovers returns true for every input that can be read as data; it changes nothing that was there. -/
theorem boxCovers_holds : Rows.BoxCoversCardSaid :=
  Claim7.holds_tied_plain_at .later [] _ _ _ _ boxCovers_said (fun _ h => by cases h) (by kernel_rfl) (fun _ h => by cases h) boxCovers_row_tie rfl ⟨rfl, rfl⟩ (by kernel_rfl) rfl boxCovers_asks (by kernel_rfl)
end Go.Proofs.YtehmahdngjdhpaaDoor
