/- Proved: the law Parses returns true for every input that can be read as data. Conditions: none. -/
import Derived.Test.YtehmahdngjdhpaaDoorBxParsesLaws

set_option maxRecDepth 100000
/-! The row and the card of the law BoxParses. -/
namespace Go.Proofs.YtehmahdngjdhpaaDoor
open Go Go.Am
theorem boxParses_laid (os : Os) : laidMetH Tryd.prog Rows.boxParsesRow.laid ((laidWorld os).forCall (fun _ _ => 0) ⟨#[], #[.slice none 0 0], []⟩).memory :=
  laidMetH_of_parts (laidMet_of_run' 8 (by kernel_rfl) (by kernel_rfl)) (by kernel_rfl)
theorem boxParses_reads (os : Os) {H : Type} (enc : TypeId × Value → H) : ∃ places, DataW.whole enc Tryd.prog ((laidWorld os).forCall (fun _ _ => 0) ⟨#[], #[.slice none 0 0], []⟩).memory Tryd.f3.params.toList Rows.boxParsesSpec.vars false #[.slice none 0 0].toList 8 = some ([.nil], [], places) :=
  ⟨[], by kernel_rfl⟩
theorem boxParses_lifted (os : Os) (started : os.Started) (H : Type) (enc : TypeId × Value → H) (F : Stop.Interp) :
    ReturnsInHanded {} Tryd.checked os 3 .any ((OpenSpec.ofChange Rows.boxParsesSpec).preRow enc Tryd.prog Tryd.f3 Rows.boxParsesRow.domain false Rows.boxParsesRow.laid) (((OpenSpec.ofChange Rows.boxParsesSpec).at F).post enc Tryd.prog Tryd.f3 false true false false) := by
  obtain ⟨places, hx⟩ := boxParses_reads os enc
  exact law_row (C := Tryd.checked) (cx := cx) cxOk naming fit (f := 3) (body := f3_b) Tryd.func3 (by kernel_rfl) (by kernel_rfl) (Ts := [22]) (ts := [.slice (.int .u8)]) (by kernel_rfl) (B := 4) (by kernel_rfl) Tryd.underlying4
    (.cons ⟨_, rfl, rfl⟩ .nil) (laid := Rows.boxParsesRow.laid) (fun W h => ginv h) (N := none) (fun x hx _ => by
      have hb := wf_bytes (z := 1) (l := x.1) (hx.1 _ (List.mem_singleton.2 rfl))
      obtain ⟨k, hk⟩ := boxParses_plain x.1 hb.2
      exact ⟨f3_d (f3 k) noDr, f3_ok k FnOk.no, hk⟩) (by kernel_rfl) laidOut (s := Rows.boxParsesSpec) rfl (fun H ds h => match ds, h with
      | [_], _ => rfl) (k := none) rfl (fun n hn => by cases hn) ownKn started (by kernel_rfl)
    (witness_row_ref (enc := enc) (C := Tryd.checked) false (laidWorld os) #[.slice none 0 0] rfl (by kernel_rfl) (by kernel_rfl) (by kernel_rfl)
      (OpenSpec.preRow_of_cond 8 hx (by kernel_rfl) (fun k hk => by cases hk) (by kernel_rfl) (boxParses_laid os)))
theorem boxParses_said : Rows.BoxParsesSaid :=
  OpenClaim.holds_of_cond 3 Tryd.f3 rfl rfl rfl rfl rfl rfl rfl ⟨rfl, rfl, rfl, rfl, rfl⟩ rfl rfl rfl rfl rfl (by kernel_rfl) Tryd.func3 (by kernel_rfl)
    (of_decide_eq_true (by kernel_rfl)) (by unfold Func.isWrapper; first | (rw [if_pos (by decide +kernel)]; kernel_rfl) | (rw [if_neg (by decide +kernel)]; exact ⟨rfl, rfl⟩))
    (fun os started H enc _ F => by rw [OpenClaim.pre_eq_preRow]; exact boxParses_lifted os started H enc F)
theorem boxParses_asks (f : FuncId) (fn : Func) (hf : Tryd.pinned.checked.prog.funcNamed "diorama/dioramalaw08.BoxParses" = some f) (hfn : Tryd.pinned.checked.prog.funcs[f]? = some fn) :
    true = Tryd.pinned.checked.prog.looks [] ∧ ∀ (j : Nat) t, fn.params[j]? = some t → Tryd.pinned.checked.prog.wantsStandIn t = false := by
  obtain rfl : f = 3 := Option.some.inj ((show Tryd.prog.funcNamed "diorama/dioramalaw08.BoxParses" = some 3 by kernel_rfl).symm.trans hf) |>.symm
  obtain rfl : fn = Tryd.f3 := (Option.some.inj (Tryd.func3.symm.trans hfn)).symm
  refine ⟨by kernel_rfl, fun j t ht => ?_⟩
  have hall : Tryd.f3.params.toList.all (fun t => !Tryd.prog.wantsStandIn t) = true := by kernel_rfl
  have := List.all_eq_true.1 hall t (by rw [← Array.getElem?_toList] at ht; exact List.mem_of_getElem? ht)
  have : Tryd.prog.wantsStandIn t = false := by simpa using this
  exact this
/-- The card of the row: BoxParses returns true for every input that can be read as data; it changes nothing that was there. -/
theorem boxParses_holds : Rows.BoxParsesCardSaid :=
  Claim7.holds_tied_plain_at .later [] _ _ _ _ boxParses_said (fun _ h => by cases h) (by kernel_rfl) (fun _ h => by cases h) boxParses_row_tie rfl ⟨rfl, rfl⟩ (by kernel_rfl) rfl boxParses_asks (by kernel_rfl)
end Go.Proofs.YtehmahdngjdhpaaDoor
