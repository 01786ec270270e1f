/- Proved: the law Finds returns true for every input that can be read as data. Conditions: none. -/
import Derived.Test.YtehmahdngjdhpaaDoorBxFindsLaws

set_option maxRecDepth 100000
/-! The row and the card of the law BoxFinds. -/
namespace Go.Proofs.YtehmahdngjdhpaaDoor
open Go Go.Am
theorem boxFinds_laid (os : Os) : laidMetH Tryd.prog Rows.boxFindsRow.laid ((laidWorld os).forCall (fun _ _ => 0) ⟨#[], #[.slice none 0 0, .slice none 0 0, .string ⟨#[]⟩], []⟩).memory :=
  laidMetH_of_parts (laidMet_of_run' 8 (by kernel_rfl) (by kernel_rfl)) (by kernel_rfl)
theorem boxFinds_reads (os : Os) {H : Type} (enc : TypeId × Value → H) : ∃ places, DataW.whole enc Tryd.prog ((laidWorld os).forCall (fun _ _ => 0) ⟨#[], #[.slice none 0 0, .slice none 0 0, .string ⟨#[]⟩], []⟩).memory Tryd.f9.params.toList Rows.boxFindsSpec.vars false #[.slice none 0 0, .slice none 0 0, .string ⟨#[]⟩].toList 8 = some ([.nil, .nil, .lit (.string [])], [], places) :=
  ⟨[], by kernel_rfl⟩
theorem boxFinds_lifted (os : Os) (started : os.Started) (H : Type) (enc : TypeId × Value → H) (F : Stop.Interp) :
    ReturnsInHanded {} Tryd.checked os 9 .any ((OpenSpec.ofChange Rows.boxFindsSpec).preRow enc Tryd.prog Tryd.f9 Rows.boxFindsRow.domain false Rows.boxFindsRow.laid) (((OpenSpec.ofChange Rows.boxFindsSpec).at F).post enc Tryd.prog Tryd.f9 false true false false) := by
  obtain ⟨places, hx⟩ := boxFinds_reads os enc
  exact law_row (C := Tryd.checked) (cx := cx) cxOk naming fit (f := 9) (body := f9_b) Tryd.func9 (by kernel_rfl) (by kernel_rfl) (Ts := [23, 61, 9]) (ts := [.slice (.named 1), .slice .str, .str]) (by kernel_rfl) (B := 4) (by kernel_rfl) Tryd.underlying4
    (.cons ⟨_, rfl, rfl⟩ (.cons ⟨_, rfl, rfl⟩ (.cons ⟨_, rfl, rfl⟩ .nil))) (laid := Rows.boxFindsRow.laid) (fun W h => ginv h) (N := none) (fun x hx _ => by
      have h1 := okL_arg (l := x.1) hx.1
      have h2 := wf_strs (l := x.2.1) (hx.2.1 _ (List.mem_singleton.2 rfl))
      have h3 := wf_str (s := x.2.2.1) (hx.2.2.1 _ (List.mem_singleton.2 rfl))
      have e : reachBytes = 140737488351232 := rfl
      obtain ⟨k, hk⟩ := boxFinds_plain x.1 h1 x.2.1 (by have := h2.1; omega) h2.2 x.2.2.1 h3
      exact ⟨f9_d (f9 k) noDr, f9_ok k FnOk.no, hk⟩) (by kernel_rfl) laidOut (s := Rows.boxFindsSpec) rfl (fun H ds h => match ds, h with
      | [_, _, _], _ => rfl) (k := none) rfl (fun n hn => by cases hn) ownKn started (by kernel_rfl)
    (witness_row_ref (enc := enc) (C := Tryd.checked) false (laidWorld os) #[.slice none 0 0, .slice none 0 0, .string ⟨#[]⟩] rfl (by kernel_rfl) (by kernel_rfl) (by kernel_rfl)
      (OpenSpec.preRow_of_cond 8 hx (by kernel_rfl) (fun k hk => by cases hk) (by kernel_rfl) (boxFinds_laid os)))
theorem boxFinds_said : Rows.BoxFindsSaid :=
  OpenClaim.holds_of_cond 9 Tryd.f9 rfl rfl rfl rfl rfl rfl rfl ⟨rfl, rfl, rfl, rfl, rfl⟩ rfl rfl rfl rfl rfl (by kernel_rfl) Tryd.func9 (by kernel_rfl)
    (of_decide_eq_true (by kernel_rfl)) (by unfold Func.isWrapper; first | (rw [if_pos (by decide +kernel)]; kernel_rfl) | (rw [if_neg (by decide +kernel)]; exact ⟨rfl, rfl⟩))
    (fun os started H enc _ F => by rw [OpenClaim.pre_eq_preRow]; exact boxFinds_lifted os started H enc F)
theorem boxFinds_asks (f : FuncId) (fn : Func) (hf : Tryd.pinned.checked.prog.funcNamed "diorama/dioramalaw08.BoxFinds" = some f) (hfn : Tryd.pinned.checked.prog.funcs[f]? = some fn) :
    true = Tryd.pinned.checked.prog.looks [] ∧ ∀ (j : Nat) t, fn.params[j]? = some t → Tryd.pinned.checked.prog.wantsStandIn t = false := by
  obtain rfl : f = 9 := Option.some.inj ((show Tryd.prog.funcNamed "diorama/dioramalaw08.BoxFinds" = some 9 by kernel_rfl).symm.trans hf) |>.symm
  obtain rfl : fn = Tryd.f9 := (Option.some.inj (Tryd.func9.symm.trans hfn)).symm
  refine ⟨by kernel_rfl, fun j t ht => ?_⟩
  have hall : Tryd.f9.params.toList.all (fun t => !Tryd.prog.wantsStandIn t) = true := by kernel_rfl
  have := List.all_eq_true.1 hall t (by rw [← Array.getElem?_toList] at ht; exact List.mem_of_getElem? ht)
  have : Tryd.prog.wantsStandIn t = false := by simpa using this
  exact this
/-- The card of the row: BoxFinds returns true for every input that can be read as data; it changes nothing that was there. -/
theorem boxFinds_holds : Rows.BoxFindsCardSaid :=
  Claim7.holds_tied_plain_at .later [] _ _ _ _ boxFinds_said (fun _ h => by cases h) (by kernel_rfl) (fun _ h => by cases h) boxFinds_row_tie rfl ⟨rfl, rfl⟩ (by kernel_rfl) rfl boxFinds_asks (by kernel_rfl)
end Go.Proofs.YtehmahdngjdhpaaDoor
