/- Proved: the plain laws of BoxSizes. Conditions: none. -/
import Derived.Test.YtehmahdngjdhpaaDoorBxWalk1
import Derived.Test.YtehmahdngjdhpaaDoorRows
import Derived.Test.YtehmahdngjdhpaaDoorCards
import Derived.Test.YtehmahdngjdhpaaDoorTie
import Derived.JoinedOf
import Derived.Lib.LaidTab
import Derived.LaidLaws
import Derived.LaidHandle
import Derived.Stop.Joined

set_option maxRecDepth 100000
namespace Go.Proofs.YtehmahdngjdhpaaDoor
open Go Go.Am
theorem awake_v (R : Type) : Ev fun k => ∀ (K : Bool → Option R), f20 k K = K true := by
  refine .plus 40 (.all fun k K => ?_)
  kernel_rfl
theorem D1.ind {P : D1 → Prop} (h : ∀ i d ks g, (∀ x ∈ ks, P x) → P (.mk i d ks g)) : ∀ n, P n := by
  intro n
  refine D1.rec (motive_1 := P) (motive_2 := fun l => ∀ x ∈ l, P x) (fun i d ks g ih => h i d ks g ih) (by simp) (fun a l ha hl => ?_) n
  intro x hx
  rcases List.mem_cons.1 hx with rfl | hx
  · exact ha
  · exact hl x hx
/-- A tree as it lies in memory. -/
inductive OkN : D1 → Prop
  | mk {i : Int} {d : List Int} {ks : List D1} {g : Bool} : -9223372036854775808 ≤ i ∧ i < 9223372036854775808 → okBy d → d.length ≤ reachBytes → ks.length * 64 ≤ reachBytes → (∀ x ∈ ks, OkN x) → OkN (.mk i d ks g)
def OkL (l : List D1) : Prop := l.length * 64 ≤ reachBytes ∧ ∀ x ∈ l, OkN x
theorem OkN.by {n : D1} (h : OkN n) : okBy n.c1 := by cases h; assumption
theorem OkN.kids {n : D1} (h : OkN n) : OkL n.c2 := by cases h; exact ⟨by assumption, by assumption⟩
mutual
def sizeN : D1 → Int
  | .mk _ d ks g => if g = true then sizeK ks 8 else IntKind.i64.wrap (8 + (d.length : Int))
def sizeK : List D1 → Int → Int
  | [], c => c
  | x :: l, c => sizeK l (IntKind.i64.wrap (c + sizeN x))
end
theorem f21_loop (R : Type) (l : List D1) (hb : l.length * 64 ≤ reachBytes) (h : ∀ i (h : i < l.length), Ev fun k => ∀ (K : Int → Option R), f21 k l[i].c0 l[i].c1 l[i].c2 l[i].c3 K = K (sizeN l[i])) :
    ∀ i, i ≤ l.length → EvB fun q j => ∀ (c : Int) (X0 : Int → Option R), f21_l5 (fun _ => f21 q) j c l (l.length : Int) (i : Int) X0 = X0 (sizeK (l.drop i) c) := by
  rw [reachV] at hb
  refine EvB.down l.length ?_ ?_
  · refine EvB.suc (.all fun q j c X0 => ?_)
    rw [List.drop_length, sizeK, f21_l5, ifF (by omega)]
  · intro i hi ih
    refine EvB.suc ((ih.and (.left (h i hi))).imp fun q j hk c X0 => ?_)
    obtain ⟨hk, h21⟩ := hk
    rw [List.drop_eq_getElem_cons hi, sizeK, f21_l5, lt_nat, inb_nat, wrapSuc (by omega)]
    simp only [hi, decide_true, cond_true, Int.toNat_natCast, getD_get hi, h21, hk]
theorem f22_loop (R : Type) (l : List D1) (hb : l.length * 64 ≤ reachBytes) (x : Int) (y : List Int) (z : Bool) (h : ∀ i (h : i < l.length), Ev fun k => ∀ (K : Int → Option R), f22 k l[i].c0 l[i].c1 l[i].c2 l[i].c3 K = K (sizeN l[i])) :
    ∀ i, i ≤ l.length → EvB fun q j => ∀ (c : Int) (X0 : Int → Option R), f22_l5 (fun _ => f22 q) j c (i : Int) x y l z X0 = X0 (sizeK (l.drop i) c) := by
  rw [reachV] at hb
  refine EvB.down l.length ?_ ?_
  · refine EvB.suc (.all fun q j c X0 => ?_)
    rw [List.drop_length, sizeK, f22_l5, ifF (by omega)]
  · intro i hi ih
    refine EvB.suc ((ih.and (.left (h i hi))).imp fun q j hk c X0 => ?_)
    obtain ⟨hk, h22⟩ := hk
    rw [List.drop_eq_getElem_cons hi, sizeK, f22_l5, lt_nat, inb_nat, wrapSuc (by omega)]
    simp only [hi, decide_true, cond_true, Int.toNat_natCast, getD_get hi, h22, hk]
theorem f21_v (R : Type) : ∀ n : D1, OkN n → Ev fun k => ∀ (K : Int → Option R), f21 k n.c0 n.c1 n.c2 n.c3 K = K (sizeN n) := by
  intro n
  refine D1.ind (P := fun n => OkN n → Ev fun k => ∀ (K : Int → Option R), f21 k n.c0 n.c1 n.c2 n.c3 K = K (sizeN n)) (fun i d ks g ih ho => ?_) n
  refine .suc ?_
  have hk := ho.kids
  refine (f21_loop R ks hk.1 (fun i hi => ih _ (List.getElem_mem hi) (hk.2 _ (List.getElem_mem hi))) 0 (Nat.zero_le _)).diag.imp fun k h K => ?_
  have h := h 8 K
  show f21 (k + 1) i d ks g K = _
  rw [f21_step, f21_s, sizeN]
  cases g with
  | false => rfl
  | true =>
    rw [if_pos rfl]
    exact h
theorem f22_v (R : Type) : ∀ n : D1, OkN n → Ev fun k => ∀ (K : Int → Option R), f22 k n.c0 n.c1 n.c2 n.c3 K = K (sizeN n) := by
  intro n
  refine D1.ind (P := fun n => OkN n → Ev fun k => ∀ (K : Int → Option R), f22 k n.c0 n.c1 n.c2 n.c3 K = K (sizeN n)) (fun i d ks g ih ho => ?_) n
  refine .suc ?_
  have hk := ho.kids
  refine (f22_loop R ks hk.1 i d true (fun i hi => ih _ (List.getElem_mem hi) (hk.2 _ (List.getElem_mem hi))) 0 (Nat.zero_le _)).diag.imp fun k h K => ?_
  have h := h 8 K
  show f22 (k + 1) i d ks g K = _
  rw [f22_step, f22_s, sizeN]
  cases g with
  | false => rfl
  | true =>
    rw [if_pos rfl]
    exact h
theorem boxSizes_plain (n : D1) (h : OkN n) : ∃ k, f4 (R := Bool) k n.c0 n.c1 n.c2 n.c3 some = some true :=
  (((f21_v Bool n h).imp3 (f22_v Bool n h) (awake_v Bool) fun k h1 h2 h3 => by
    rw [f4, h1, h2, h3, beT rfl]; rfl) : Ev fun k => f4 (R := Bool) k n.c0 n.c1 n.c2 n.c3 some = some true).some
theorem ownKn : ownKnob Tryd.prog.godebug = none := by kernel_rfl
theorem laidOut : laidOutB Tryd.prog = true := by kernel_rfl
noncomputable def naming : Naming cx where
  flds := flds
  toT := toT
  ofT := ofT
  plain := fun r => match r with
    | 0 => rfl
    | 1 => rfl
    | 2 => rfl
    | 3 => rfl
    | 4 => rfl
    | 5 => rfl
    | 6 => rfl
    | _n + 7 => rfl
  to_of := fun r x => match r, x with
    | 0, _ => rfl
    | 1, _ => rfl
    | 2, _ => rfl
    | 3, _ => rfl
    | 4, _ => rfl
    | 5, _ => rfl
    | 6, _ => rfl
    | _n + 7, _ => rfl
  deep := fun r v => match r, v with
    | 0, _ => rfl
    | 1, v => deep1_eq v
    | 2, _ => rfl
    | 3, _ => rfl
    | 4, _ => rfl
    | 5, _ => rfl
    | 6, _ => rfl
    | _n + 7, _ => rfl
theorem fit : Fit naming Tryd.prog := fit_of (tab := tab) rfl (by kernel_rfl)
theorem wf_bytes {z : Nat} {l : List Int} (h : WfIV (.list z (l.map fun y => [.int .u8 y]))) : l.length ≤ reachBytes ∧ ∀ n ∈ l, 0 ≤ n ∧ n < 256 := by
  cases h with
  | list h1 h2 _ =>
    refine ⟨by simpa using h1, fun n hn => ?_⟩
    have := h2 _ (List.mem_map.2 ⟨n, hn, rfl⟩) _ (List.mem_singleton.2 rfl)
    cases this with
    | int h3 => simp [Lit.wf, IntKind.min, IntKind.max, IntKind.signed, IntKind.bits] at h3; omega
theorem wf_int {n : Int} (h : WfIV (.int .i64 n)) : -9223372036854775808 ≤ n ∧ n < 9223372036854775808 := by
  cases h with
  | int h3 => simp [Lit.wf, IntKind.min, IntKind.max, IntKind.signed, IntKind.bits] at h3; omega
theorem gErr : Tryd.prog.globalNamed "errors.errorType" = some 0 := by kernel_rfl
theorem gTab : Tryd.prog.globalNamed "strings.asciiSpace" = some 1 := by kernel_rfl
theorem gTabType : (Tryd.prog.globals[1]?).map (·.type) = some 145 := by kernel_rfl
theorem cells145 : Tryd.prog.cellsOf 145 = 256 := by kernel_rfl
theorem cells5 : Tryd.prog.cellsOf 5 = 1 := by kernel_rfl
theorem rt149 : (Tryd.prog.cutTypes.find? (·.1 == "internal/reflectlite.rtype")).map (·.2) = some 149 := by kernel_rfl
theorem oneRow : ((List.range 209).filter fun t => Tryd.prog.rowNamed t [101, 114, 114, 111, 114]) = [108] := by kernel_rfl
theorem nTypes : Tryd.prog.types.size = 209 := by kernel_rfl
def laidL : List (String × DataW Unit) := [("errors.errorType", Rows.laid_errors_errorType), ("unicode.White_Space", Rows.laid_unicode_White_Space), ("strings.asciiSpace", Rows.laid_strings_asciiSpace)]
theorem tabData_eq : (Rows.laid_strings_asciiSpace : DataW Unit) = Lib.tabData .u8 asciiTab := by kernel_rfl
theorem laid_parts {W : World} (h : laidMetH Tryd.prog laidL W) : laidMet Tryd.prog [("unicode.White_Space", Rows.laid_unicode_White_Space), ("strings.asciiSpace", Rows.laid_strings_asciiSpace)] W ∧ handlesMet Tryd.prog [("errors.errorType", Rows.laid_errors_errorType)] W := h
theorem handle_of_laid {W : World} (h : laidMetH Tryd.prog laidL W) : W.cell? ⟨0, 0, none⟩ = some (.iface 149 (.agg #[.pointer (some ⟨4, 108, none⟩)])) := by
  obtain ⟨name, u, ty, e1, e2, e3, e4, e5⟩ := (laid_parts h).2 _ (List.mem_singleton.2 rfl)
  have en : name = [101, 114, 114, 111, 114] := (Option.some.inj e1).symm
  subst en
  obtain rfl := Option.some.inj (rt149.symm.trans e2)
  have hm : ty ∈ (List.range 209).filter fun t => Tryd.prog.rowNamed t [101, 114, 114, 111, 114] := List.mem_filter.2 ⟨List.mem_range.2 (by rw [← nTypes]; exact e3), e4⟩
  rw [oneRow] at hm
  obtain rfl := List.mem_singleton.1 hm
  have hh : typeHandle Tryd.prog 108 = .pointer (some ⟨4, 108, none⟩) := by kernel_rfl
  rw [hh] at e5
  simpa using World.var?_cell gErr e5 0
theorem tab_of_laid {W : World} (h : laidMetH Tryd.prog laidL W) : Lib.TabIs Tryd.prog W "strings.asciiSpace" .u8 asciiTab := by
  obtain ⟨ps, ⟨g', t', cs, fuel, p, q, hg', ht', hvar, hd, ⟨g2, t2, cs2, fuel2, p2, q2, hg2, ht2, hvar2, hd2, _, _⟩, _⟩, _⟩ := (laid_parts h).1
  obtain rfl := Option.some.inj (gTab.symm.trans hg2)
  obtain rfl := Option.some.inj (gTabType.symm.trans ht2)
  unfold Lib.TabIs
  rw [tabData_eq] at hd2
  rw [hvar2, ← Lib.cells_of_tab Tryd.underlying145 Tryd.underlying5 cells5 cells145 hd2]
theorem ginv {W : World} (h : laidMetH Tryd.prog laidL W) : GInv cx (fun b => b < W.heap.size) W := by
  have hh := handle_of_laid h
  have ht := tab_of_laid h
  have hcell : ∀ i, i < 256 → W.cell? ⟨1, i, none⟩ = some (.int .u8 (asciiTab.getD i 0)) := fun i hi => ht.cell gTab i hi
  have lt : ∀ (b : Nat) (v : Value), W.cell? ⟨b, 0, none⟩ = some v → b < W.heap.size := by
    intro b v hv
    by_cases hb : b < W.heap.size
    · exact hb
    · have h0 : W.heap[b]? = none := Array.getElem?_eq_none (by omega)
      simp [World.cell?, h0] at hv
  refine ⟨fun g => ?_, fun p hp => ?_⟩
  · by_cases hg : g = 1
    · subst hg
      refine ⟨rfl, ?_⟩
      show PRep cx _ _ _ W (.lelem (.int .u8) asciiTab 0 0) _
      have hl : asciiTab.length = 256 := rfl
      refine ⟨by rw [hl]; omega, ⟨1, 0, none⟩, 256, ?_, rfl⟩
      have hm : (asciiTab.map (deep cx (.int .u8))).length = 256 := by rw [List.length_map, hl]
      have : Rep (fun b => b < W.heap.size) W (.slice (some ⟨1, 0, none⟩) (asciiTab.map (deep cx (.int .u8))).length 256) (.list 1 (asciiTab.map (deep cx (.int .u8)))) := by
        refine .list (fun i j => .int .u8 (asciiTab.getD i 0)) (by rw [hm]; exact Nat.le_refl _) (fun _ => lt 1 _ (hcell 0 (by omega))) (fun i l j x h1 h2 => ?_) (fun i l j x h1 h2 => ?_)
        · have hi : i < 256 := by have := (List.getElem?_eq_some_iff.1 h1).1; omega
          have hj : j = 0 := by
            simp only [List.getElem?_map, Option.map_eq_some_iff] at h1
            obtain ⟨y, _, rfl⟩ := h1
            have := (List.getElem?_eq_some_iff.1 h2).1
            simp [deep] at this; exact this
          subst hj
          have e : (⟨1, 0, none⟩ : Addr).add (i * 1 + 0) = ⟨1, i, none⟩ := by rw [add_at]; simp
          rw [e]; exact hcell i hi
        · have hi : i < asciiTab.length := by have := (List.getElem?_eq_some_iff.1 h1).1; rw [hl]; omega
          simp only [List.getElem?_map, Option.map_eq_some_iff] at h1
          obtain ⟨y, hy, rfl⟩ := h1
          have hj : j = 0 := by
            have := (List.getElem?_eq_some_iff.1 h2).1
            simp [deep] at this; exact this
          subst hj
          simp [deep] at h2
          subst h2
          have : asciiTab.getD i 0 = y := by simp [List.getD, hy]
          rw [this]; exact .int
      rw [hm] at this
      exact this
    · have e : cx.gv g = .undef := by
        show gvs g = _
        have : Nat.beq g 1 = false := by rw [Bool.eq_false_iff]; intro hb; exact hg (Nat.eq_of_beq_eq_true hb)
        simp [gvs, this]
      rw [e]; exact ⟨rfl, trivial⟩
  · have hp : p ∈ gcs := hp
    simp only [gcs, List.mem_singleton] at hp
    subst hp
    exact ⟨lt 0 _ hh, hh⟩
/-- A world in which they lie so. -/
noncomputable def laidWorld (os : Os) : World :=
  { World.holding Tryd.prog os ⟨#[], #[], []⟩ with heap := (((((World.holding Tryd.prog os ⟨#[], #[], []⟩).heap.modify 0 fun
      | .cells _ t frozen => .cells #[.iface 149 (.agg #[.pointer (some ⟨4, 108, none⟩)])] t frozen
      | o => o).modify 1 fun
      | .cells _ t frozen => .cells (asciiTab.map fun n => Value.int .u8 n).toArray t frozen
      | o => o).modify 2 fun
      | .cells _ t frozen => .cells #[.pointer (some ⟨9, 0, none⟩)] t frozen
      | o => o).push (.cells #[.slice (some ⟨10, 0, none⟩) 7 7, .slice none 0 0, .int .i64 2] 171)).push (.cells (([9, 13, 1, 32, 133, 101, 160, 5760, 5600, 8192, 8202, 1, 8232, 8233, 1, 8239, 8287, 48, 12288, 12288, 1] : List Int).map fun n => Value.int .u16 n).toArray 174) }
theorem deep1_mk (i : Int) (d : List Int) (ks : List D1) (g : Bool) : deep1 (.mk i d ks g) = [.int .i64 i, .list 1 (d.map fun y => [.int .u8 y]), .list 4 (deep1s ks), .bool g] := by rw [deep1]; rfl
theorem okL_wf {ks : List D1} (h : WfIV (.list 4 (deep1s ks))) (ih : ∀ x ∈ ks, (∀ iv ∈ deep1 x, WfIV iv) → OkN x) : OkL ks := by
  rw [deep1s_map] at h
  cases h with
  | list h1 h2 h3 =>
    refine ⟨?_, fun x hx => ih x hx (h2 _ (List.mem_map.2 ⟨x, hx, rfl⟩))⟩
    cases ks with
    | nil => simp
    | cons x ks =>
      have h4 := h3 (deep1 x) (by simp)
      obtain ⟨i, d, k, g⟩ := x
      rw [deep1_mk] at h4
      have e : lay (List.map cellB [IV.int IntKind.i64 i, IV.list 1 (d.map fun y => [.int .u8 y]), IV.list 4 (deep1s k), IV.bool g]) = 64 := by kernel_rfl
      rw [List.length_map, e] at h4
      exact h4
theorem okN_wf (n : D1) : (∀ iv ∈ deep1 n, WfIV iv) → OkN n := by
  refine D1.ind (P := fun n => (∀ iv ∈ deep1 n, WfIV iv) → OkN n) (fun i d ks g ih h => ?_) n
  rw [deep1_mk] at h
  have hd := wf_bytes (h (.list 1 (d.map fun y => [.int .u8 y])) (by simp))
  have hk := okL_wf (h (.list 4 (deep1s ks)) (by simp)) ih
  exact .mk (wf_int (h (.int .i64 i) (by simp))) hd.2 hd.1 hk.1 hk.2
end Go.Proofs.YtehmahdngjdhpaaDoor
