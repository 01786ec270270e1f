/- Proved: the plain laws of BoxFrees. Conditions: none. -/
import Derived.Test.YtehmahdngjdhpaaDoorBxWalk1
import Derived.Test.YtehmahdngjdhpaaDoorRows
import Derived.Test.YtehmahdngjdhpaaDoorCards
import Derived.Test.YtehmahdngjdhpaaDoorTie
import Derived.JoinedOf
import Derived.Lib.LaidTab
import Derived.LaidLaws
import Derived.LaidHandle
import Derived.Stop.Joined

set_option maxRecDepth 100000
namespace Go.Proofs.YtehmahdngjdhpaaDoor
open Go Go.Am
theorem awake_v (R : Type) : Ev fun k => ∀ (K : Bool → Option R), f20 k K = K true := by
  refine .plus 40 (.all fun k K => ?_)
  kernel_rfl
/-- A tree as it lies in memory. -/
inductive OkN : D1 → Prop
  | mk {i : Int} {d : List Int} {ks : List D1} {g : Bool} : -9223372036854775808 ≤ i ∧ i < 9223372036854775808 → okBy d → d.length ≤ reachBytes → ks.length * 64 ≤ reachBytes → (∀ x ∈ ks, OkN x) → OkN (.mk i d ks g)
theorem OkN.id {n : D1} (h : OkN n) : -9223372036854775808 ≤ n.c0 ∧ n.c0 < 9223372036854775808 := by cases h; assumption
theorem OkN.by {n : D1} (h : OkN n) : okBy n.c1 := by cases h; assumption
theorem f96_loop (R : Type) : ∀ n, n ≤ 1000 → Ev fun k => ∀ (w : Int) (out : List Int) (X : List Int → Option R), n ≤ out.length → f96_l3 k w ((n : Int) - 1) out X = X (beB n w ++ out.drop n)
  | 0, _ => .suc (.all fun k w out X _ => by
    rw [f96_l3, deF (by omega)]; simp [beB])
  | n + 1, hn => by
    refine .suc ((f96_loop R n (by omega)).imp fun k hk w out X ho => ?_)
    have e : ((n + 1 : Nat) : Int) - 1 = (n : Int) := by omega
    rw [e, f96_l3, inb_nat, wr (by omega), wrapU8, shr8]
    simp only [deT (show (n : Int) ≥ 0 by omega), show n < out.length by omega, decide_true, cond_true, Int.toNat_natCast]
    rw [hk _ _ X (by simp; omega), set_drop (by omega), beB, List.append_assoc]; rfl
theorem f96_v (R : Type) {n : Nat} (hn : n ≤ 1000) : Ev fun k => ∀ (w : Int) (K : List Int → Option R), f96 k w (n : Int) K = K (beB n w) :=
  (f96_loop R n hn).imp fun k hk w K => by
    simp only [f96, mk_ok (show n ≤ 140737488355328 by omega), cond_true, Int.toNat_natCast]
    rw [wr (by omega), hk w _ K (by simp)]; simp
theorem f52_loop (R : Type) : ∀ n, n ≤ 1000 → Ev fun k => ∀ (w : Int) (out : List Int) (X : List Int → Option R), n ≤ out.length → f52_l3 k w ((n : Int) - 1) out X = X (beB n w ++ out.drop n)
  | 0, _ => .suc (.all fun k w out X _ => by
    rw [f52_l3, deF (by omega)]; simp [beB])
  | n + 1, hn => by
    refine .suc ((f52_loop R n (by omega)).imp fun k hk w out X ho => ?_)
    have e : ((n + 1 : Nat) : Int) - 1 = (n : Int) := by omega
    rw [e, f52_l3, inb_nat, wr (by omega), wrapU8, shr8i]
    simp only [deT (show (n : Int) ≥ 0 by omega), show n < out.length by omega, decide_true, cond_true, Int.toNat_natCast]
    rw [hk _ _ X (by simp; omega), set_drop (by omega), beB, List.append_assoc]; rfl
theorem f52_v (R : Type) {n : Nat} (hn : n ≤ 1000) : Ev fun k => ∀ (w : Int) (K : List Int → Option R), f52 k w (n : Int) K = K (beB n w) :=
  (f52_loop R n hn).imp fun k hk w K => by
    simp only [f52, mk_ok (show n ≤ 140737488355328 by omega), cond_true, Int.toNat_natCast]
    rw [wr (by omega), hk w _ K (by simp)]; simp
theorem shr_pos (v : Int) (h : 0 ≤ v) (n : Nat) (h1 : 1 ≤ n) (h7 : n ≤ 7) (hv : v < 256 ^ n) : decide (IntKind.i64.wrap (8 * (n : Int)) < 0) = false ∧ decide (shrI .i64 v (IntKind.i64.wrap (8 * (n : Int))) > 0) = false := by
  rw [wr (by omega)]
  refine ⟨decide_eq_false (by omega), decide_eq_false ?_⟩
  unfold shrI
  have e1 : min (8 * (n : Int)).toNat IntKind.i64.bits = 8 * n := by
    have : IntKind.i64.bits = 64 := rfl
    omega
  rw [e1, Int.fdiv_eq_ediv_of_nonneg _ (by exact Int.le_of_lt (Int.pow_pos (by decide)))]
  have e2 : (2 : Int) ^ (8 * n) = 256 ^ n := by rw [Int.pow_mul]; rfl
  rw [e2, Int.ediv_eq_zero_of_lt h hv]
  decide
theorem f80_v (R : Type) {n : Nat} (h1 : 1 ≤ n) (h8 : n ≤ 8) : Ev fun k => ∀ (v : Int) (K : Int → List Int → Option R), 0 ≤ v → v < 9223372036854775808 → v < 256 ^ n → f80 k v (n : Int) K = K 0 (beB n v) := by
  refine (f96_v R (show n ≤ 1000 by omega)).imp fun k hk v K h0 hv hn => ?_
  have t1 : decide ((n : Int) < 1) = false := decide_eq_false (by omega)
  have t2 : decide ((n : Int) > 8) = false := decide_eq_false (by omega)
  have t3 : decide (v < 0) = false := decide_eq_false (by omega)
  simp only [f80, t1, t2, t3, cond_false]
  by_cases h7 : n < 8
  · obtain ⟨s1, s2⟩ := shr_pos v h0 n h1 (by omega) hn
    rw [deT (show (n : Int) < 8 by omega)]
    simp only [cond_true, s1, s2, cond_false, wrapU64 h0 (show v < 18446744073709551616 by omega), hk]
  · rw [deF (show ¬ (n : Int) < 8 by omega)]
    simp only [cond_false, wrapU64 h0 (show v < 18446744073709551616 by omega), hk]
theorem f57_v (R : Type) {n : Nat} (h1 : 1 ≤ n) (h8 : n ≤ 8) : Ev fun k => ∀ (v : Int) (K : List Int → Option R), 0 ≤ v → v < 9223372036854775808 → v < 256 ^ n → f57 k v (n : Int) K = K (beB n v) :=
  (f80_v R h1 h8).imp fun k hk v K h0 hv hn => by
    rw [f57, hk v _ h0 hv hn, roT (by rw [beB_len]; omega)]; rfl
theorem f57_2_v (R : Type) {n : Nat} (h1 : 1 ≤ n) (h8 : n ≤ 8) : Ev fun k => ∀ (v : Int) (b : List Int) (K : List Int → Option R), 0 ≤ v → v < 9223372036854775808 → v < 256 ^ n → b.length ≤ 1000 → f57_2 k v (n : Int) b K = K (b ++ beB n v) :=
  (f80_v R h1 h8).imp fun k hk v b K h0 hv hn hb => by
    rw [f57_2, hk v _ h0 hv hn, roT (by rw [beB_len]; omega)]; rfl
/-- A box: its head and its content. -/
def boxB (id : Int) (d : List Int) (long : Bool) : List Int :=
  if long = true then beB 4 1 ++ beB 4 id ++ beB 8 (16 + (d.length : Int)) ++ d else beB 4 (8 + (d.length : Int)) ++ beB 4 id ++ d
theorem boxB_len (id : Int) (d : List Int) (long : Bool) : (boxB id d long).length = (if long = true then 16 else 8) + d.length := by
  unfold boxB
  split <;> simp [beB_len] <;> omega
theorem f51_v (R : Type) : Ev fun k => ∀ (id : Int) (d : List Int) (long : Bool) (K : List Int → Option R), 0 ≤ id → id < 4294967296 → d.length ≤ 4294967000 → f51 k id d long K = K (boxB id d long) := by
  refine (f57_v R (n := 4) (by decide) (by decide)).imp3 (f57_2_v R (n := 4) (by decide) (by decide)) (f57_2_v R (n := 8) (by decide) (by decide)) fun k h57 h4 h8 id d long K h0 hi hd => ?_
  have e4 : ((4 : Nat) : Int) = 4 := rfl
  have e8 : ((8 : Nat) : Int) = 8 := rfl
  rw [e4] at h57 h4
  rw [e8] at h8
  have p4 : (256 : Int) ^ 4 = 4294967296 := by decide
  have p8 : (256 : Int) ^ 8 = 18446744073709551616 := by decide
  rw [p4] at h57 h4
  rw [p8] at h8
  rw [f51]
  cases long with
  | true =>
    rw [cond_true, h57 1 _ (by decide) (by decide) (by decide), h4 id _ _ h0 (by omega) hi (by rw [beB_len]; omega), wr (by omega), h8 _ _ _ (by omega) (by omega) (by omega) (by simp [beB_len]), roT (by simp [beB_len]; omega)]
    rfl
  | false =>
    rw [cond_false, wr (by omega), h57 _ _ (by omega) (by omega) (by omega), h4 id _ _ h0 (by omega) hi (by rw [beB_len]; omega), roT (by simp [beB_len]; omega)]
    rfl
/-- Bytes compared. -/
theorem f25_loop (R : Type) (a b : List Int) (hl : a.length = b.length) (hb : a.length ≤ 140737488355328) : ∀ i, i ≤ a.length → Ev fun k => ∀ (X0 : Option R) (X1 : Bool → Option R), f25_l4 k a b (i : Int) X0 X1 = if a.drop i = b.drop i then X0 else X1 false := by
  refine Ev.down a.length ?_ ?_
  · refine Ev.suc (.all fun k X0 X1 => ?_)
    rw [f25_l4, lt_nat, List.drop_length, hl, List.drop_length, if_pos rfl]; simp
  · intro i hi h
    refine Ev.suc (h.imp fun k hk X0 X1 => ?_)
    have hi' : i < b.length := by omega
    rw [f25_l4, lt_nat, inb_nat, inb_nat, wrapSuc (by omega)]
    simp only [hi, hi', decide_true, cond_true, Int.toNat_natCast, getD_get hi, getD_get hi', bne_dec, drop_eq_iff hi hi', hk]
    by_cases e : a[i] = b[i]
    · simp [e]
    · simp [e]
theorem f25_v (R : Type) (a b : List Int) (hb : a.length ≤ 140737488355328) : Ev fun k => ∀ (K : Bool → Option R), f25 k a b K = K (decide (a = b)) := by
  by_cases hl : a.length = b.length
  · refine (f25_loop R a b hl hb 0 (Nat.zero_le _)).imp fun k hk K => ?_
    have hk := hk (K true) K
    simp only [Int.natCast_zero, List.drop_zero] at hk
    rw [f25, bne_len, hk]
    simp only [hl, decide_true, Bool.not_true, cond_false]
    by_cases e : a = b
    · rw [if_pos e, deT e]
    · rw [if_neg e, deF e]
  · refine .all fun k K => ?_
    rw [f25, bne_len, deF hl, deF (by rintro rfl; exact hl rfl)]; rfl
theorem f26_free (R : Type) : Ev fun k => ∀ (K : Int → Int → Option R), f26 k (⟨#[102, 114, 101, 101]⟩ : ByteArray) K = K 1718773093 0 := .plus 12 (.all fun k K => by kernel_rfl)
theorem f23_v (R : Type) (n : Int) : Ev fun k => ∀ (K : Int → List Int → Option R), f23 k n K = if n < 8 ∨ 1048576 < n then K 1 [] else K 0 (boxB 1718773093 (List.replicate (n - 8).toNat 0) false) := by
  refine (f26_free R).imp2 (f51_v R) fun k h26 h51 K => ?_
  rw [f23]
  by_cases c1 : n < 8
  · rw [deT c1, if_pos (.inl c1)]; rfl
  · rw [deF c1, cond_false]
    by_cases c2 : 1048576 < n
    · rw [deT c2, if_pos (.inr c2)]; rfl
    · rw [deF c2, cond_false, if_neg (by omega), h26, wr (by omega)]
      simp (disch := omega) only [deT, Bool.and_self, cond_true]
      rw [h51 _ _ _ _ (by decide) (by decide) (by simp; omega)]
theorem f24_v (R : Type) (n : Int) : Ev fun k => ∀ (K : Int → List Int → Option R), f24 k n K = if n < 8 ∨ 1048576 < n then K 1 [] else K 0 (boxB 1718773093 (List.replicate (n - 8).toNat 0) false) := by
  refine (f52_v R (n := 4) (by decide)).imp fun k h52 K => ?_
  have e4 : ((4 : Nat) : Int) = 4 := rfl
  rw [e4] at h52
  rw [f24]
  by_cases c1 : n < 8
  · rw [deT c1, if_pos (.inl c1)]; rfl
  · rw [deF c1, cond_false]
    by_cases c2 : 1048576 < n
    · rw [deT c2, if_pos (.inr c2)]; rfl
    · rw [deF c2, cond_false, if_neg (by omega), h52, roT (by simp [beB_len]), wr (by omega), roT (by simp [beB_len]; omega)]
      have : decide ((n - 8) * ((1 : Nat) : Int) ≤ 140737488355328) = true := decide_eq_true (by omega)
      rw [cond_true, deT (show (0 : Int) ≤ n - 8 by omega), this]
      have e : 8 + ((List.replicate (n - 8).toNat (0 : Int)).length : Int) = n := by simp; omega
      unfold boxB
      rw [if_neg (by decide), e]
      try rfl
theorem boxFrees_plain (n : Int) : ∃ k, f5 (R := Bool) k n some = some true := by
  refine Ev.some (p := fun k => f5 (R := Bool) k n some = some true) ?_
  obtain ⟨e, l, hl, h1, h2⟩ : ∃ e l, l.length ≤ 140737488355328 ∧ (Ev fun k => ∀ (K : Int → List Int → Option Bool), f23 k n K = K e l) ∧ Ev fun k => ∀ (K : Int → List Int → Option Bool), f24 k n K = K e l := by
    by_cases c : n < 8 ∨ 1048576 < n
    · exact ⟨1, [], by simp, (f23_v Bool n).imp fun k h K => by rw [h, if_pos c], (f24_v Bool n).imp fun k h K => by rw [h, if_pos c]⟩
    · exact ⟨0, boxB 1718773093 (List.replicate (n - 8).toNat 0) false, by rw [boxB_len]; simp; omega, (f23_v Bool n).imp fun k h K => by rw [h, if_neg c], (f24_v Bool n).imp fun k h K => by rw [h, if_neg c]⟩
  refine h1.imp4 h2 (f25_v Bool l l hl) (awake_v Bool) fun k h1 h2 h3 h4 => ?_
  rw [f5, h1, h2, h3, deT rfl, cond_true, beT rfl, cond_true, h4]
theorem ownKn : ownKnob Tryd.prog.godebug = none := by kernel_rfl
theorem laidOut : laidOutB Tryd.prog = true := by kernel_rfl
noncomputable def naming : Naming cx where
  flds := flds
  toT := toT
  ofT := ofT
  plain := fun r => match r with
    | 0 => rfl
    | 1 => rfl
    | 2 => rfl
    | 3 => rfl
    | 4 => rfl
    | 5 => rfl
    | 6 => rfl
    | _n + 7 => rfl
  to_of := fun r x => match r, x with
    | 0, _ => rfl
    | 1, _ => rfl
    | 2, _ => rfl
    | 3, _ => rfl
    | 4, _ => rfl
    | 5, _ => rfl
    | 6, _ => rfl
    | _n + 7, _ => rfl
  deep := fun r v => match r, v with
    | 0, _ => rfl
    | 1, v => deep1_eq v
    | 2, _ => rfl
    | 3, _ => rfl
    | 4, _ => rfl
    | 5, _ => rfl
    | 6, _ => rfl
    | _n + 7, _ => rfl
theorem fit : Fit naming Tryd.prog := fit_of (tab := tab) rfl (by kernel_rfl)
theorem gErr : Tryd.prog.globalNamed "errors.errorType" = some 0 := by kernel_rfl
theorem gTab : Tryd.prog.globalNamed "strings.asciiSpace" = some 1 := by kernel_rfl
theorem gTabType : (Tryd.prog.globals[1]?).map (·.type) = some 145 := by kernel_rfl
theorem cells145 : Tryd.prog.cellsOf 145 = 256 := by kernel_rfl
theorem cells5 : Tryd.prog.cellsOf 5 = 1 := by kernel_rfl
theorem rt149 : (Tryd.prog.cutTypes.find? (·.1 == "internal/reflectlite.rtype")).map (·.2) = some 149 := by kernel_rfl
theorem oneRow : ((List.range 209).filter fun t => Tryd.prog.rowNamed t [101, 114, 114, 111, 114]) = [108] := by kernel_rfl
theorem nTypes : Tryd.prog.types.size = 209 := by kernel_rfl
def laidL : List (String × DataW Unit) := [("errors.errorType", Rows.laid_errors_errorType), ("unicode.White_Space", Rows.laid_unicode_White_Space), ("strings.asciiSpace", Rows.laid_strings_asciiSpace)]
theorem tabData_eq : (Rows.laid_strings_asciiSpace : DataW Unit) = Lib.tabData .u8 asciiTab := by kernel_rfl
theorem laid_parts {W : World} (h : laidMetH Tryd.prog laidL W) : laidMet Tryd.prog [("unicode.White_Space", Rows.laid_unicode_White_Space), ("strings.asciiSpace", Rows.laid_strings_asciiSpace)] W ∧ handlesMet Tryd.prog [("errors.errorType", Rows.laid_errors_errorType)] W := h
theorem handle_of_laid {W : World} (h : laidMetH Tryd.prog laidL W) : W.cell? ⟨0, 0, none⟩ = some (.iface 149 (.agg #[.pointer (some ⟨4, 108, none⟩)])) := by
  obtain ⟨name, u, ty, e1, e2, e3, e4, e5⟩ := (laid_parts h).2 _ (List.mem_singleton.2 rfl)
  have en : name = [101, 114, 114, 111, 114] := (Option.some.inj e1).symm
  subst en
  obtain rfl := Option.some.inj (rt149.symm.trans e2)
  have hm : ty ∈ (List.range 209).filter fun t => Tryd.prog.rowNamed t [101, 114, 114, 111, 114] := List.mem_filter.2 ⟨List.mem_range.2 (by rw [← nTypes]; exact e3), e4⟩
  rw [oneRow] at hm
  obtain rfl := List.mem_singleton.1 hm
  have hh : typeHandle Tryd.prog 108 = .pointer (some ⟨4, 108, none⟩) := by kernel_rfl
  rw [hh] at e5
  simpa using World.var?_cell gErr e5 0
theorem tab_of_laid {W : World} (h : laidMetH Tryd.prog laidL W) : Lib.TabIs Tryd.prog W "strings.asciiSpace" .u8 asciiTab := by
  obtain ⟨ps, ⟨g', t', cs, fuel, p, q, hg', ht', hvar, hd, ⟨g2, t2, cs2, fuel2, p2, q2, hg2, ht2, hvar2, hd2, _, _⟩, _⟩, _⟩ := (laid_parts h).1
  obtain rfl := Option.some.inj (gTab.symm.trans hg2)
  obtain rfl := Option.some.inj (gTabType.symm.trans ht2)
  unfold Lib.TabIs
  rw [tabData_eq] at hd2
  rw [hvar2, ← Lib.cells_of_tab Tryd.underlying145 Tryd.underlying5 cells5 cells145 hd2]
theorem ginv {W : World} (h : laidMetH Tryd.prog laidL W) : GInv cx (fun b => b < W.heap.size) W := by
  have hh := handle_of_laid h
  have ht := tab_of_laid h
  have hcell : ∀ i, i < 256 → W.cell? ⟨1, i, none⟩ = some (.int .u8 (asciiTab.getD i 0)) := fun i hi => ht.cell gTab i hi
  have lt : ∀ (b : Nat) (v : Value), W.cell? ⟨b, 0, none⟩ = some v → b < W.heap.size := by
    intro b v hv
    by_cases hb : b < W.heap.size
    · exact hb
    · have h0 : W.heap[b]? = none := Array.getElem?_eq_none (by omega)
      simp [World.cell?, h0] at hv
  refine ⟨fun g => ?_, fun p hp => ?_⟩
  · by_cases hg : g = 1
    · subst hg
      refine ⟨rfl, ?_⟩
      show PRep cx _ _ _ W (.lelem (.int .u8) asciiTab 0 0) _
      have hl : asciiTab.length = 256 := rfl
      refine ⟨by rw [hl]; omega, ⟨1, 0, none⟩, 256, ?_, rfl⟩
      have hm : (asciiTab.map (deep cx (.int .u8))).length = 256 := by rw [List.length_map, hl]
      have : Rep (fun b => b < W.heap.size) W (.slice (some ⟨1, 0, none⟩) (asciiTab.map (deep cx (.int .u8))).length 256) (.list 1 (asciiTab.map (deep cx (.int .u8)))) := by
        refine .list (fun i j => .int .u8 (asciiTab.getD i 0)) (by rw [hm]; exact Nat.le_refl _) (fun _ => lt 1 _ (hcell 0 (by omega))) (fun i l j x h1 h2 => ?_) (fun i l j x h1 h2 => ?_)
        · have hi : i < 256 := by have := (List.getElem?_eq_some_iff.1 h1).1; omega
          have hj : j = 0 := by
            simp only [List.getElem?_map, Option.map_eq_some_iff] at h1
            obtain ⟨y, _, rfl⟩ := h1
            have := (List.getElem?_eq_some_iff.1 h2).1
            simp [deep] at this; exact this
          subst hj
          have e : (⟨1, 0, none⟩ : Addr).add (i * 1 + 0) = ⟨1, i, none⟩ := by rw [add_at]; simp
          rw [e]; exact hcell i hi
        · have hi : i < asciiTab.length := by have := (List.getElem?_eq_some_iff.1 h1).1; rw [hl]; omega
          simp only [List.getElem?_map, Option.map_eq_some_iff] at h1
          obtain ⟨y, hy, rfl⟩ := h1
          have hj : j = 0 := by
            have := (List.getElem?_eq_some_iff.1 h2).1
            simp [deep] at this; exact this
          subst hj
          simp [deep] at h2
          subst h2
          have : asciiTab.getD i 0 = y := by simp [List.getD, hy]
          rw [this]; exact .int
      rw [hm] at this
      exact this
    · have e : cx.gv g = .undef := by
        show gvs g = _
        have : Nat.beq g 1 = false := by rw [Bool.eq_false_iff]; intro hb; exact hg (Nat.eq_of_beq_eq_true hb)
        simp [gvs, this]
      rw [e]; exact ⟨rfl, trivial⟩
  · have hp : p ∈ gcs := hp
    simp only [gcs, List.mem_singleton] at hp
    subst hp
    exact ⟨lt 0 _ hh, hh⟩
/-- A world in which they lie so. -/
noncomputable def laidWorld (os : Os) : World :=
  { World.holding Tryd.prog os ⟨#[], #[], []⟩ with heap := (((((World.holding Tryd.prog os ⟨#[], #[], []⟩).heap.modify 0 fun
      | .cells _ t frozen => .cells #[.iface 149 (.agg #[.pointer (some ⟨4, 108, none⟩)])] t frozen
      | o => o).modify 1 fun
      | .cells _ t frozen => .cells (asciiTab.map fun n => Value.int .u8 n).toArray t frozen
      | o => o).modify 2 fun
      | .cells _ t frozen => .cells #[.pointer (some ⟨9, 0, none⟩)] t frozen
      | o => o).push (.cells #[.slice (some ⟨10, 0, none⟩) 7 7, .slice none 0 0, .int .i64 2] 171)).push (.cells (([9, 13, 1, 32, 133, 101, 160, 5760, 5600, 8192, 8202, 1, 8232, 8233, 1, 8239, 8287, 48, 12288, 12288, 1] : List Int).map fun n => Value.int .u16 n).toArray 174) }
end Go.Proofs.YtehmahdngjdhpaaDoor
