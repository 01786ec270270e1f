/- Proved: what the small functions, the first error of a block, and the blocks of its frames are. Conditions: the lengths are those of slices in memory. -/
import Derived.Test.YtnmoccdnkpkhhaaLcWalk2
import Derived.Test.YtnmoccdnkpkhhaaRows
import Derived.JoinedOf

/-! What the small functions of the law's own package answer. -/
namespace Go.Proofs.Ytnmoccdnkpkhhaa
open Go Go.Am

def okL (l : List (List Int)) : Prop := l.length ≤ reachBytes ∧ ∀ f ∈ l, f.length ≤ reachBytes
theorem reachV : reachBytes = 140737488351232 := rfl

theorem okL.get {l : List (List Int)} (h : okL l) {i : Nat} (hi : i < l.length) : l[i].length ≤ reachBytes := h.2 _ (List.getElem_mem hi)

/-! small -/
def accW : List (List Int) → Int → Int
  | [], a => a
  | f :: l, a => accW l (IntKind.i64.wrap (a + (f.length : Int)))
def sumL (l : List (List Int)) : Nat := (l.map List.length).sum
def smallB (l : List (List Int)) : Bool := decide (l.length ≤ 60) && decide (sumL l ≤ 200000)

theorem sumL_le {B : Nat} : ∀ (l : List (List Int)), (∀ f ∈ l, f.length ≤ B) → sumL l ≤ l.length * B
  | [], _ => by simp [sumL]
  | f :: l, h => by
    have := sumL_le l fun g hg => h g (by simp [hg])
    have := h f (by simp)
    simp only [sumL, List.map_cons, List.sum_cons, List.length_cons, Nat.add_mul] at *
    omega
theorem accW_eq : ∀ (l : List (List Int)) (a : Nat), a + sumL l < 9223372036854775808 → accW l a = ((a + sumL l : Nat) : Int)
  | [], a, _ => by simp [accW, sumL]
  | f :: l, a, h => by
    simp only [sumL, List.map_cons, List.sum_cons] at h
    have e : IntKind.i64.wrap ((a : Int) + (f.length : Int)) = ((a + f.length : Nat) : Int) := by
      rw [wrap64 (by omega) (by omega)]; simp
    simp only [accW, e]
    rw [accW_eq l (a + f.length) (by simp only [sumL]; omega)]
    simp only [sumL, List.map_cons, List.sum_cons]
    omega

theorem f9_loop (l : List (List Int)) (hl : l.length ≤ reachBytes) : ∀ i, i ≤ l.length → Ev fun k => ∀ (R : Type) (acc : Int) (X : List (List Int) → Int → Option R), f9_l3 k l acc (i : Int) X = X l (accW (l.drop i) acc) := by
  rw [reachV] at hl
  refine Ev.down l.length ?_ ?_
  · exact Ev.suc (.all fun k R acc X => by simp [f9_l3, accW])
  · intro i hi h
    refine Ev.suc (h.imp fun k h R acc X => ?_)
    rw [f9_l3, lt_nat, inb_nat, wrapSuc (by omega)]
    simp only [hi, decide_true, cond_true, Int.toNat_natCast, getD_get hi]
    rw [h, List.drop_eq_getElem_cons hi]
    rfl

theorem f9_v (l : List (List Int)) (hl : okL l) : Ev fun k => ∀ (R : Type) (K : Bool → Option R), f9 k l K = K (smallB l) := by
  refine (f9_loop l hl.1 0 (by omega)).imp fun k h R K => ?_
  simp only [f9, f9_s]
  have h := h R 0
  simp only [Int.natCast_zero] at h
  rw [h]
  simp only [List.drop_zero]
  by_cases h60 : l.length ≤ 60
  · have h1 : decide ((l.length : Int) ≤ 60) = true := by simp; omega
    have hs := sumL_le l hl.2
    rw [reachV] at hs
    have := accW_eq l 0 (by have := Nat.mul_le_mul_right 140737488351232 h60; omega)
    simp only [Int.natCast_zero, Nat.zero_add] at this
    rw [h1, this]
    simp [smallB, h60]
    congr 1
    simp
    omega
  · have h1 : decide ((l.length : Int) ≤ 60) = false := by simp; omega
    rw [h1]
    simp [smallB, h60]

/-! equality of lists -/
theorem f14_loop (a b : List Int) (hl : a.length ≤ reachBytes) (hab : a.length = b.length) : ∀ i, i ≤ a.length → Ev fun k => ∀ (R : Type) (X0 : Option R) (X1 : Bool → Option R), f14_l4 k a b (i : Int) X0 X1 = if a.drop i = b.drop i then X0 else X1 false := by
  rw [reachV] at hl
  refine Ev.down a.length ?_ ?_
  · exact Ev.suc (.all fun k R X0 X1 => by simp [f14_l4, hab])
  · intro i hi h
    refine Ev.suc (h.imp fun k h R X0 X1 => ?_)
    have hi' : i < b.length := by omega
    rw [f14_l4, lt_nat, inb_nat, inb_nat, wrapSuc (by omega)]
    simp only [hi, hi', decide_true, cond_true, Int.toNat_natCast, getD_get hi, getD_get hi', h]
    simp only [drop_eq_iff hi hi', bne_dec]
    by_cases he : a[i] = b[i]
    · simp [he]
    · simp [he]

theorem f14_v (a b : List Int) (hl : a.length ≤ reachBytes) : Ev fun k => ∀ (R : Type) (K : Bool → Option R), f14 k a b K = K (decide (a = b)) := by
  by_cases hab : a.length = b.length
  · refine (f14_loop a b hl hab 0 (by omega)).imp fun k h R K => ?_
    simp only [Int.natCast_zero] at h
    simp only [f14, f14_s]
    rw [bne_len, h]
    by_cases he : a = b
    · simp [he]
    · simp [hab, he]
  · refine .all fun k R K => ?_
    simp only [f14, f14_s]
    rw [bne_len]
    have : a ≠ b := by rintro rfl; simp at hab
    simp [hab, this]

theorem f44_loop (a b : List Int) (hl : a.length ≤ reachBytes) (hab : a.length = b.length) : ∀ i, i ≤ a.length → Ev fun k => ∀ (R : Type) (X0 : Option R) (X1 : Bool → Option R), f44_l4 k a b (a.length : Int) (i : Int) X0 X1 = if a.drop i = b.drop i then X0 else X1 false := by
  rw [reachV] at hl
  refine Ev.down a.length ?_ ?_
  · exact Ev.suc (.all fun k R X0 X1 => by simp [f44_l4, hab])
  · intro i hi h
    refine Ev.suc (h.imp fun k h R X0 X1 => ?_)
    have hi' : i < b.length := by omega
    rw [f44_l4, lt_nat, inb_nat, inb_nat, wrapSuc (by omega)]
    simp only [hi, hi', decide_true, cond_true, Int.toNat_natCast, getD_get hi, getD_get hi', h]
    simp only [drop_eq_iff hi hi', bne_dec]
    by_cases he : a[i] = b[i]
    · simp [he]
    · simp [he]

theorem f44_v (a b : List Int) (hl : a.length ≤ reachBytes) : Ev fun k => ∀ (R : Type) (K : Bool → Option R), f44 k a b K = K (decide (a = b)) := by
  by_cases hab : a.length = b.length
  · refine (f44_loop a b hl hab 0 (by omega)).imp fun k h R K => ?_
    simp only [Int.natCast_zero] at h
    simp only [f44, f44_s]
    rw [bne_len, h]
    by_cases he : a = b
    · simp [he]
    · simp [hab, he]
  · refine .all fun k R K => ?_
    simp only [f44, f44_s]
    rw [bne_len]
    have : a ≠ b := by rintro rfl; simp at hab
    simp [hab, this]

theorem f19_loop (a b : List (List Int)) (hl : okL a) (hab : a.length = b.length) : ∀ i, i ≤ a.length → Ev fun k => ∀ (R : Type) (X0 : Option R) (X1 : Bool → Option R), f19_l4 f14 k a b (i : Int) X0 X1 = if a.drop i = b.drop i then X0 else X1 false := by
  have hl1 := hl.1
  rw [reachV] at hl1
  refine Ev.down a.length ?_ ?_
  · exact Ev.suc (.all fun k R X0 X1 => by simp [f19_l4, hab])
  · intro i hi h
    have hi' : i < b.length := by omega
    refine Ev.suc ((h.imp2 (f14_v a[i] b[i] (hl.get hi))) fun k h h14 R X0 X1 => ?_)
    rw [f19_l4, lt_nat, inb_nat, inb_nat, wrapSuc (by omega)]
    simp only [hi, hi', decide_true, cond_true, Int.toNat_natCast, getD_get hi, getD_get hi', h, h14]
    simp only [drop_eq_iff hi hi', bne_dec]
    by_cases he : a[i] = b[i]
    · simp [he]
    · simp [he]

theorem f19_v (a b : List (List Int)) (hl : okL a) : Ev fun k => ∀ (R : Type) (K : Bool → Option R), f19 k a b K = K (decide (a = b)) := by
  by_cases hab : a.length = b.length
  · refine (f19_loop a b hl hab 0 (by omega)).imp fun k h R K => ?_
    simp only [Int.natCast_zero] at h
    simp only [f19, f19_s]
    rw [bne_len, h]
    by_cases he : a = b
    · simp [he]
    · simp [hab, he]
  · refine .all fun k R K => ?_
    simp only [f19, f19_s]
    rw [bne_len]
    have : a ≠ b := by rintro rfl; simp at hab
    simp [hab, this]

theorem f43_loop (a b : List (List Int)) (hl : okL a) (hab : a.length = b.length) : ∀ i, i ≤ a.length → Ev fun k => ∀ (R : Type) (X0 : Option R) (X1 : Bool → Option R), f43_l4 f44 k b a (a.length : Int) (i : Int) X0 X1 = if a.drop i = b.drop i then X0 else X1 false := by
  have hl1 := hl.1
  rw [reachV] at hl1
  refine Ev.down a.length ?_ ?_
  · exact Ev.suc (.all fun k R X0 X1 => by simp [f43_l4, hab])
  · intro i hi h
    have hi' : i < b.length := by omega
    refine Ev.suc ((h.imp2 (f44_v a[i] b[i] (hl.get hi))) fun k h h14 R X0 X1 => ?_)
    rw [f43_l4, lt_nat, inb_nat, inb_nat, wrapSuc (by omega)]
    simp only [hi, hi', decide_true, cond_true, Int.toNat_natCast, getD_get hi, getD_get hi', h, h14]
    simp only [drop_eq_iff hi hi', bne_dec]
    by_cases he : a[i] = b[i]
    · simp [he]
    · simp [he]

theorem f43_v (a b : List (List Int)) (hl : okL a) : Ev fun k => ∀ (R : Type) (K : Bool → Option R), f43 k a b K = K (decide (a = b)) := by
  by_cases hab : a.length = b.length
  · refine (f43_loop a b hl hab 0 (by omega)).imp fun k h R K => ?_
    simp only [Int.natCast_zero] at h
    simp only [f43, f43_s]
    rw [bne_len, h]
    by_cases he : a = b
    · simp [he]
    · simp [hab, he]
  · refine .all fun k R K => ?_
    simp only [f43, f43_s]
    rw [bne_len]
    have : a ≠ b := by rintro rfl; simp at hab
    simp [hab, this]

/-! blocks -/
def eqB (x y : D0) : Bool := decide (x.1 = y.1) && (decide (x.2.1 = y.2.1) && (decide (x.2.2.1 = y.2.2.1) && (decide (x.2.2.2.1 = y.2.2.2.1) && decide (x.2.2.2.2 = y.2.2.2.2))))
theorem eqB_iff (x y : D0) : eqB x y = true ↔ x = y := by
  obtain ⟨a, b, c, d, e⟩ := x
  obtain ⟨a', b', c', d', e'⟩ := y
  simp [eqB]
theorem eqB_self (x : D0) : eqB x x = true := (eqB_iff x x).2 rfl

theorem f17_v (x y : D0) (hl : okL x.2.2.2.2) : Ev fun k => ∀ (R : Type) (K : Bool → Option R), f17 k x.1 x.2.1 x.2.2.1 x.2.2.2.1 x.2.2.2.2 y.1 y.2.1 y.2.2.1 y.2.2.2.1 y.2.2.2.2 K = K (eqB x y) := by
  refine (f19_v x.2.2.2.2 y.2.2.2.2 hl).imp fun k h R K => ?_
  simp only [f17, f17_s, h, eqB, beq_dec]
  by_cases h1 : x.1 = y.1 <;> by_cases h2 : x.2.1 = y.2.1 <;> by_cases h3 : x.2.2.1 = y.2.2.1 <;> by_cases h4 : x.2.2.2.1 = y.2.2.2.1 <;> simp [h1, h2, h3, h4]
theorem f31_v (x y : D0) (hl : okL x.2.2.2.2) : Ev fun k => ∀ (R : Type) (K : Bool → Option R), f31 k x.1 x.2.1 x.2.2.1 x.2.2.2.1 x.2.2.2.2 y.1 y.2.1 y.2.2.1 y.2.2.2.1 y.2.2.2.2 K = K (eqB x y) := by
  refine (f43_v x.2.2.2.2 y.2.2.2.2 hl).imp fun k h R K => ?_
  simp only [f31, f31_s, h, eqB, beq_dec]
  by_cases h1 : x.1 = y.1 <;> by_cases h2 : x.2.1 = y.2.1 <;> by_cases h3 : x.2.2.1 = y.2.2.1 <;> by_cases h4 : x.2.2.2.1 = y.2.2.2.1 <;> simp [h1, h2, h3, h4]

def okBs (a : List D0) : Prop := a.length ≤ reachBytes ∧ ∀ x ∈ a, okL x.2.2.2.2
theorem f30_loop (a b : List D0) (hl : okBs a) (hab : a.length = b.length) : ∀ i, i ≤ a.length → Ev fun k => ∀ (R : Type) (X0 : Option R) (X1 : Bool → Option R), f30_l4 f17 k a b (i : Int) X0 X1 = if a.drop i = b.drop i then X0 else X1 false := by
  have hl1 := hl.1
  rw [reachV] at hl1
  refine Ev.down a.length ?_ ?_
  · exact Ev.suc (.all fun k R X0 X1 => by simp [f30_l4, hab])
  · intro i hi h
    have hi' : i < b.length := by omega
    refine Ev.suc ((h.imp2 (f17_v a[i] b[i] (hl.2 _ (List.getElem_mem hi)))) fun k h h14 R X0 X1 => ?_)
    rw [f30_l4, lt_nat, inb_nat, inb_nat, wrapSuc (by omega)]
    simp only [hi, hi', decide_true, cond_true, Int.toNat_natCast, getD_get hi, getD_get hi', h, h14]
    simp only [drop_eq_iff hi hi', bne_dec]
    by_cases he : a[i] = b[i]
    · simp [he, eqB_self]
    · have : eqB a[i] b[i] = false := by
        cases hq : eqB a[i] b[i] with
        | true => exact absurd ((eqB_iff _ _).1 hq) he
        | false => rfl
      simp [he, this]

theorem f30_v (a b : List D0) (hl : okBs a) : Ev fun k => ∀ (R : Type) (K : Bool → Option R), f30 k a b K = K (decide (a = b)) := by
  by_cases hab : a.length = b.length
  · refine (f30_loop a b hl hab 0 (by omega)).imp fun k h R K => ?_
    simp only [Int.natCast_zero] at h
    simp only [f30, f30_s]
    rw [bne_len, h]
    by_cases he : a = b
    · simp [he]
    · simp [hab, he]
  · refine .all fun k R K => ?_
    simp only [f30, f30_s]
    rw [bne_len]
    have : a ≠ b := by rintro rfl; simp at hab
    simp [hab, this]
end Go.Proofs.Ytnmoccdnkpkhhaa

/-! What every row of this seat needs: the names of types, and that readings fit them. -/
namespace Go.Proofs.Ytnmoccdnkpkhhaa
open Go Go.Am
theorem ownKn : ownKnob Try.prog.godebug = none := by kernel_rfl
theorem laidOut : laidOutB Try.prog = true := by kernel_rfl
noncomputable def naming : Naming cx where
  flds := flds
  toT := toT
  ofT := ofT
  plain := fun r => match r with
    | 0 => rfl
    | 1 => rfl
    | _n + 2 => rfl
  to_of := fun r x => match r, x with
    | 0, _ => rfl
    | 1, _ => rfl
    | _n + 2, _ => rfl
  deep := fun r v => match r, v with
    | 0, _ => rfl
    | 1, _ => rfl
    | _n + 2, _ => rfl
theorem fit : Fit naming Try.prog := fit_of (tab := tab) rfl (by kernel_rfl)

theorem wf_lists {z : Nat} {l : List (List Int)} (h : WfIV (.list z (l.map fun y => [.list 1 (y.map fun y => [.int .u8 y])]))) : okL l := by
  cases h with
  | list h1 h2 =>
    refine ⟨by simpa using h1, fun f hf => ?_⟩
    have := h2 _ (List.mem_map.2 ⟨f, hf, rfl⟩) _ (List.mem_singleton.2 rfl)
    cases this with
    | list h3 h4 => simpa using h3
theorem wf_bytes {z : Nat} {l : List Int} (h : WfIV (.list z (l.map fun y => [.int .u8 y]))) : l.length ≤ reachBytes ∧ ∀ n ∈ l, 0 ≤ n ∧ n < 256 := by
  cases h with
  | list h1 h2 =>
    refine ⟨by simpa using h1, fun n hn => ?_⟩
    have := h2 _ (List.mem_map.2 ⟨n, hn, rfl⟩) _ (List.mem_singleton.2 rfl)
    cases this with
    | int h3 => simp [Lit.wf, IntKind.min, IntKind.max, IntKind.signed, IntKind.bits] at h3; omega
theorem wf_int {n : Int} (h : WfIV (.int .i64 n)) : -9223372036854775808 ≤ n ∧ n < 9223372036854775808 := by
  cases h with
  | int h3 => simp [Lit.wf, IntKind.min, IntKind.max, IntKind.signed, IntKind.bits] at h3; omega
theorem wf_elem {z : Nat} {l : List (List Int)} (h : WfIV (.list z (l.map fun y => [.list 1 (y.map fun y => [.int .u8 y])]))) : ∀ f ∈ l, ∀ n ∈ f, 0 ≤ n ∧ n < 256 := by
  cases h with
  | list h1 h2 =>
    intro f hf
    exact (wf_bytes (z := 1) (h2 _ (List.mem_map.2 ⟨f, hf, rfl⟩) _ (List.mem_singleton.2 rfl))).2

/-- What is known of a block that can be read as data. -/
structure okB (x : D0) : Prop where
  time : -9223372036854775808 ≤ x.2.1 ∧ x.2.1 < 9223372036854775808
  track : -9223372036854775808 ≤ x.1 ∧ x.1 < 9223372036854775808
  lacing : -9223372036854775808 ≤ x.2.2.2.1 ∧ x.2.2.2.1 < 9223372036854775808
  lens : okL x.2.2.2.2
  bytes : ∀ f ∈ x.2.2.2.2, ∀ n ∈ f, 0 ≤ n ∧ n < 256
theorem okB_of {x : D0} (h : ∀ iv ∈ deep cx (.named 0) x, WfIV iv) : okB x where
  track := wf_int (h (.int .i64 x.1) (by show _ ∈ deep0 x; simp [deep0]))
  time := wf_int (h (.int .i64 x.2.1) (by show _ ∈ deep0 x; simp [deep0]))
  lacing := wf_int (h (.int .i64 x.2.2.2.1) (by show _ ∈ deep0 x; simp [deep0]))
  lens := wf_lists (z := 1) (h _ (by show _ ∈ deep0 x; simp [deep0]))
  bytes := wf_elem (z := 1) (h _ (by show _ ∈ deep0 x; simp [deep0]))
end Go.Proofs.Ytnmoccdnkpkhhaa

/-! The first error of a block, by the program and by the chapter; a copy of bytes; the blocks of a block's frames. -/
namespace Go.Proofs.Ytnmoccdnkpkhhaa
open Go Go.Am

def tooBig (f : List Int) : Bool := decide (65536 < f.length)
/-- The first place of one that is so. -/
def ff (P : List Int → Bool) : List (List Int) → Nat → Option Nat
  | [], _ => none
  | f :: l, i => if P f then some i else ff P l (i + 1)
theorem ff_any (P : List Int → Bool) : ∀ (l : List (List Int)) (i : Nat), (ff P l i).isSome = l.any P
  | [], _ => rfl
  | f :: l, i => by
    simp only [ff, List.any_cons]
    cases h : P f with
    | true => simp
    | false => simp [ff_any P l (i + 1)]

theorem f64_loop (l : List (List Int)) (hl : l.length ≤ reachBytes) : ∀ i, i ≤ l.length → Ev fun k => ∀ (R : Type) (X0 : Option R) (X1 : Int → Option R), f64_l2 f52 k l (l.length : Int) (i : Int) X0 X1 = (match ff tooBig (l.drop i) i with
    | none => X0
    | some j => X1 (j : Int)) := by
  rw [reachV] at hl
  refine Ev.down l.length ?_ ?_
  · exact Ev.suc (.all fun k R X0 X1 => by simp [f64_l2, ff])
  · intro i hi h
    refine Ev.suc (h.imp fun k h R X0 X1 => ?_)
    rw [f64_l2, lt_nat, inb_nat, wrapSuc (by omega)]
    simp only [hi, decide_true, cond_true, Int.toNat_natCast, getD_get hi, h, f52, f52_s]
    rw [List.drop_eq_getElem_cons hi]
    simp only [ff, tooBig]
    by_cases hb : 65536 < l[i].length
    · have : decide ((l[i].length : Int) > 65536) = true := by simp; omega
      simp [this, hb]
    · have : decide ((l[i].length : Int) > 65536) = false := by simp; omega
      simp [this, hb]

theorem f51_v (l : List (List Int)) (hl : l.length ≤ reachBytes) : Ev fun k => ∀ (R : Type) (K : Bool → Option R), f51 k l K = K (l.any tooBig) := by
  refine (f64_loop l hl 0 (by omega)).imp fun k h R K => ?_
  simp only [Int.natCast_zero] at h
  simp only [f51, f51_s, f64, f64_s, h]
  rw [← ff_any tooBig l 0]
  simp only [List.drop_zero]
  cases ff tooBig l 0 with
  | none => simp
  | some j => simp

def notLike (n : Nat) (f : List Int) : Bool := !decide (f.length = n)
theorem f64_2_loop (g : List (List Int)) (hg : 0 < g.length) (l : List (List Int)) (hl : l.length ≤ reachBytes) : ∀ i, i ≤ l.length → Ev fun k => ∀ (R : Type) (X0 : List (List Int) → Option R) (X1 : Int → List (List Int) → Option R), f64_2_l2 f53 k l (l.length : Int) (i : Int) g X0 X1 = (match ff (notLike g[0].length) (l.drop i) i with
    | none => X0 g
    | some j => X1 (j : Int) g) := by
  rw [reachV] at hl
  refine Ev.down l.length ?_ ?_
  · exact Ev.suc (.all fun k R X0 X1 => by simp [f64_2_l2, ff])
  · intro i hi h
    refine Ev.suc (h.imp fun k h R X0 X1 => ?_)
    have hz : inb 0 g.length = true := inb_int (by omega) (by omega)
    have hz' : g.getD 0 [] = g[0] := getD_get hg
    rw [f64_2_l2, lt_nat, inb_nat, wrapSuc (by omega)]
    simp only [hi, decide_true, cond_true, Int.toNat_natCast, getD_get hi, h, f53, f53_s, hz, hz', bne_len]
    rw [List.drop_eq_getElem_cons hi]
    simp only [ff, notLike]
    by_cases hb : l[i].length = g[0].length
    · simp [hb]
    · simp [hb]

theorem f51_2_v (l : List (List Int)) (hg : 0 < l.length) (hl : l.length ≤ reachBytes) : Ev fun k => ∀ (R : Type) (K : Bool → List (List Int) → Option R), f51_2 k l l K = K (l.any (notLike l[0].length)) l := by
  refine (f64_2_loop l hg l hl 0 (by omega)).imp fun k h R K => ?_
  simp only [Int.natCast_zero] at h
  simp only [f51_2, f51_2_s, f64_2, f64_2_s, h]
  rw [← ff_any (notLike l[0].length) l 0]
  simp only [List.drop_zero]
  cases ff (notLike l[0].length) l 0 with
  | none => simp
  | some j => simp

/-- The first error of frames. -/
def framesE (lacing : Int) (l : List (List Int)) : Int :=
  if h : l.length < 1 ∨ 32 < l.length then 2 else if l.any tooBig then 2 else if lacing = 0 ∧ 1 < l.length then 50 else if lacing = 2 ∧ l.any (notLike (l[0]'(by omega)).length) = true then 50 else 0

theorem f36_v (lacing : Int) (l : List (List Int)) (hl : okL l) : Ev fun k => ∀ (R : Type) (K : Int → Option R), f36 k lacing l K = K (framesE lacing l) := by
  by_cases h1 : l.length < 1
  · refine .all fun k R K => ?_
    have : decide ((l.length : Int) < 1) = true := by simp; omega
    simp [f36, f36_s, this, framesE, h1]
  · by_cases h2 : 32 < l.length
    · refine .all fun k R K => ?_
      have a : decide ((l.length : Int) < 1) = false := by simp; omega
      have b : decide ((l.length : Int) > 32) = true := by simp; omega
      simp [f36, f36_s, a, b, framesE, h2]
    · refine (f51_v l hl.1).imp2 (f51_2_v l (by omega) hl.1) fun k h h' R K => ?_
      have a : decide ((l.length : Int) < 1) = false := by simp; omega
      have b : decide ((l.length : Int) > 32) = false := by simp; omega
      have c : decide ((l.length : Int) > 1) = decide (1 < l.length) := by
        by_cases h : 1 < l.length
        · have : (l.length : Int) > 1 := by omega
          simp [h, this]
        · have : ¬ (l.length : Int) > 1 := by omega
          simp [h, this]
      have d : ¬ (l.length < 1 ∨ 32 < l.length) := by omega
      simp only [f36, f36_s, a, b, c, cond_false, h, h', framesE, d, dif_neg, not_false_eq_true, beq_dec]
      cases l.any tooBig with
      | true => simp
      | false =>
        by_cases e : lacing = 0
        · subst e
          by_cases e' : 1 < l.length
          · simp [e']
          · simp [e']
        · by_cases e2 : lacing = 2
          · subst e2
            cases l.any (notLike (l[0]'(by omega)).length) <;> simp
          · simp [e, e2]

theorem f37_loop (lacing : Int) (l : List (List Int)) (hl : okL l) (h0 : 0 < l.length) : ∀ i, i ≤ l.length → Ev fun k => ∀ (R : Type) (same : Bool) (X0 : Int → List (List Int) → Bool → Option R) (X1 : Int → Option R), f37_l5 k lacing l same (i : Int) X0 X1 =
    if (l.drop i).any tooBig then X1 2 else X0 lacing l (same && !(l.drop i).any (notLike l[0].length)) := by
  have hl1 := hl.1
  rw [reachV] at hl1
  refine Ev.down l.length ?_ ?_
  · exact Ev.suc (.all fun k R same X0 X1 => by simp [f37_l5])
  · intro i hi h
    refine Ev.suc (h.imp fun k h R same X0 X1 => ?_)
    have hz : inb 0 l.length = true := inb_int (by omega) (by omega)
    have hz' : l.getD 0 [] = l[0] := getD_get h0
    rw [f37_l5, lt_nat, inb_nat, wrapSuc (by omega)]
    simp only [hi, decide_true, cond_true, Int.toNat_natCast, getD_get hi, h, hz, hz']
    rw [List.drop_eq_getElem_cons hi]
    simp only [List.any_cons]
    by_cases hb : 65536 < l[i].length
    · have : decide ((l[i].length : Int) > 65536) = true := by simp; omega
      simp [this, tooBig, hb]
    · have : decide ((l[i].length : Int) > 65536) = false := by simp; omega
      have hbl : ((l[i].length : Int) == (l[0].length : Int)) = decide (l[i].length = l[0].length) := by
        by_cases hq : l[i].length = l[0].length
        · simp [hq]
        · have : ¬ ((l[i].length : Int) = (l[0].length : Int)) := by omega
          simp [hq, this]
      cases same with
      | false => simp [this, tooBig, hb]
      | true =>
        simp only [this, tooBig, hb, cond_false, cond_true, hbl, decide_false, Bool.false_or, notLike, Bool.true_and, Bool.not_or, Bool.not_not]

theorem f37_v (lacing : Int) (l : List (List Int)) (hl : okL l) : Ev fun k => ∀ (R : Type) (K : Int → Option R), f37 k lacing l K = K (framesE lacing l) := by
  by_cases h1 : l.length < 1
  · refine .all fun k R K => ?_
    have : decide ((l.length : Int) < 1) = true := by simp; omega
    simp [f37, f37_s, this, framesE, h1]
  · by_cases h2 : 32 < l.length
    · refine .all fun k R K => ?_
      have a : decide ((l.length : Int) < 1) = false := by simp; omega
      have b : decide ((l.length : Int) > 32) = true := by simp; omega
      simp [f37, f37_s, a, b, framesE, h2]
    · refine (f37_loop lacing l hl (by omega) 0 (by omega)).imp fun k h R K => ?_
      simp only [Int.natCast_zero] at h
      have a : decide ((l.length : Int) < 1) = false := by simp; omega
      have b : decide ((l.length : Int) > 32) = false := by simp; omega
      have c : decide ((l.length : Int) > 1) = decide (1 < l.length) := by
        by_cases h : 1 < l.length
        · have : (l.length : Int) > 1 := by omega
          simp [h, this]
        · have : ¬ (l.length : Int) > 1 := by omega
          simp [h, this]
      have d : ¬ (l.length < 1 ∨ 32 < l.length) := by omega
      simp only [f37, f37_s, a, b, c, cond_false, h, framesE, d, dif_neg, not_false_eq_true, beq_dec, List.drop_zero]
      cases l.any tooBig with
      | true => simp
      | false =>
        by_cases e : lacing = 0
        · subst e
          by_cases e' : 1 < l.length
          · simp [e']
          · simp [e']
        · by_cases e2 : lacing = 2
          · subst e2
            cases l.any (notLike (l[0]'(by omega)).length) <;> simp
          · simp [e, e2]

/-- The first error of a block. -/
def chkE (x : D0) : Int :=
  if x.1 < 1 ∨ 1000 < x.1 ∨ x.2.1 < -32768 ∨ 32767 < x.2.1 ∨ x.2.2.2.1 < 0 ∨ 3 < x.2.2.2.1 then 1 else framesE x.2.2.2.1 x.2.2.2.2

theorem f12_v (x : D0) (hl : okL x.2.2.2.2) : Ev fun k => ∀ (R : Type) (K : Int → Option R), f12 k x.1 x.2.1 x.2.2.1 x.2.2.2.1 x.2.2.2.2 K = K (chkE x) := by
  refine (f36_v x.2.2.2.1 x.2.2.2.2 hl).imp fun k h R K => ?_
  simp only [f12, f12_s, h, chkE]
  by_cases h1 : x.1 < 1
  · simp [h1]
  by_cases h2 : 1000 < x.1
  · simp [h1, h2]
  by_cases h3 : x.2.1 < -32768
  · simp [h1, h2, h3]
  by_cases h4 : 32767 < x.2.1
  · simp [h1, h2, h3, h4]
  by_cases h5 : x.2.2.2.1 < 0
  · simp [h1, h2, h3, h4, h5]
  by_cases h6 : 3 < x.2.2.2.1
  · simp [h1, h2, h3, h4, h5, h6]
  simp [h1, h2, h3, h4, h5, h6]

theorem f13_v (x : D0) (hl : okL x.2.2.2.2) : Ev fun k => ∀ (R : Type) (K : Int → Option R), f13 k x.1 x.2.1 x.2.2.1 x.2.2.2.1 x.2.2.2.2 K = K (chkE x) := by
  refine (f37_v x.2.2.2.1 x.2.2.2.2 hl).imp fun k h R K => ?_
  simp only [f13, f13_s, h, chkE]
  by_cases h1 : x.1 < 1
  · simp [h1]
  by_cases h2 : 1000 < x.1
  · simp [h1, h2]
  by_cases h3 : x.2.1 < -32768
  · simp [h1, h2, h3]
  by_cases h4 : 32767 < x.2.1
  · simp [h1, h2, h3, h4]
  by_cases h5 : x.2.2.2.1 < 0
  · simp [h1, h2, h3, h4, h5]
  by_cases h6 : 3 < x.2.2.2.1
  · simp [h1, h2, h3, h4, h5, h6]
  simp [h1, h2, h3, h4, h5, h6]

/-! copies -/
theorem f40_2_v (a : List Int) (h : a.length ≤ reachBytes) : Ev fun k => ∀ (R : Type) (K : List Int → Option R), f40_2 k a K = K a := by
  rw [reachV] at h
  refine .all fun k R K => ?_
  simp only [f40_2, f40_2_s]
  rw [room_ok (by simp; omega)]
  rfl

theorem f42_loop (a : List Int) (h : a.length ≤ reachBytes) : ∀ i, i ≤ a.length → Ev fun k => ∀ (R : Type) (X0 : List Int → Option R), f42_l3 k a (i : Int) (a.take i) X0 = X0 a := by
  rw [reachV] at h
  refine Ev.down a.length ?_ ?_
  · exact Ev.suc (.all fun k R X0 => by simp [f42_l3])
  · intro i hi h
    refine Ev.suc (h.imp fun k h R X0 => ?_)
    rw [f42_l3, lt_nat, inb_nat, wrapSuc (by omega), room_ok (by simp; omega)]
    simp only [hi, decide_true, cond_true, Int.toNat_natCast, getD_get hi]
    have : a.take i ++ [a[i]] = a.take (i + 1) := by simp
    rw [this, h]

theorem f42_v (a : List Int) (h : a.length ≤ reachBytes) : Ev fun k => ∀ (R : Type) (K : List Int → Option R), f42 k a K = K a := by
  refine (f42_loop a h 0 (by omega)).imp fun k h' R K => ?_
  rw [reachV] at h
  simp only [Int.natCast_zero, List.take_zero] at h'
  simp only [f42, f42_s, h']
  have a1 : decide ((0 : Int) ≤ (a.length : Int)) = true := by simp
  have a2 : decide ((a.length : Int) * ((1 : Nat) : Int) ≤ 140737488355328) = true := by simp; omega
  rw [a1, a2]; rfl

/-! Split -/
def splitB (x : D0) (l : List (List Int)) : List D0 := l.map fun f => (x.1, x.2.1, x.2.2.1, 0, [f])

theorem f28_loop (x : D0) (hl : okL x.2.2.2.2) (h60 : x.2.2.2.2.length ≤ 60) : ∀ i, i ≤ x.2.2.2.2.length → Ev fun k => ∀ (R : Type) (X0 : List D0 → Option R),
    f28_l6 f12 f40_2 k x.2.2.2.2 (x.2.2.2.2.length : Int) (i : Int) x.1 x.2.1 x.2.2.1 x.2.2.2.1 x.2.2.2.2 (splitB x (x.2.2.2.2.take i)) X0 = X0 (splitB x x.2.2.2.2) := by
  refine Ev.down _ ?_ ?_
  · exact Ev.suc (.all fun k R X0 => by simp [f28_l6])
  · intro i hi h
    refine Ev.suc (h.imp2 (f40_2_v _ (hl.get hi)) fun k h hc R X0 => ?_)
    rw [f28_l6, lt_nat, inb_nat, wrapSuc (by omega)]
    simp only [hi, decide_true, cond_true, Int.toNat_natCast, getD_get hi, hc]
    have : splitB x (x.2.2.2.2.take i) ++ [(x.1, x.2.1, x.2.2.1, 0, [x.2.2.2.2[i]])] = splitB x (x.2.2.2.2.take (i + 1)) := by
      unfold splitB; rw [List.take_succ_eq_append_getElem hi, List.map_append]; rfl
    rw [room_ok (by simp [splitB]; omega), this, h]
    rfl

theorem f28_v (x : D0) (hl : okL x.2.2.2.2) (h60 : x.2.2.2.2.length ≤ 60) : Ev fun k => ∀ (R : Type) (K : Int → List D0 → Option R), f28 k x.1 x.2.1 x.2.2.1 x.2.2.2.1 x.2.2.2.2 K = if chkE x = 0 then K 0 (splitB x x.2.2.2.2) else K (chkE x) [] := by
  refine (f12_v x hl).imp2 (f28_loop x hl h60 0 (by omega)) fun k h1 h2 R K => ?_
  simp only [Int.natCast_zero, List.take_zero, splitB, List.map_nil] at h2
  simp only [f28, f28_s, h1, h2, bne_dec]
  by_cases h : chkE x = 0
  · simp [h, splitB]
  · simp [h]

theorem f29_loop (x : D0) (hl : okL x.2.2.2.2) (h60 : x.2.2.2.2.length ≤ 60) : ∀ i, i ≤ x.2.2.2.2.length → Ev fun k => ∀ (R : Type) (X0 : List D0 → Option R),
    f29_l6 f13 f42 k (i : Int) x.1 x.2.1 x.2.2.1 x.2.2.2.1 x.2.2.2.2 (splitB x (x.2.2.2.2.take i)) X0 = X0 (splitB x x.2.2.2.2) := by
  refine Ev.down _ ?_ ?_
  · exact Ev.suc (.all fun k R X0 => by simp [f29_l6])
  · intro i hi h
    refine Ev.suc (h.imp2 (f42_v _ (hl.get hi)) fun k h hc R X0 => ?_)
    rw [f29_l6, lt_nat, inb_nat, wrapSuc (by omega)]
    simp only [hi, decide_true, cond_true, Int.toNat_natCast, getD_get hi, hc]
    have : splitB x (x.2.2.2.2.take i) ++ [(x.1, x.2.1, x.2.2.1, 0, [x.2.2.2.2[i]])] = splitB x (x.2.2.2.2.take (i + 1)) := by
      unfold splitB; rw [List.take_succ_eq_append_getElem hi, List.map_append]; rfl
    rw [room_ok (by simp [splitB]; omega), this, h]
    rfl

theorem f29_v (x : D0) (hl : okL x.2.2.2.2) (h60 : x.2.2.2.2.length ≤ 60) : Ev fun k => ∀ (R : Type) (K : Int → List D0 → Option R), f29 k x.1 x.2.1 x.2.2.1 x.2.2.2.1 x.2.2.2.2 K = if chkE x = 0 then K 0 (splitB x x.2.2.2.2) else K (chkE x) [] := by
  refine (f13_v x hl).imp2 (f29_loop x hl h60 0 (by omega)) fun k h1 h2 R K => ?_
  simp only [Int.natCast_zero, List.take_zero, splitB, List.map_nil] at h2
  simp only [f29, f29_s, h1, h2, bne_dec]
  by_cases h : chkE x = 0
  · simp [h, splitB]
  · simp [h]

/-! awake -/
theorem awake_v : Ev fun k => ∀ (R : Type) (K : Bool → Option R), f15 k K = K true := by
  have h : ∀ (j : Nat) (R : Type) (K : Bool → Option R), f15 (j + 40) K = K true := fun j R K => by kernel_rfl
  exact ⟨40, fun k hk R K => by
    obtain ⟨j, rfl⟩ : ∃ j, k = j + 40 := ⟨k - 40, by omega⟩
    exact h j R K⟩

/-! LaceSplits -/
theorem laceSplits_plain (x y : D0) (hx : okL x.2.2.2.2) (hy : okL y.2.2.2.2) : ∃ k, f8 (R := Bool) k x.1 x.2.1 x.2.2.1 x.2.2.2.1 x.2.2.2.2 y.1 y.2.1 y.2.2.1 y.2.2.2.1 y.2.2.2.2 some = some true := by
  refine Ev.some ?_
  by_cases h60 : x.2.2.2.2.length ≤ 60
  · have okB : okBs (splitB x x.2.2.2.2) := by
      refine ⟨by simp [splitB, reachV]; omega, fun z hz => ?_⟩
      simp only [splitB, List.mem_map] at hz
      obtain ⟨f, hf, rfl⟩ := hz
      exact ⟨by simp [reachV], by simpa using hx.2 f hf⟩
    refine ((f9_v _ hx).imp4 (f9_v _ hy) (f28_v x hx h60) (f29_v x hx h60) fun k a b c d => And.intro a (And.intro b (And.intro c d))).imp4 ((f30_v (splitB x x.2.2.2.2) (splitB x x.2.2.2.2) okB).and (f30_v [] [] ⟨by simp, by simp⟩)) ((f31_v x y hx).and (f17_v x y hx)) ((f31_v x x hx).and awake_v) ?_
    rintro k ⟨s1, s2, h28, h29⟩ ⟨h30, h30'⟩ ⟨h31, h17⟩ ⟨h31', h15⟩
    simp only [f8, f8_s, s1, s2, h28, h29]
    cases smallB x.2.2.2.2 with
    | false => rfl
    | true =>
      cases smallB y.2.2.2.2 with
      | false => rfl
      | true =>
        simp only [Bool.not_true, cond_false]
        by_cases hc : chkE x = 0
        · simp [hc, h30, h31, h17, h31', h15, eqB_self]
        · simp [hc, h30', h31, h17, h31', h15, eqB_self]
  · refine (f9_v _ hx).imp fun k s1 => ?_
    have : smallB x.2.2.2.2 = false := by simp [smallB, h60]
    simp [f8, f8_s, s1, this]
end Go.Proofs.Ytnmoccdnkpkhhaa
