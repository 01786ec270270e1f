/- Proved: the plain laws of BoxCovers. Conditions: none. -/
import Derived.Test.YtehmahdngjdhpaaDoorBxWalk1
import Derived.Test.YtehmahdngjdhpaaDoorRows
import Derived.Test.YtehmahdngjdhpaaDoorCards
import Derived.Test.YtehmahdngjdhpaaDoorTie
import Derived.JoinedOf
import Derived.Lib.LaidTab
import Derived.LaidLaws
import Derived.LaidHandle
import Derived.Stop.Joined

set_option maxRecDepth 100000
namespace Go.Proofs.YtehmahdngjdhpaaDoor
open Go Go.Am
theorem awake_v (R : Type) : Ev fun k => ∀ (K : Bool → Option R), f20 k K = K true := by
  refine .plus 40 (.all fun k K => ?_)
  kernel_rfl
/-- A tree as it lies in memory. -/
inductive OkN : D1 → Prop
  | mk {i : Int} {d : List Int} {ks : List D1} {g : Bool} : -9223372036854775808 ≤ i ∧ i < 9223372036854775808 → okBy d → d.length ≤ reachBytes → ks.length * 64 ≤ reachBytes → (∀ x ∈ ks, OkN x) → OkN (.mk i d ks g)
def OkL (l : List D1) : Prop := l.length * 64 ≤ reachBytes ∧ ∀ x ∈ l, OkN x
theorem OkN.id {n : D1} (h : OkN n) : -9223372036854775808 ≤ n.c0 ∧ n.c0 < 9223372036854775808 := by cases h; assumption
theorem OkN.by {n : D1} (h : OkN n) : okBy n.c1 := by cases h; assumption
theorem OkN.len {n : D1} (h : OkN n) : n.c1.length ≤ reachBytes := by cases h; assumption
theorem OkN.kids {n : D1} (h : OkN n) : OkL n.c2 := by cases h; exact ⟨by assumption, by assumption⟩
theorem f79_loop (R : Type) (l : List Int) (hl : okBy l) (h8 : l.length ≤ 8) : ∀ i, i ≤ l.length → Ev fun k => ∀ (v : Int) (X : Int → Option R), 0 ≤ v → v < 256 ^ i → f79_l7 k v l (l.length : Int) (i : Int) X = X (valF (l.drop i) v) := by
  refine Ev.down l.length ?_ ?_
  · exact Ev.suc (.all fun k v X _ _ => by simp [f79_l7, valF])
  · intro i hi h
    refine Ev.suc (h.imp fun k hk v X h0 h1 => ?_)
    have hc := hl.get hi
    have hp : (256 : Int) ^ i ≤ 72057594037927936 := by
      have h2 : (256 : Nat) ^ i ≤ 72057594037927936 := Nat.le_trans (Nat.pow_le_pow_right (by decide) (show i ≤ 7 by omega)) (by decide)
      have e : ((256 ^ i : Nat) : Int) = (256 : Int) ^ i := Int.natCast_pow 256 i
      omega
    have ho := or_byteU h0 (by omega) hc.1 hc.2
    rw [f79_l7, lt_nat, inb_nat, wrapSuc (by omega)]
    simp only [hi, decide_true, cond_true, Int.toNat_natCast, getD_get hi, ho]
    have hv : v * 256 + l[i] < 256 ^ (i + 1) := by
      rw [Int.pow_succ]; omega
    rw [hk _ X (by omega) hv, List.drop_eq_getElem_cons hi, valF_cons]
/-- The number of the first bytes; one too great counts as the greatest. -/
def num (b : List Int) (n : Nat) : Int := if 9223372036854775807 < valF (b.take n) 0 then 9223372036854775807 else valF (b.take n) 0
theorem val_bound {b : List Int} (hb : okBy b) {n : Nat} (h : n ≤ b.length) : 0 ≤ valF (b.take n) 0 ∧ valF (b.take n) 0 < 256 ^ n := by
  have := valF_bound (hb.take n) 0
  have e : (b.take n).length = n := by simp; omega
  rw [e] at this
  omega
theorem num_small {b : List Int} (hb : okBy b) {n : Nat} (h : n ≤ b.length) (h7 : n ≤ 7) : num b n = valF (b.take n) 0 := by
  have := (val_bound hb h).2
  have h2 : (256 : Nat) ^ n ≤ 72057594037927936 := Nat.le_trans (Nat.pow_le_pow_right (by decide) h7) (by decide)
  have e : ((256 ^ n : Nat) : Int) = (256 : Int) ^ n := Int.natCast_pow 256 n
  unfold num
  rw [if_neg (by omega)]
theorem f54_v (R : Type) (b : List Int) (hb : okBy b) (hl : b.length ≤ 140737488355328) {n : Nat} (h1 : 1 ≤ n) (h8 : n ≤ 8) (h : n ≤ b.length) : Ev fun k => ∀ (K : Int → Option R), f54 k b (n : Int) K = K (num b n) := by
  have el : (b.take n).length = n := by simp; omega
  refine (f79_loop R (b.take n) (hb.take n) (by omega) 0 (by omega)).imp fun k hk K => ?_
  have t1 : decide ((n : Int) < 1) = false := decide_eq_false (by omega)
  have t2 : decide ((n : Int) > 8) = false := decide_eq_false (by omega)
  have t4 : decide ((0 : Int) > (b.length : Int)) = false := decide_eq_false (by omega)
  have w1 : IntKind.i64.wrap ((b.length : Int) - 0) = (b.length : Int) := by rw [wrap64 (by omega) (by omega)]; omega
  have w2 : IntKind.i64.wrap ((0 : Int) + (n : Int)) = (n : Int) := by rw [wrap64 (by omega) (by omega)]; omega
  have t5 : decide ((b.length : Int) < (n : Int)) = false := decide_eq_false (by omega)
  have t7 : decide ((0 : Int) ≤ (n : Int)) = true := decide_eq_true (by omega)
  simp only [Int.natCast_zero, List.drop_zero] at hk
  simp only [f54, f79, t1, t2, t4, w1, w2, t5, t7, cond_false, upto_nat, h, decide_true, Bool.and_self, cond_true, Int.toNat_natCast, Int.toNat_zero, List.drop_zero, Int.lt_irrefl, decide_false]
  rw [hk 0 _ (by omega) (by decide)]
  have hbd := val_bound hb h
  unfold num
  by_cases hx : 9223372036854775807 < valF (b.take n) 0
  · rw [if_pos hx, decide_eq_true (show valF (b.take n) 0 > 9223372036854775807 from hx)]; rfl
  · rw [if_neg hx, decide_eq_false (show ¬ valF (b.take n) 0 > 9223372036854775807 from hx), wrap64 (by omega) (by omega)]; rfl
theorem f96_loop (R : Type) : ∀ n, n ≤ 1000 → Ev fun k => ∀ (w : Int) (out : List Int) (X : List Int → Option R), n ≤ out.length → f96_l3 k w ((n : Int) - 1) out X = X (beB n w ++ out.drop n)
  | 0, _ => .suc (.all fun k w out X _ => by
    rw [f96_l3, deF (by omega)]; simp [beB])
  | n + 1, hn => by
    refine .suc ((f96_loop R n (by omega)).imp fun k hk w out X ho => ?_)
    have e : ((n + 1 : Nat) : Int) - 1 = (n : Int) := by omega
    rw [e, f96_l3, inb_nat, wr (by omega), wrapU8, shr8]
    simp only [deT (show (n : Int) ≥ 0 by omega), show n < out.length by omega, decide_true, cond_true, Int.toNat_natCast]
    rw [hk _ _ X (by simp; omega), set_drop (by omega), beB, List.append_assoc]; rfl
theorem f96_v (R : Type) {n : Nat} (hn : n ≤ 1000) : Ev fun k => ∀ (w : Int) (K : List Int → Option R), f96 k w (n : Int) K = K (beB n w) :=
  (f96_loop R n hn).imp fun k hk w K => by
    simp only [f96, mk_ok (show n ≤ 140737488355328 by omega), cond_true, Int.toNat_natCast]
    rw [wr (by omega), hk w _ K (by simp)]; simp
theorem shr_pos (v : Int) (h : 0 ≤ v) (n : Nat) (h1 : 1 ≤ n) (h7 : n ≤ 7) (hv : v < 256 ^ n) : decide (IntKind.i64.wrap (8 * (n : Int)) < 0) = false ∧ decide (shrI .i64 v (IntKind.i64.wrap (8 * (n : Int))) > 0) = false := by
  rw [wr (by omega)]
  refine ⟨decide_eq_false (by omega), decide_eq_false ?_⟩
  unfold shrI
  have e1 : min (8 * (n : Int)).toNat IntKind.i64.bits = 8 * n := by
    have : IntKind.i64.bits = 64 := rfl
    omega
  rw [e1, Int.fdiv_eq_ediv_of_nonneg _ (by exact Int.le_of_lt (Int.pow_pos (by decide)))]
  have e2 : (2 : Int) ^ (8 * n) = 256 ^ n := by rw [Int.pow_mul]; rfl
  rw [e2, Int.ediv_eq_zero_of_lt h hv]
  decide
theorem f80_v (R : Type) {n : Nat} (h1 : 1 ≤ n) (h8 : n ≤ 8) : Ev fun k => ∀ (v : Int) (K : Int → List Int → Option R), 0 ≤ v → v < 9223372036854775808 → v < 256 ^ n → f80 k v (n : Int) K = K 0 (beB n v) := by
  refine (f96_v R (show n ≤ 1000 by omega)).imp fun k hk v K h0 hv hn => ?_
  have t1 : decide ((n : Int) < 1) = false := decide_eq_false (by omega)
  have t2 : decide ((n : Int) > 8) = false := decide_eq_false (by omega)
  have t3 : decide (v < 0) = false := decide_eq_false (by omega)
  simp only [f80, t1, t2, t3, cond_false]
  by_cases h7 : n < 8
  · obtain ⟨s1, s2⟩ := shr_pos v h0 n h1 (by omega) hn
    rw [deT (show (n : Int) < 8 by omega)]
    simp only [cond_true, s1, s2, cond_false, wrapU64 h0 (show v < 18446744073709551616 by omega), hk]
  · rw [deF (show ¬ (n : Int) < 8 by omega)]
    simp only [cond_false, wrapU64 h0 (show v < 18446744073709551616 by omega), hk]
theorem f57_v (R : Type) {n : Nat} (h1 : 1 ≤ n) (h8 : n ≤ 8) : Ev fun k => ∀ (v : Int) (K : List Int → Option R), 0 ≤ v → v < 9223372036854775808 → v < 256 ^ n → f57 k v (n : Int) K = K (beB n v) :=
  (f80_v R h1 h8).imp fun k hk v K h0 hv hn => by
    rw [f57, hk v _ h0 hv hn, roT (by rw [beB_len]; omega)]; rfl
abbrev n_movi : List Int := [109, 111, 118, 105]
abbrev n_frag : List Int := [102, 114, 97, 103]
abbrev n_trak : List Int := [116, 114, 97, 107]
abbrev n_mdia : List Int := [109, 100, 105, 97]
abbrev n_edts : List Int := [101, 100, 116, 115]
abbrev n_stbl : List Int := [115, 116, 98, 108]
abbrev n_prot : List Int := [112, 114, 111, 116]
abbrev n_udat : List Int := [117, 100, 97, 116]
abbrev n_tfrg : List Int := [116, 102, 114, 103]
abbrev n_meta : List Int := [109, 101, 116, 97]
abbrev n_item : List Int := [105, 116, 101, 109]
/-- The groups that a group may be in (empty: outermost); none: it is no group. -/
def par (nm : List Int) : Option (List (List Int)) :=
  if nm = n_movi then some [[]] else
  if nm = n_frag then some [[]] else
  if nm = n_trak then some [n_movi] else
  if nm = n_mdia then some [n_trak] else
  if nm = n_edts then some [n_trak] else
  if nm = n_stbl then some [n_mdia] else
  if nm = n_prot then some [n_mdia] else
  if nm = n_udat then some [n_movi, n_trak] else
  if nm = n_tfrg then some [n_frag] else
  if nm = n_meta then some [[], n_movi, n_trak] else
  if nm = n_item then some [n_meta] else
  none
def isG (nm : List Int) : Bool := (par nm).isSome
def may (nm p : List Int) : Bool := match par nm with
  | none => true
  | some l => l.any fun x => decide (x = p)
/-- The outermost level is called otherwise. -/
def outer (p : List Int) : List Int := if p = [] then [45] else p
theorem str_cases (a : ByteArray) : a = (⟨#[109, 111, 118, 105]⟩ : ByteArray) ∨ a = (⟨#[102, 114, 97, 103]⟩ : ByteArray) ∨ a = (⟨#[116, 114, 97, 107]⟩ : ByteArray) ∨ a = (⟨#[109, 100, 105, 97]⟩ : ByteArray) ∨ a = (⟨#[101, 100, 116, 115]⟩ : ByteArray) ∨ a = (⟨#[115, 116, 98, 108]⟩ : ByteArray) ∨ a = (⟨#[112, 114, 111, 116]⟩ : ByteArray) ∨ a = (⟨#[117, 100, 97, 116]⟩ : ByteArray) ∨ a = (⟨#[116, 102, 114, 103]⟩ : ByteArray) ∨ a = (⟨#[109, 101, 116, 97]⟩ : ByteArray) ∨ a = (⟨#[105, 116, 101, 109]⟩ : ByteArray) ∨ ((a.toList == (⟨#[109, 111, 118, 105]⟩ : ByteArray).toList) = false ∧ (a.toList == (⟨#[102, 114, 97, 103]⟩ : ByteArray).toList) = false ∧ (a.toList == (⟨#[116, 114, 97, 107]⟩ : ByteArray).toList) = false ∧ (a.toList == (⟨#[109, 100, 105, 97]⟩ : ByteArray).toList) = false ∧ (a.toList == (⟨#[101, 100, 116, 115]⟩ : ByteArray).toList) = false ∧ (a.toList == (⟨#[115, 116, 98, 108]⟩ : ByteArray).toList) = false ∧ (a.toList == (⟨#[112, 114, 111, 116]⟩ : ByteArray).toList) = false ∧ (a.toList == (⟨#[117, 100, 97, 116]⟩ : ByteArray).toList) = false ∧ (a.toList == (⟨#[116, 102, 114, 103]⟩ : ByteArray).toList) = false ∧ (a.toList == (⟨#[109, 101, 116, 97]⟩ : ByteArray).toList) = false ∧ (a.toList == (⟨#[105, 116, 101, 109]⟩ : ByteArray).toList) = false) := by
  by_cases h_movi : bytesOf a = n_movi
  · have := str_inj (a := a) (b := (⟨#[109, 111, 118, 105]⟩ : ByteArray)) h_movi; subst this; simp
  by_cases h_frag : bytesOf a = n_frag
  · have := str_inj (a := a) (b := (⟨#[102, 114, 97, 103]⟩ : ByteArray)) h_frag; subst this; simp
  by_cases h_trak : bytesOf a = n_trak
  · have := str_inj (a := a) (b := (⟨#[116, 114, 97, 107]⟩ : ByteArray)) h_trak; subst this; simp
  by_cases h_mdia : bytesOf a = n_mdia
  · have := str_inj (a := a) (b := (⟨#[109, 100, 105, 97]⟩ : ByteArray)) h_mdia; subst this; simp
  by_cases h_edts : bytesOf a = n_edts
  · have := str_inj (a := a) (b := (⟨#[101, 100, 116, 115]⟩ : ByteArray)) h_edts; subst this; simp
  by_cases h_stbl : bytesOf a = n_stbl
  · have := str_inj (a := a) (b := (⟨#[115, 116, 98, 108]⟩ : ByteArray)) h_stbl; subst this; simp
  by_cases h_prot : bytesOf a = n_prot
  · have := str_inj (a := a) (b := (⟨#[112, 114, 111, 116]⟩ : ByteArray)) h_prot; subst this; simp
  by_cases h_udat : bytesOf a = n_udat
  · have := str_inj (a := a) (b := (⟨#[117, 100, 97, 116]⟩ : ByteArray)) h_udat; subst this; simp
  by_cases h_tfrg : bytesOf a = n_tfrg
  · have := str_inj (a := a) (b := (⟨#[116, 102, 114, 103]⟩ : ByteArray)) h_tfrg; subst this; simp
  by_cases h_meta : bytesOf a = n_meta
  · have := str_inj (a := a) (b := (⟨#[109, 101, 116, 97]⟩ : ByteArray)) h_meta; subst this; simp
  by_cases h_item : bytesOf a = n_item
  · have := str_inj (a := a) (b := (⟨#[105, 116, 101, 109]⟩ : ByteArray)) h_item; subst this; simp
  iterate 11 right
  exact ⟨by rw [str_beq]; exact decide_eq_false h_movi, by rw [str_beq]; exact decide_eq_false h_frag, by rw [str_beq]; exact decide_eq_false h_trak, by rw [str_beq]; exact decide_eq_false h_mdia, by rw [str_beq]; exact decide_eq_false h_edts, by rw [str_beq]; exact decide_eq_false h_stbl, by rw [str_beq]; exact decide_eq_false h_prot, by rw [str_beq]; exact decide_eq_false h_udat, by rw [str_beq]; exact decide_eq_false h_tfrg, by rw [str_beq]; exact decide_eq_false h_meta, by rw [str_beq]; exact decide_eq_false h_item⟩
theorem par_none {a : ByteArray} (h : (a.toList == (⟨#[109, 111, 118, 105]⟩ : ByteArray).toList) = false ∧ (a.toList == (⟨#[102, 114, 97, 103]⟩ : ByteArray).toList) = false ∧ (a.toList == (⟨#[116, 114, 97, 107]⟩ : ByteArray).toList) = false ∧ (a.toList == (⟨#[109, 100, 105, 97]⟩ : ByteArray).toList) = false ∧ (a.toList == (⟨#[101, 100, 116, 115]⟩ : ByteArray).toList) = false ∧ (a.toList == (⟨#[115, 116, 98, 108]⟩ : ByteArray).toList) = false ∧ (a.toList == (⟨#[112, 114, 111, 116]⟩ : ByteArray).toList) = false ∧ (a.toList == (⟨#[117, 100, 97, 116]⟩ : ByteArray).toList) = false ∧ (a.toList == (⟨#[116, 102, 114, 103]⟩ : ByteArray).toList) = false ∧ (a.toList == (⟨#[109, 101, 116, 97]⟩ : ByteArray).toList) = false ∧ (a.toList == (⟨#[105, 116, 101, 109]⟩ : ByteArray).toList) = false) : par (bytesOf a) = none := by
  obtain ⟨h_movi, h_frag, h_trak, h_mdia, h_edts, h_stbl, h_prot, h_udat, h_tfrg, h_meta, h_item⟩ := h
  rw [str_beq] at h_movi; replace h_movi : ¬ bytesOf a = n_movi := of_decide_eq_false h_movi
  rw [str_beq] at h_frag; replace h_frag : ¬ bytesOf a = n_frag := of_decide_eq_false h_frag
  rw [str_beq] at h_trak; replace h_trak : ¬ bytesOf a = n_trak := of_decide_eq_false h_trak
  rw [str_beq] at h_mdia; replace h_mdia : ¬ bytesOf a = n_mdia := of_decide_eq_false h_mdia
  rw [str_beq] at h_edts; replace h_edts : ¬ bytesOf a = n_edts := of_decide_eq_false h_edts
  rw [str_beq] at h_stbl; replace h_stbl : ¬ bytesOf a = n_stbl := of_decide_eq_false h_stbl
  rw [str_beq] at h_prot; replace h_prot : ¬ bytesOf a = n_prot := of_decide_eq_false h_prot
  rw [str_beq] at h_udat; replace h_udat : ¬ bytesOf a = n_udat := of_decide_eq_false h_udat
  rw [str_beq] at h_tfrg; replace h_tfrg : ¬ bytesOf a = n_tfrg := of_decide_eq_false h_tfrg
  rw [str_beq] at h_meta; replace h_meta : ¬ bytesOf a = n_meta := of_decide_eq_false h_meta
  rw [str_beq] at h_item; replace h_item : ¬ bytesOf a = n_item := of_decide_eq_false h_item
  unfold par
  rw [if_neg h_movi, if_neg h_frag, if_neg h_trak, if_neg h_mdia, if_neg h_edts, if_neg h_stbl, if_neg h_prot, if_neg h_udat, if_neg h_tfrg, if_neg h_meta, if_neg h_item]
theorem f59_v {R : Type} (k : Nat) (a : ByteArray) : ∃ s, ∀ (K : ByteArray → Bool → Option R), f59 k a K = K s (isG (bytesOf a)) := by
  rcases str_cases a with rfl | rfl | rfl | rfl | rfl | rfl | rfl | rfl | rfl | rfl | rfl | h
  · exact ⟨(⟨#[45]⟩ : ByteArray), fun K => by kernel_rfl⟩
  · exact ⟨(⟨#[45]⟩ : ByteArray), fun K => by kernel_rfl⟩
  · exact ⟨(⟨#[109, 111, 118, 105]⟩ : ByteArray), fun K => by kernel_rfl⟩
  · exact ⟨(⟨#[116, 114, 97, 107]⟩ : ByteArray), fun K => by kernel_rfl⟩
  · exact ⟨(⟨#[116, 114, 97, 107]⟩ : ByteArray), fun K => by kernel_rfl⟩
  · exact ⟨(⟨#[109, 100, 105, 97]⟩ : ByteArray), fun K => by kernel_rfl⟩
  · exact ⟨(⟨#[109, 100, 105, 97]⟩ : ByteArray), fun K => by kernel_rfl⟩
  · exact ⟨(⟨#[109, 111, 118, 105, 32, 116, 114, 97, 107]⟩ : ByteArray), fun K => by kernel_rfl⟩
  · exact ⟨(⟨#[102, 114, 97, 103]⟩ : ByteArray), fun K => by kernel_rfl⟩
  · exact ⟨(⟨#[45, 32, 109, 111, 118, 105, 32, 116, 114, 97, 107]⟩ : ByteArray), fun K => by kernel_rfl⟩
  · exact ⟨(⟨#[109, 101, 116, 97]⟩ : ByteArray), fun K => by kernel_rfl⟩
  · have hp := par_none h
    obtain ⟨h_movi, h_frag, h_trak, h_mdia, h_edts, h_stbl, h_prot, h_udat, h_tfrg, h_meta, h_item⟩ := h
    refine ⟨(⟨#[]⟩ : ByteArray), fun K => ?_⟩
    simp only [f59, h_movi, h_frag, h_trak, h_mdia, h_edts, h_stbl, h_prot, h_udat, h_tfrg, h_meta, h_item, cond_false, isG, hp]; rfl
def mayP (nm p : List Int) : Bool := match par nm with
  | none => true
  | some l => l.any fun x => decide (outer x = p)
theorem f70_movi {R : Type} (k : Nat) (p : ByteArray) (K : Bool → Option R) : f70 (k + 40) (⟨#[109, 111, 118, 105]⟩ : ByteArray) p K = (bif (p.toList == (⟨#[45]⟩ : ByteArray).toList) then K true else (K false)) := by kernel_rfl
theorem f70_frag {R : Type} (k : Nat) (p : ByteArray) (K : Bool → Option R) : f70 (k + 40) (⟨#[102, 114, 97, 103]⟩ : ByteArray) p K = (bif (p.toList == (⟨#[45]⟩ : ByteArray).toList) then K true else (K false)) := by kernel_rfl
theorem f70_trak {R : Type} (k : Nat) (p : ByteArray) (K : Bool → Option R) : f70 (k + 40) (⟨#[116, 114, 97, 107]⟩ : ByteArray) p K = (bif (p.toList == (⟨#[109, 111, 118, 105]⟩ : ByteArray).toList) then K true else (K false)) := by kernel_rfl
theorem f70_mdia {R : Type} (k : Nat) (p : ByteArray) (K : Bool → Option R) : f70 (k + 40) (⟨#[109, 100, 105, 97]⟩ : ByteArray) p K = (bif (p.toList == (⟨#[116, 114, 97, 107]⟩ : ByteArray).toList) then K true else (K false)) := by kernel_rfl
theorem f70_edts {R : Type} (k : Nat) (p : ByteArray) (K : Bool → Option R) : f70 (k + 40) (⟨#[101, 100, 116, 115]⟩ : ByteArray) p K = (bif (p.toList == (⟨#[116, 114, 97, 107]⟩ : ByteArray).toList) then K true else (K false)) := by kernel_rfl
theorem f70_stbl {R : Type} (k : Nat) (p : ByteArray) (K : Bool → Option R) : f70 (k + 40) (⟨#[115, 116, 98, 108]⟩ : ByteArray) p K = (bif (p.toList == (⟨#[109, 100, 105, 97]⟩ : ByteArray).toList) then K true else (K false)) := by kernel_rfl
theorem f70_prot {R : Type} (k : Nat) (p : ByteArray) (K : Bool → Option R) : f70 (k + 40) (⟨#[112, 114, 111, 116]⟩ : ByteArray) p K = (bif (p.toList == (⟨#[109, 100, 105, 97]⟩ : ByteArray).toList) then K true else (K false)) := by kernel_rfl
theorem f70_udat {R : Type} (k : Nat) (p : ByteArray) (K : Bool → Option R) : f70 (k + 40) (⟨#[117, 100, 97, 116]⟩ : ByteArray) p K = (bif (p.toList == (⟨#[109, 111, 118, 105]⟩ : ByteArray).toList) then K true else (bif (p.toList == (⟨#[116, 114, 97, 107]⟩ : ByteArray).toList) then K true else (K false))) := by kernel_rfl
theorem f70_tfrg {R : Type} (k : Nat) (p : ByteArray) (K : Bool → Option R) : f70 (k + 40) (⟨#[116, 102, 114, 103]⟩ : ByteArray) p K = (bif (p.toList == (⟨#[102, 114, 97, 103]⟩ : ByteArray).toList) then K true else (K false)) := by kernel_rfl
theorem f70_meta {R : Type} (k : Nat) (p : ByteArray) (K : Bool → Option R) : f70 (k + 40) (⟨#[109, 101, 116, 97]⟩ : ByteArray) p K = (bif (p.toList == (⟨#[45]⟩ : ByteArray).toList) then K true else (bif (p.toList == (⟨#[109, 111, 118, 105]⟩ : ByteArray).toList) then K true else (bif (p.toList == (⟨#[116, 114, 97, 107]⟩ : ByteArray).toList) then K true else (K false)))) := by kernel_rfl
theorem f70_item {R : Type} (k : Nat) (p : ByteArray) (K : Bool → Option R) : f70 (k + 40) (⟨#[105, 116, 101, 109]⟩ : ByteArray) p K = (bif (p.toList == (⟨#[109, 101, 116, 97]⟩ : ByteArray).toList) then K true else (K false)) := by kernel_rfl
theorem f70_v (R : Type) (a p : ByteArray) : Ev fun k => ∀ (K : Bool → Option R), f70 k a p K = K (mayP (bytesOf a) (bytesOf p)) := by
  refine .plus 40 (.all fun k K => ?_)
  rcases str_cases a with rfl | rfl | rfl | rfl | rfl | rfl | rfl | rfl | rfl | rfl | rfl | h
  · rw [f70_movi]
    rw [str_beq p (⟨#[45]⟩ : ByteArray)]
    show _ = K (decide ([45] = bytesOf p) || false)
    rw [show decide (bytesOf p = bytesOf (⟨#[45]⟩ : ByteArray)) = decide ([45] = bytesOf p) from by rw [show bytesOf (⟨#[45]⟩ : ByteArray) = [45] from rfl]; exact decide_eq_decide.2 eq_comm]
    cases decide ([45] = bytesOf p) <;> rfl
  · rw [f70_frag]
    rw [str_beq p (⟨#[45]⟩ : ByteArray)]
    show _ = K (decide ([45] = bytesOf p) || false)
    rw [show decide (bytesOf p = bytesOf (⟨#[45]⟩ : ByteArray)) = decide ([45] = bytesOf p) from by rw [show bytesOf (⟨#[45]⟩ : ByteArray) = [45] from rfl]; exact decide_eq_decide.2 eq_comm]
    cases decide ([45] = bytesOf p) <;> rfl
  · rw [f70_trak]
    rw [str_beq p (⟨#[109, 111, 118, 105]⟩ : ByteArray)]
    show _ = K (decide ([109, 111, 118, 105] = bytesOf p) || false)
    rw [show decide (bytesOf p = bytesOf (⟨#[109, 111, 118, 105]⟩ : ByteArray)) = decide ([109, 111, 118, 105] = bytesOf p) from by rw [show bytesOf (⟨#[109, 111, 118, 105]⟩ : ByteArray) = [109, 111, 118, 105] from rfl]; exact decide_eq_decide.2 eq_comm]
    cases decide ([109, 111, 118, 105] = bytesOf p) <;> rfl
  · rw [f70_mdia]
    rw [str_beq p (⟨#[116, 114, 97, 107]⟩ : ByteArray)]
    show _ = K (decide ([116, 114, 97, 107] = bytesOf p) || false)
    rw [show decide (bytesOf p = bytesOf (⟨#[116, 114, 97, 107]⟩ : ByteArray)) = decide ([116, 114, 97, 107] = bytesOf p) from by rw [show bytesOf (⟨#[116, 114, 97, 107]⟩ : ByteArray) = [116, 114, 97, 107] from rfl]; exact decide_eq_decide.2 eq_comm]
    cases decide ([116, 114, 97, 107] = bytesOf p) <;> rfl
  · rw [f70_edts]
    rw [str_beq p (⟨#[116, 114, 97, 107]⟩ : ByteArray)]
    show _ = K (decide ([116, 114, 97, 107] = bytesOf p) || false)
    rw [show decide (bytesOf p = bytesOf (⟨#[116, 114, 97, 107]⟩ : ByteArray)) = decide ([116, 114, 97, 107] = bytesOf p) from by rw [show bytesOf (⟨#[116, 114, 97, 107]⟩ : ByteArray) = [116, 114, 97, 107] from rfl]; exact decide_eq_decide.2 eq_comm]
    cases decide ([116, 114, 97, 107] = bytesOf p) <;> rfl
  · rw [f70_stbl]
    rw [str_beq p (⟨#[109, 100, 105, 97]⟩ : ByteArray)]
    show _ = K (decide ([109, 100, 105, 97] = bytesOf p) || false)
    rw [show decide (bytesOf p = bytesOf (⟨#[109, 100, 105, 97]⟩ : ByteArray)) = decide ([109, 100, 105, 97] = bytesOf p) from by rw [show bytesOf (⟨#[109, 100, 105, 97]⟩ : ByteArray) = [109, 100, 105, 97] from rfl]; exact decide_eq_decide.2 eq_comm]
    cases decide ([109, 100, 105, 97] = bytesOf p) <;> rfl
  · rw [f70_prot]
    rw [str_beq p (⟨#[109, 100, 105, 97]⟩ : ByteArray)]
    show _ = K (decide ([109, 100, 105, 97] = bytesOf p) || false)
    rw [show decide (bytesOf p = bytesOf (⟨#[109, 100, 105, 97]⟩ : ByteArray)) = decide ([109, 100, 105, 97] = bytesOf p) from by rw [show bytesOf (⟨#[109, 100, 105, 97]⟩ : ByteArray) = [109, 100, 105, 97] from rfl]; exact decide_eq_decide.2 eq_comm]
    cases decide ([109, 100, 105, 97] = bytesOf p) <;> rfl
  · rw [f70_udat]
    rw [str_beq p (⟨#[109, 111, 118, 105]⟩ : ByteArray)]
    rw [str_beq p (⟨#[116, 114, 97, 107]⟩ : ByteArray)]
    show _ = K ((decide ([109, 111, 118, 105] = bytesOf p) || (decide ([116, 114, 97, 107] = bytesOf p) || (false))))
    rw [show decide (bytesOf p = bytesOf (⟨#[109, 111, 118, 105]⟩ : ByteArray)) = decide ([109, 111, 118, 105] = bytesOf p) from by rw [show bytesOf (⟨#[109, 111, 118, 105]⟩ : ByteArray) = [109, 111, 118, 105] from rfl]; exact decide_eq_decide.2 eq_comm]
    rw [show decide (bytesOf p = bytesOf (⟨#[116, 114, 97, 107]⟩ : ByteArray)) = decide ([116, 114, 97, 107] = bytesOf p) from by rw [show bytesOf (⟨#[116, 114, 97, 107]⟩ : ByteArray) = [116, 114, 97, 107] from rfl]; exact decide_eq_decide.2 eq_comm]
    cases decide ([109, 111, 118, 105] = bytesOf p) <;> cases decide ([116, 114, 97, 107] = bytesOf p) <;> rfl
  · rw [f70_tfrg]
    rw [str_beq p (⟨#[102, 114, 97, 103]⟩ : ByteArray)]
    show _ = K (decide ([102, 114, 97, 103] = bytesOf p) || false)
    rw [show decide (bytesOf p = bytesOf (⟨#[102, 114, 97, 103]⟩ : ByteArray)) = decide ([102, 114, 97, 103] = bytesOf p) from by rw [show bytesOf (⟨#[102, 114, 97, 103]⟩ : ByteArray) = [102, 114, 97, 103] from rfl]; exact decide_eq_decide.2 eq_comm]
    cases decide ([102, 114, 97, 103] = bytesOf p) <;> rfl
  · rw [f70_meta]
    rw [str_beq p (⟨#[45]⟩ : ByteArray)]
    rw [str_beq p (⟨#[109, 111, 118, 105]⟩ : ByteArray)]
    rw [str_beq p (⟨#[116, 114, 97, 107]⟩ : ByteArray)]
    show _ = K ((decide ([45] = bytesOf p) || (decide ([109, 111, 118, 105] = bytesOf p) || (decide ([116, 114, 97, 107] = bytesOf p) || (false)))))
    rw [show decide (bytesOf p = bytesOf (⟨#[45]⟩ : ByteArray)) = decide ([45] = bytesOf p) from by rw [show bytesOf (⟨#[45]⟩ : ByteArray) = [45] from rfl]; exact decide_eq_decide.2 eq_comm]
    rw [show decide (bytesOf p = bytesOf (⟨#[109, 111, 118, 105]⟩ : ByteArray)) = decide ([109, 111, 118, 105] = bytesOf p) from by rw [show bytesOf (⟨#[109, 111, 118, 105]⟩ : ByteArray) = [109, 111, 118, 105] from rfl]; exact decide_eq_decide.2 eq_comm]
    rw [show decide (bytesOf p = bytesOf (⟨#[116, 114, 97, 107]⟩ : ByteArray)) = decide ([116, 114, 97, 107] = bytesOf p) from by rw [show bytesOf (⟨#[116, 114, 97, 107]⟩ : ByteArray) = [116, 114, 97, 107] from rfl]; exact decide_eq_decide.2 eq_comm]
    cases decide ([45] = bytesOf p) <;> cases decide ([109, 111, 118, 105] = bytesOf p) <;> cases decide ([116, 114, 97, 107] = bytesOf p) <;> rfl
  · rw [f70_item]
    rw [str_beq p (⟨#[109, 101, 116, 97]⟩ : ByteArray)]
    show _ = K (decide ([109, 101, 116, 97] = bytesOf p) || false)
    rw [show decide (bytesOf p = bytesOf (⟨#[109, 101, 116, 97]⟩ : ByteArray)) = decide ([109, 101, 116, 97] = bytesOf p) from by rw [show bytesOf (⟨#[109, 101, 116, 97]⟩ : ByteArray) = [109, 101, 116, 97] from rfl]; exact decide_eq_decide.2 eq_comm]
    cases decide ([109, 101, 116, 97] = bytesOf p) <;> rfl
  · have hp := par_none h
    obtain ⟨s, hs⟩ := f59_v (R := R) (k + 40) a
    rw [f70, hs]
    simp only [isG, mayP, hp]; rfl
def letter (c : Int) : Bool := (decide (97 ≤ c) && decide (c ≤ 122)) || (decide (48 ≤ c) && decide (c ≤ 57))
def isTy (l : List Int) : Bool := decide (l.length = 4) && l.all letter
theorem f53_v {R : Type} (k : Nat) (c : Int) (K : Bool → Option R) : f53 k c K = K (letter c) := by
  rw [f53, letter]
  by_cases h1 : 97 ≤ c
  · rw [deT (show c ≥ 97 from h1)]
    by_cases h2 : c ≤ 122
    · rw [deT h2]; rfl
    · rw [deF h2, deF (show ¬ c ≤ 57 by omega), deT (show c ≥ 48 by omega)]; rfl
  · rw [deF (show ¬ c ≥ 97 from h1)]
    by_cases h3 : 48 ≤ c
    · rw [deT (show c ≥ 48 from h3)]; simp
    · rw [deF (show ¬ c ≥ 48 from h3)]; simp
theorem four {l : List Int} (h : l.length = 4) : ∃ a b c d, l = [a, b, c, d] := by
  match l, h with
  | [a, b, c, d], _ => exact ⟨a, b, c, d, rfl⟩
theorem isTy_four (a b c d : Int) : isTy [a, b, c, d] = (letter a && (letter b && (letter c && letter d))) := by
  simp [isTy]
theorem f26_v (R : Type) (a : ByteArray) : Ev fun k => ∀ (K : Int → Int → Option R), f26 k a K = if isTy (bytesOf a) = true then K (valF (bytesOf a) 0) 0 else K 0 80 := by
  by_cases h4 : (bytesOf a).length = 4
  · obtain ⟨x, y, z, u, hl⟩ := four h4
    have hb := okBy_bytesOf a
    have hs : a.size = 4 := by rw [← bytesOf_len]; exact h4
    have h54 := f54_v R (bytesOf a) hb (by rw [h4]; omega) (n := 4) (by decide) (by decide) (by omega)
    have hn : num (bytesOf a) 4 = valF (bytesOf a) 0 := by rw [num_small hb (by omega) (by decide), List.take_of_length_le (by omega)]
    refine h54.imp fun k h54 K => ?_
    have e4 : ((4 : Nat) : Int) = 4 := rfl
    rw [hn, e4] at h54
    have g0 := str_get a 0
    have g1 := str_get a 1
    have g2 := str_get a 2
    have g3 := str_get a 3
    rw [hl] at g0 g1 g2 g3
    simp only [List.getD_cons_zero, List.getD_cons_succ] at g0 g1 g2 g3
    rw [f26, hs]
    have i0 : inb 0 4 = true := rfl
    have i1 : inb 1 4 = true := rfl
    have i2 : inb 2 4 = true := rfl
    have i3 : inb 3 4 = true := rfl
    rw [bnF (show ((4 : Nat) : Int) = 4 from rfl)]
    simp only [cond_false, i0, i1, i2, i3, cond_true, f53_v, g0, g1, g2, g3, h54]
    rw [hl, isTy_four]
    cases letter x with
    | false => rfl
    | true => cases letter y with
      | false => rfl
      | true => cases letter z with
        | false => rfl
        | true => cases letter u <;> rfl
  · refine .all fun k K => ?_
    have hs : ¬ (a.size : Int) = 4 := by rw [← bytesOf_len]; omega
    have ht : isTy (bytesOf a) = false := by simp [isTy, h4]
    rw [f26, bnT hs, ht]; rfl
theorem ty4 {l : List Int} (h : isTy l = true) : l.length = 4 := by
  simp only [isTy, Bool.and_eq_true, decide_eq_true_eq] at h; exact h.1
/-- The letters of a number. -/
def okId (id : Int) : Bool := decide (0 ≤ id) && decide (id < 4294967296) && isTy (beB 4 id)
theorem f28_v (R : Type) (id : Int) : Ev fun k => ∀ (K : ByteArray → Int → Option R), f28 k id K = if okId id = true then K (strOf (beB 4 id)) 0 else K (⟨#[]⟩ : ByteArray) 80 := by
  refine (f57_v R (n := 4) (by decide) (by decide)).imp2 (f26_v R (strOf (beB 4 id))) fun k h57 h26 K => ?_
  have e4 : ((4 : Nat) : Int) = 4 := rfl
  have p4 : (256 : Int) ^ 4 = 4294967296 := by decide
  rw [e4, p4] at h57
  rw [bytesOf_strOf (beB_ok 4 id)] at h26
  rw [f28, okId]
  by_cases c1 : id < 0
  · rw [deT c1, deF (show ¬ 0 ≤ id by omega)]; rfl
  · rw [deF c1, cond_false, deT (show 0 ≤ id by omega)]
    by_cases c2 : id > 4294967295
    · rw [deT c2, deF (show ¬ id < 4294967296 by omega)]; rfl
    · rw [deF c2, cond_false, deT (show id < 4294967296 by omega), h57 id _ (by omega) (by omega) (by omega), h26]
      cases isTy (beB 4 id) <;> rfl
/-- Whether a number is that of a group. -/
def grp (id : Int) : Bool := okId id && isG (beB 4 id)
theorem f30_v (R : Type) (id : Int) : Ev fun k => ∀ (K : Bool → Option R), f30 k id K = K (grp id) := by
  refine (f28_v R id).imp fun k h28 K => ?_
  rw [f30, h28, grp]
  by_cases c : okId id = true
  · obtain ⟨s, hs⟩ := f59_v (R := R) k (strOf (beB 4 id))
    rw [if_pos c, hs, bytesOf_strOf (beB_ok 4 id), c]; rfl
  · obtain ⟨s, hs⟩ := f59_v (R := R) k (⟨#[]⟩ : ByteArray)
    rw [if_neg c, hs, Bool.eq_false_iff.2 c]; rfl
theorem f61_v {R : Type} (k : Nat) (a : List Int) (h : a.length ≤ 140737488355328) (K : List Int → Option R) : f61_2 k a K = K a := by
  rw [f61_2, roT (by simp; omega)]; rfl
/-- The number of so many bytes at a place. -/
def numB (b : List Int) (at_ n : Nat) : Int := valF ((b.drop at_).take n) 0
theorem numB_bound {b : List Int} (hb : okBy b) {at_ n : Nat} (h : at_ + n ≤ b.length) : 0 ≤ numB b at_ n ∧ numB b at_ n < 256 ^ n := by
  have := valF_bound ((hb.drop at_).take n) 0
  have e : ((b.drop at_).take n).length = n := by simp; omega
  rw [e] at this
  unfold numB
  omega
inductive HR | bad (c : Int) | ok (h sz : Nat) (nm : List Int)
/-- The head of a box: its bytes, the size of all, the type; or an error. -/
def headR (b : List Int) (at_ en dp : Nat) : HR :=
  if en - at_ < 8 then .bad 3
  else if numB b at_ 4 = 1 then
    if en - at_ < 16 then .bad 3
    else if ((b.length - at_ : Nat) : Int) < numB b (at_ + 8) 8 then .bad 3
    else if numB b (at_ + 8) 8 < 16 ∨ ((en - at_ : Nat) : Int) < numB b (at_ + 8) 8 then .bad 41
    else .ok 16 (numB b (at_ + 8) 8).toNat ((b.drop (at_ + 4)).take 4)
  else if numB b at_ 4 = 0 then
    if 1 < dp then .bad 41 else .ok 8 (en - at_) ((b.drop (at_ + 4)).take 4)
  else if ((b.length - at_ : Nat) : Int) < numB b at_ 4 then .bad 3
  else if numB b at_ 4 < 8 ∨ ((en - at_ : Nat) : Int) < numB b at_ 4 then .bad 41
  else .ok 8 (numB b at_ 4).toNat ((b.drop (at_ + 4)).take 4)
theorem head_ok {b : List Int} {at_ en dp h sz : Nat} {nm : List Int} (he : headR b at_ en dp = .ok h sz nm) : (h = 8 ∨ h = 16) ∧ h ≤ sz ∧ at_ + sz ≤ en ∧ nm = (b.drop (at_ + 4)).take 4 ∧ 8 ≤ en - at_ := by
  unfold headR at he
  split at he; · simp at he
  split at he
  · split at he; · simp at he
    split at he; · simp at he
    split at he; · simp at he
    simp only [HR.ok.injEq] at he
    obtain ⟨rfl, rfl, rfl⟩ := he
    exact ⟨.inr rfl, by omega, by omega, rfl, by omega⟩
  · split at he
    · split at he; · simp at he
      simp only [HR.ok.injEq] at he
      obtain ⟨rfl, rfl, rfl⟩ := he
      exact ⟨.inl rfl, by omega, by omega, rfl, by omega⟩
    · split at he; · simp at he
      split at he; · simp at he
      simp only [HR.ok.injEq] at he
      obtain ⟨rfl, rfl, rfl⟩ := he
      exact ⟨.inl rfl, by omega, by omega, rfl, by omega⟩
theorem head_bad {b : List Int} {at_ en dp : Nat} {c : Int} (he : headR b at_ en dp = .bad c) : c = 3 ∨ c = 41 := by
  unfold headR at he
  split at he; · simp only [HR.bad.injEq] at he; omega
  split at he
  · split at he; · simp only [HR.bad.injEq] at he; omega
    split at he; · simp only [HR.bad.injEq] at he; omega
    split at he; · simp only [HR.bad.injEq] at he; omega
    simp at he
  · split at he
    · split at he; · simp only [HR.bad.injEq] at he; omega
      simp at he
    · split at he; · simp only [HR.bad.injEq] at he; omega
      split at he; · simp only [HR.bad.injEq] at he; omega
      simp at he
theorem nm_eq (b : List Int) (at_ : Nat) : (b.take (at_ + 8)).drop (at_ + 4) = (b.drop (at_ + 4)).take 4 := by rw [List.drop_take]; congr 1; omega
theorem f89_2_v (R : Type) (b : List Int) (hb : okBy b) (hl : b.length ≤ 1048576) (at_ en dp : Nat) (hat : at_ < en) (hen : en ≤ b.length) (hdp : dp ≤ 9) : Ev fun k => ∀ (name : ByteArray) (fr nd : Int) (pl : List D0) (K0 : Int → Int → ByteArray → Int → Int → List Int → Int → List D0 → Option R) (K1 : Int → Int → ByteArray → List Int → Int → List D0 → Option R),
    f89_2 k (at_ : Int) name fr (en : Int) (dp : Int) b nd pl K0 K1 = match headR b at_ en dp with
    | .bad c => K0 0 0 (⟨#[]⟩ : ByteArray) c (at_ : Int) b nd pl
    | .ok h sz nm => K1 (h : Int) (sz : Int) (strOf nm) b nd pl := by
  have w0 : IntKind.i64.wrap ((en : Int) - (at_ : Int)) = ((en - at_ : Nat) : Int) := wrapSub (by omega) (by omega)
  by_cases c1 : en - at_ < 8
  · refine .all fun k name fr nd pl K0 K1 => ?_
    rw [headR, if_pos c1, f89_2, w0, deT (by omega)]; rfl
  · have h4 := f54_v R (b.drop at_) (hb.drop at_) (by simp; omega) (n := 4) (by decide) (by decide) (by simp; omega)
    have n4 : num (b.drop at_) 4 = numB b at_ 4 := num_small (hb.drop at_) (by simp; omega) (by decide)
    rw [n4] at h4
    have e4 : ((4 : Nat) : Int) = 4 := rfl
    have e8 : ((8 : Nat) : Int) = 8 := rfl
    rw [e4] at h4
    have bd := numB_bound hb (at_ := at_) (n := 4) (by omega)
    have p4 : (256 : Int) ^ 4 = 4294967296 := by decide
    rw [p4] at bd
    have w4 : IntKind.i64.wrap ((at_ : Int) + 4) = ((at_ + 4 : Nat) : Int) := by rw [wr (by omega)]; omega
    have w8 : IntKind.i64.wrap ((at_ : Int) + 8) = ((at_ + 8 : Nat) : Int) := by rw [wr (by omega)]; omega
    have wl : IntKind.i64.wrap ((b.length : Int) - (at_ : Int)) = ((b.length - at_ : Nat) : Int) := wrapSub (by omega) (by omega)
    have u0 : upto (at_ : Int) b.length = true := upT (by omega)
    have u8 : upto ((at_ + 8 : Nat) : Int) b.length = true := upT (by omega)
    have d4 : ((decide (0 ≤ ((at_ + 4 : Nat) : Int))) && (decide (((at_ + 4 : Nat) : Int) ≤ ((at_ + 8 : Nat) : Int)))) = true := by
      rw [deT (by omega), deT (by omega)]; rfl
    by_cases c2 : numB b at_ 4 = 1
    · by_cases c3 : en - at_ < 16
      · refine h4.imp fun k h4 name fr nd pl K0 K1 => ?_
        rw [headR, if_neg c1, if_pos c2, if_pos c3, f89_2, w0, deF (by omega), cond_false, u0, cond_true, Int.toNat_natCast, h4, beT c2, cond_true, deT (by omega)]; rfl
      · have h8 := f54_v R (b.drop (at_ + 8)) (hb.drop _) (by simp; omega) (n := 8) (by decide) (by decide) (by simp; omega)
        rw [e8] at h8
        have bd8 := (numB_bound hb (at_ := at_ + 8) (n := 8) (by omega)).1
        have n8 : num (b.drop (at_ + 8)) 8 = if 9223372036854775807 < numB b (at_ + 8) 8 then 9223372036854775807 else numB b (at_ + 8) 8 := rfl
        refine h4.imp2 h8 fun k h4 h8 name fr nd pl K0 K1 => ?_
        rw [headR, if_neg c1, if_pos c2, if_neg c3, f89_2, w0, deF (by omega), cond_false, u0, cond_true, Int.toNat_natCast, h4, beT c2, cond_true, deF (by omega), cond_false, w8, u8, cond_true, Int.toNat_natCast, h8, wl]
        by_cases c4 : ((b.length - at_ : Nat) : Int) < numB b (at_ + 8) 8
        · rw [if_pos c4, deT (by rw [n8]; split <;> omega)]; rfl
        · have n8' : num (b.drop (at_ + 8)) 8 = numB b (at_ + 8) 8 := by rw [n8, if_neg (by omega)]
          rw [if_neg c4, n8', deF (by omega), cond_false]
          by_cases c5 : numB b (at_ + 8) 8 < 16
          · rw [if_pos (.inl c5), deT c5]; rfl
          · rw [deF c5, cond_false]
            by_cases c6 : ((en - at_ : Nat) : Int) < numB b (at_ + 8) 8
            · rw [if_pos (.inr c6), deT c6]; rfl
            · rw [if_neg (by omega), deF c6, cond_false, w4, cond_true, d4, Int.toNat_natCast, nm_eq]
              have e : numB b (at_ + 8) 8 = ((numB b (at_ + 8) 8).toNat : Int) := by omega
              dsimp only
              rw [← e]; rfl
    · by_cases c3 : numB b at_ 4 = 0
      · refine h4.imp fun k h4 name fr nd pl K0 K1 => ?_
        rw [headR, if_neg c1, if_neg c2, if_pos c3, f89_2, w0, deF (by omega), cond_false, u0, cond_true, Int.toNat_natCast, h4, beF c2, cond_false, beT c3, cond_true]
        by_cases c4 : 1 < dp
        · rw [if_pos c4, deT (by omega)]; rfl
        · rw [if_neg c4, deF (by omega), cond_false, w8, u8, w4, d4, Int.toNat_natCast, Int.toNat_natCast, nm_eq]; rfl
      · refine h4.imp fun k h4 name fr nd pl K0 K1 => ?_
        rw [headR, if_neg c1, if_neg c2, if_neg c3, f89_2, w0, deF (by omega), cond_false, u0, cond_true, Int.toNat_natCast, h4, beF c2, cond_false, beF c3, cond_false, wl]
        by_cases c4 : ((b.length - at_ : Nat) : Int) < numB b at_ 4
        · rw [if_pos c4, deT c4]; rfl
        · rw [if_neg c4, deF c4, cond_false]
          by_cases c5 : numB b at_ 4 < 8
          · rw [if_pos (.inl c5), deT c5]; rfl
          · rw [deF c5, cond_false]
            by_cases c6 : ((en - at_ : Nat) : Int) < numB b at_ 4
            · rw [if_pos (.inr c6), deT c6]; rfl
            · rw [if_neg (by omega), deF c6, cond_false, w8, u8, w4, d4, Int.toNat_natCast, Int.toNat_natCast, nm_eq]
              have e : numB b at_ 4 = ((numB b at_ 4).toNat : Int) := by omega
              dsimp only
              rw [← e]; rfl
abbrev n_free : List Int := [102, 114, 101, 101]
/-- The first error of a box whose head has been read; 0: none. -/
def chkE (nm p : List Int) (dp : Nat) : Int := if isTy nm = false then 80 else if may nm p = false then 42 else if 8 < dp then 43 else 0
inductive Res | bad (c : Int) (at_ : Nat) | fine (kids : List D1) (nd : Nat) (pl : List D0)
def plc (nm : List Int) (at_ h sz dp : Nat) : D0 := (valF nm 0, (at_ : Int), (h : Int), ((sz - h : Nat) : Int), (dp : Int))
def lev (b : List Int) : Nat → Nat → Nat → List Int → Nat → Nat → List D0 → List D1 → Option Res
  | 0, _, _, _, _, _, _, _ => none
  | n + 1, en, dp, p, at_, nd, pl, acc =>
    if at_ < en then
      match headR b at_ en dp with
      | .bad c => some (.bad c at_)
      | .ok h sz nm =>
        if chkE nm p dp ≠ 0 then some (.bad (chkE nm p dp) at_)
        else if nm = n_free then lev b n en dp p (at_ + sz) nd (pl ++ [plc nm at_ h sz dp]) acc
        else if 4000 < nd + 1 then some (.bad 2 at_)
        else if isG nm = true then
          match lev b n (at_ + sz) (dp + 1) nm (at_ + h) (nd + 1) (pl ++ [plc nm at_ h sz dp]) [] with
          | some (.fine kids nd' pl') => lev b n en dp p (at_ + sz) nd' pl' (acc ++ [D1.mk (valF nm 0) [] kids true])
          | r => r
        else lev b n en dp p (at_ + sz) (nd + 1) (pl ++ [plc nm at_ h sz dp]) (acc ++ [D1.mk (valF nm 0) ((b.take (at_ + sz)).drop (at_ + h)) [] false])
    else some (.fine acc nd pl)
/-- What a reading leaves. -/
theorem lev_inv {b : List Int} : ∀ (n : Nat) {en dp : Nat} {p : List Int} {at_ nd : Nat} {pl : List D0} {acc : List D1} {r : Res}, at_ ≤ en → lev b n en dp p at_ nd pl acc = some r →
    match r with
    | .bad c a => c ≠ 0 ∧ a < en
    | .fine kids nd' pl' => nd ≤ nd' ∧ (nd ≤ 4000 → nd' ≤ 4000) ∧ pl'.length + at_ ≤ pl.length + en ∧ kids.length + at_ ≤ acc.length + en := by
  intro n
  induction n with
  | zero => intro en dp p at_ nd pl acc r _ e; simp [lev] at e
  | succ n ih =>
    intro en dp p at_ nd pl acc r hat e
    rw [lev] at e
    split at e
    · rename_i lt
      split at e
      · rename_i c hd
        obtain rfl := Option.some.inj e
        have := head_bad hd
        exact ⟨by omega, lt⟩
      · rename_i h sz nm hd
        obtain ⟨q1, q2, q3, q4, q5⟩ := head_ok hd
        split at e
        · rename_i hc
          obtain rfl := Option.some.inj e
          exact ⟨hc, lt⟩
        · split at e
          · have := ih (by omega) e
            cases r with
            | bad c a => exact this
            | fine kids nd' pl' => simp only [List.length_append, List.length_cons, List.length_nil] at this; omega
          · split at e
            · obtain rfl := Option.some.inj e
              exact ⟨by decide, lt⟩
            · split at e
              · split at e
                · rename_i kids nd' pl' he
                  have t1 := ih (by omega) he
                  have t2 := ih (by omega) e
                  simp only [List.length_append, List.length_cons, List.length_nil] at t1
                  cases r with
                  | bad c a => exact t2
                  | fine kids2 nd2 pl2 => simp only [List.length_append, List.length_cons, List.length_nil] at t2; omega
                · rename_i r' hr'
                  have t1 := ih (by omega) e
                  cases r with
                  | bad c a => exact ⟨t1.1, by omega⟩
                  | fine kids nd' pl' => exact absurd e (hr' kids nd' pl')
              · have := ih (by omega) e
                cases r with
                | bad c a => exact this
                | fine kids nd' pl' => simp only [List.length_append, List.length_cons, List.length_nil] at this; omega
    · obtain rfl := Option.some.inj e
      exact ⟨Nat.le_refl _, fun x => x, by omega, by omega⟩
/-- It ends. -/
theorem lev_some {b : List Int} : ∀ (n : Nat) (en dp : Nat) (p : List Int) (at_ nd : Nat) (pl : List D0) (acc : List D1), at_ ≤ en → en - at_ < n → ∃ r, lev b n en dp p at_ nd pl acc = some r := by
  intro n
  induction n with
  | zero => intro en dp p at_ nd pl acc _ e; omega
  | succ n ih =>
    intro en dp p at_ nd pl acc hat e
    rw [lev]
    by_cases lt : at_ < en
    · rw [if_pos lt]
      cases hd : headR b at_ en dp with
      | bad c => exact ⟨_, rfl⟩
      | ok h sz nm =>
        obtain ⟨q1, q2, q3, q4, q5⟩ := head_ok hd
        dsimp only
        split
        · exact ⟨_, rfl⟩
        · split
          · exact ih _ _ _ _ _ _ _ (by omega) (by omega)
          · split
            · exact ⟨_, rfl⟩
            · split
              · obtain ⟨r, hr⟩ := ih (at_ + sz) (dp + 1) nm (at_ + h) (nd + 1) (pl ++ [plc nm at_ h sz dp]) [] (by omega) (by omega)
                rw [hr]
                cases r with
                | bad c a => exact ⟨_, rfl⟩
                | fine kids nd' pl' => exact ih _ _ _ _ _ _ _ (by omega) (by omega)
              · exact ih _ _ _ _ _ _ _ (by omega) (by omega)
    · rw [if_neg lt]; exact ⟨_, rfl⟩
theorem outer_eq {p x : List Int} (hp : isTy p = true ∨ p = []) (hx : x = [] ∨ isTy x = true) : decide (outer x = outer p) = decide (x = p) := by
  have len : ∀ {q : List Int}, isTy q = true → q ≠ [] ∧ q ≠ [45] := fun h => by
    have := ty4 h
    constructor <;> (rintro rfl; simp at this)
  unfold outer
  rcases hp with hp | rfl
  · rw [if_neg (len hp).1]
    rcases hx with rfl | hx
    · rw [if_pos rfl, decide_eq_false (fun h => (len hp).2 h.symm), decide_eq_false (fun h => (len hp).1 h.symm)]
    · rw [if_neg (len hx).1]
  · rw [if_pos rfl]
    rcases hx with rfl | hx
    · rw [if_pos rfl]; simp
    · rw [if_neg (len hx).1, decide_eq_false (len hx).2, decide_eq_false (len hx).1]
theorem par_ty {nm : List Int} {l : List (List Int)} (h : par nm = some l) : ∀ x ∈ l, x = [] ∨ isTy x = true := by
  unfold par at h
  repeat (split at h; · simp at h; subst h; decide)
  simp at h
theorem any_eq {p : List Int} (hp : isTy p = true ∨ p = []) : ∀ {l : List (List Int)}, (∀ x ∈ l, x = [] ∨ isTy x = true) → (l.any fun x => decide (outer x = outer p)) = l.any fun x => decide (x = p)
  | [], _ => rfl
  | x :: l, h => by
    simp only [List.any_cons]
    rw [outer_eq hp (h x (by simp)), any_eq hp fun y hy => h y (by simp [hy])]
theorem mayP_eq {p : List Int} (hp : isTy p = true ∨ p = []) (nm : List Int) : mayP nm (outer p) = may nm p := by
  unfold mayP may
  cases h : par nm with
  | none => rfl
  | some l => exact any_eq hp (par_ty h)
theorem outer_ok {p : List Int} (hp : isTy p = true ∨ p = []) (hb : okBy p) : okBy (outer p) := by
  unfold outer
  split
  · intro x hx; simp at hx; omega
  · exact hb
theorem outer_ty {p : List Int} (hp : isTy p = true) : outer p = p := by
  unfold outer
  rw [if_neg (by rintro rfl; have := ty4 hp; simp at this)]
/-- What a reading comes to, in the program. -/
def EndP {R : Type} (b : List Int) (X0 : List D1 → List Int → Int → List D0 → Option R) (X1 : Int → Int → List Int → Int → List D0 → Option R) : Res → Option R → Prop
  | .bad c a, r => ∃ nd pl, r = X1 c (a : Int) b nd pl
  | .fine kids nd pl, r => r = X0 kids b (nd : Int) pl
/-- A choice of one of two measures. -/
def IsSel (sel : Nat → Nat → Nat) : Prop := ∀ a q, a ≤ q → ∀ j, a ≤ j → a ≤ sel q j
theorem sel_ev {sel : Nat → Nat → Nat} (hs : IsSel sel) {p : Nat → Prop} (h : Ev p) : EvB fun q j => p (sel q j) := by
  obtain ⟨a, ha⟩ := h
  exact ⟨a, fun q hq j hj => ha _ (hs a q hq j hj)⟩
theorem lev_prog (R : Type) {b : List Int} (hb : okBy b) (hl : b.length ≤ 1048576) : ∀ (n : Nat) {sel : Nat → Nat → Nat}, IsSel sel → ∀ {en dp : Nat} {p : List Int} {at_ nd : Nat} {pl : List D0} {acc : List D1} {r : Res}, at_ ≤ en → en ≤ b.length → dp ≤ 9 → (isTy p = true ∨ p = []) → okBy p → nd ≤ 4000 → pl.length ≤ 1048576 + at_ → acc.length ≤ 1048576 + at_ → lev b n en dp p at_ nd pl acc = some r →
    EvB fun q j => ∀ (fr : Int) (X0 : List D1 → List Int → Int → List D0 → Option R) (X1 : Int → Int → List Int → Int → List D0 → Option R), EndP b X0 X1 r (f76_2_l3 (fun i => f76_2 (sel q i)) j (at_ : Int) b (nd : Int) pl (strOf (outer p)) fr (en : Int) (dp : Int) acc X0 X1) := by
  intro n
  induction n with
  | zero => intro sel hsel en dp p at_ nd pl acc r _ _ _ _ _ _ _ _ e; simp [lev] at e
  | succ n ih =>
    intro sel hsel en dp p at_ nd pl acc r hat hen hdp hp hpb hnd hpl hacc e
    rw [lev] at e
    by_cases lt : at_ < en
    · rw [if_pos lt] at e
      have lt' : decide ((at_ : Int) < (en : Int)) = true := decide_eq_true (by omega)
      have h89 := f89_2_v R b hb hl at_ en dp lt hen hdp
      cases hd : headR b at_ en dp with
      | bad c =>
        rw [hd] at e h89
        obtain rfl := Option.some.inj e
        refine EvB.suc ((EvB.right h89).imp fun q j h89 fr X0 X1 => ?_)
        rw [f76_2_l3, lt', cond_true, h89]
        exact ⟨_, _, rfl⟩
      | ok h sz nm =>
        rw [hd] at e h89
        obtain ⟨q1, q2, q3, q4, q5⟩ := head_ok hd
        dsimp only at e h89
        have hnb : okBy nm := by rw [q4]; exact (hb.drop _).take _
        have hnl : nm.length = 4 := by rw [q4]; simp; omega
        have h26 := f26_v R (strOf nm)
        have h70 := f70_v R (strOf nm) (strOf (outer p))
        rw [bytesOf_strOf hnb] at h26 h70
        rw [bytesOf_strOf (outer_ok hp hpb), mayP_eq hp] at h70
        have w1 : IntKind.i64.wrap ((at_ : Int) + (sz : Int)) = ((at_ + sz : Nat) : Int) := wrapAdd (by omega)
        have w2 : IntKind.i64.wrap ((at_ : Int) + (h : Int)) = ((at_ + h : Nat) : Int) := wrapAdd (by omega)
        have w3 : IntKind.i64.wrap ((sz : Int) - (h : Int)) = ((sz - h : Nat) : Int) := wrapSub (by omega) (by omega)
        have w4 : IntKind.i64.wrap (((at_ + sz : Nat) : Int) - (sz : Int)) = (at_ : Int) := by rw [wr (by omega)]; omega
        have w5 : IntKind.i64.wrap ((nd : Int) + 1) = ((nd + 1 : Nat) : Int) := wrapSuc (by omega)
        have w6 : IntKind.i64.wrap ((dp : Int) + 1) = ((dp + 1 : Nat) : Int) := wrapSuc (by omega)
        -- up to the checks
        have base := EvB.right (h89.imp3 h26 h70 fun k h1 h2 h3 => (⟨h1, h2, h3⟩ : _ ∧ _ ∧ _))
        by_cases c0 : isTy nm = true
        rotate_left
        · have c0 : isTy nm = false := Bool.eq_false_iff.2 c0
          have ce : chkE nm p dp = 80 := by rw [chkE, if_pos c0]
          rw [ce, if_pos (by decide)] at e
          obtain rfl := Option.some.inj e
          refine EvB.suc (base.imp fun q j hh fr X0 X1 => ?_)
          obtain ⟨h89, h26, h70⟩ := hh
          obtain ⟨s, h59⟩ := f59_v (R := R) j (strOf nm)
          rw [f76_2_l3, lt', cond_true, h89, h26, if_neg (by simp [c0]), h59, bnT (by decide), cond_true]
          exact ⟨_, _, rfl⟩
        by_cases c1 : may nm p = true
        rotate_left
        · have c1 : may nm p = false := Bool.eq_false_iff.2 c1
          have ce : chkE nm p dp = 42 := by rw [chkE, if_neg (by simp [c0]), if_pos c1]
          rw [ce, if_pos (by decide)] at e
          obtain rfl := Option.some.inj e
          refine EvB.suc (base.imp fun q j hh fr X0 X1 => ?_)
          obtain ⟨h89, h26, h70⟩ := hh
          obtain ⟨s, h59⟩ := f59_v (R := R) j (strOf nm)
          rw [f76_2_l3, lt', cond_true, h89, h26, if_pos c0, h59, bnF rfl, cond_false, h70, c1, Bool.not_false, cond_true]
          exact ⟨_, _, rfl⟩
        by_cases c2 : 8 < dp
        · have ce : chkE nm p dp = 43 := by rw [chkE, if_neg (by simp [c0]), if_neg (by simp [c1]), if_pos c2]
          rw [ce, if_pos (by decide)] at e
          obtain rfl := Option.some.inj e
          refine EvB.suc (base.imp fun q j hh fr X0 X1 => ?_)
          obtain ⟨h89, h26, h70⟩ := hh
          obtain ⟨s, h59⟩ := f59_v (R := R) j (strOf nm)
          rw [f76_2_l3, lt', cond_true, h89, h26, if_pos c0, h59, bnF rfl, cond_false, h70, c1, Bool.not_true, cond_false, deT (show (dp : Int) > 8 by omega), cond_true]
          exact ⟨_, _, rfl⟩
        have ce : chkE nm p dp = 0 := by rw [chkE, if_neg (by simp [c0]), if_neg (by simp [c1]), if_neg c2]
        rw [ce, if_neg (by decide)] at e
        have rm : room 40 (pl.length + [plc nm at_ h sz dp].length) = true := roT (by simp; omega)
        have pe : (valF nm 0, (at_ : Int), (h : Int), ((sz - h : Nat) : Int), (dp : Int)) = plc nm at_ h sz dp := rfl
        -- behind the checks
        have start : ∀ (g : Nat → f76_2_T R) (j : Nat), (∀ (name : ByteArray) (fr nd : Int) (pl : List D0) (K0 : Int → Int → ByteArray → Int → Int → List Int → Int → List D0 → Option R) (K1 : Int → Int → ByteArray → List Int → Int → List D0 → Option R), f89_2 j (at_ : Int) name fr (en : Int) (dp : Int) b nd pl K0 K1 = K1 (h : Int) (sz : Int) (strOf nm) b nd pl) →
            (∀ (K : Int → Int → Option R), f26 j (strOf nm) K = if isTy nm = true then K (valF nm 0) 0 else K 0 80) → (∀ (K : Bool → Option R), f70 j (strOf nm) (strOf (outer p)) K = K (may nm p)) →
            ∀ (fr : Int) (X0 : List D1 → List Int → Int → List D0 → Option R) (X1 : Int → Int → List Int → Int → List D0 → Option R),
            f76_2_l3 g (j + 1) (at_ : Int) b (nd : Int) pl (strOf (outer p)) fr (en : Int) (dp : Int) acc X0 X1 =
            bif decide (nm = n_free) then f76_2_l3 g j ((at_ + sz : Nat) : Int) b (nd : Int) (pl ++ [plc nm at_ h sz dp]) (strOf (outer p)) fr (en : Int) (dp : Int) acc X0 X1
            else bif decide (((nd + 1 : Nat) : Int) > 4000) then X1 2 (at_ : Int) b ((nd + 1 : Nat) : Int) (pl ++ [plc nm at_ h sz dp])
            else bif isG nm then g j (strOf nm) ((at_ + h : Nat) : Int) ((at_ + sz : Nat) : Int) ((dp + 1 : Nat) : Int) b ((nd + 1 : Nat) : Int) (pl ++ [plc nm at_ h sz dp]) (fun v29 v30 v31 v32 =>
                bif room 64 (acc.length + ([(D1.mk (valF nm 0) ([]) v31 (isG nm))]).length) then
                f76_2_l3 g j ((at_ + sz : Nat) : Int) v29 v30 v32 (strOf (outer p)) fr (en : Int) (dp : Int) (acc ++ ([(D1.mk (valF nm 0) ([]) v31 (isG nm))])) X0 X1 else none) X1
            else f76_2_l3 g j ((at_ + sz : Nat) : Int) b ((nd + 1 : Nat) : Int) (pl ++ [plc nm at_ h sz dp]) (strOf (outer p)) fr (en : Int) (dp : Int) (acc ++ [D1.mk (valF nm 0) ((b.take (at_ + sz)).drop (at_ + h)) [] (isG nm)]) X0 X1 := by
          intro g j h89 h26 h70 fr X0 X1
          obtain ⟨s, h59⟩ := f59_v (R := R) j (strOf nm)
          rw [bytesOf_strOf hnb] at h59
          rw [f76_2_l3, lt', cond_true, h89, h26, if_pos c0, h59, bnF rfl, cond_false, h70, c1, Bool.not_true, cond_false, deF (show ¬ (dp : Int) > 8 by omega), cond_false, w1, w2, w3, w5, w6, pe, rm, cond_true, str_beq, bytesOf_strOf hnb, show bytesOf (⟨#[102, 114, 101, 101]⟩ : ByteArray) = n_free from rfl, w4]
          have u1 : upto ((at_ + sz : Nat) : Int) b.length = true := upT (by omega)
          have u2 : (decide (0 ≤ ((at_ + h : Nat) : Int)) && decide (((at_ + h : Nat) : Int) ≤ ((at_ + sz : Nat) : Int))) = true := by rw [deT (by omega), deT (by omega)]; rfl
          rw [u1, u2, cond_true, cond_true, Int.toNat_natCast, Int.toNat_natCast, f61_v _ _ (by simp; omega), roT (show (acc.length + [D1.mk (valF nm 0) ((b.take (at_ + sz)).drop (at_ + h)) [] (isG nm)].length) * 64 ≤ 140737488355328 by simp; omega)]
          rfl
        by_cases c3 : nm = n_free
        · rw [if_pos c3] at e
          have ih1 := ih hsel (by omega) hen hdp hp hpb hnd (by simp; omega) (by omega) e
          refine EvB.suc ((base.and ih1).imp fun q j hh fr X0 X1 => ?_)
          obtain ⟨⟨h89, h26, h70⟩, ih1⟩ := hh
          rw [start _ j h89 h26 h70, deT c3, cond_true]
          exact ih1 fr X0 X1
        · rw [if_neg c3] at e
          by_cases c4 : 4000 < nd + 1
          · rw [if_pos c4] at e
            obtain rfl := Option.some.inj e
            refine EvB.suc (base.imp fun q j hh fr X0 X1 => ?_)
            obtain ⟨h89, h26, h70⟩ := hh
            rw [start _ j h89 h26 h70, deF c3, cond_false, deT (show ((nd + 1 : Nat) : Int) > 4000 by omega), cond_true]
            exact ⟨_, _, rfl⟩
          · rw [if_neg c4] at e
            by_cases c5 : isG nm = true
            · rw [if_pos c5] at e
              have hnp : outer nm = nm := outer_ty c0
              have go : ∀ (r' : Res), lev b n (at_ + sz) (dp + 1) nm (at_ + h) (nd + 1) (pl ++ [plc nm at_ h sz dp]) [] = some r' → Ev fun q => ∀ (K0 : List Int → Int → List D1 → List D0 → Option R) (K1 : Int → Int → List Int → Int → List D0 → Option R),
                  EndP b (fun kids b nd pl => K0 b nd kids pl) K1 r' (f76_2 q (strOf nm) ((at_ + h : Nat) : Int) ((at_ + sz : Nat) : Int) ((dp + 1 : Nat) : Int) b ((nd + 1 : Nat) : Int) (pl ++ [plc nm at_ h sz dp]) K0 K1) := by
                intro r' e'
                have := ih (sel := fun q _ => q) (fun a q h _ _ => h) (p := nm) (by omega) (by omega) (by omega) (.inl c0) hnb (by omega) (by simp; omega) (by simp) e'
                refine .suc (this.diag.imp fun k hk K0 K1 => ?_)
                rw [hnp] at hk
                have hk := hk ((at_ + h : Nat) : Int) (fun v39 v40 v41 v42 => K0 v40 v41 v39 v42) K1
                rw [f76_2_step, f76_2_s]
                exact hk
              cases hr : lev b n (at_ + sz) (dp + 1) nm (at_ + h) (nd + 1) (pl ++ [plc nm at_ h sz dp]) [] with
              | none => rw [hr] at e; simp at e
              | some r' =>
                rw [hr] at e
                have g := go r' hr
                cases r' with
                | bad c a =>
                  obtain rfl := Option.some.inj e
                  refine EvB.suc ((base.and (sel_ev hsel g)).imp fun q j hh fr X0 X1 => ?_)
                  obtain ⟨⟨h89, h26, h70⟩, g⟩ := hh
                  rw [start _ j h89 h26 h70, deF c3, cond_false, deF (show ¬ ((nd + 1 : Nat) : Int) > 4000 by omega), cond_false, c5, cond_true]
                  exact g _ X1
                | fine kids nd' pl' =>
                  dsimp only at e
                  have hi := lev_inv n (by omega) hr
                  dsimp only at hi
                  simp only [List.length_append, List.length_cons, List.length_nil] at hi
                  have ih1 := ih hsel (by omega) hen hdp hp hpb (by omega) (by omega) (by simp; omega) e
                  refine EvB.suc (((base.and (sel_ev hsel g)).and ih1).imp fun q j hh fr X0 X1 => ?_)
                  obtain ⟨⟨⟨h89, h26, h70⟩, g⟩, ih1⟩ := hh
                  rw [start _ j h89 h26 h70, deF c3, cond_false, deF (show ¬ ((nd + 1 : Nat) : Int) > 4000 by omega), cond_false, c5, cond_true, g]
                  dsimp only
                  rw [roT (by simp; omega), cond_true]
                  exact ih1 fr X0 X1
            · have c5 : isG nm = false := Bool.eq_false_iff.2 c5
              rw [if_neg (by simp [c5])] at e
              have ih1 := ih hsel (by omega) hen hdp hp hpb (by omega) (by simp; omega) (by simp; omega) e
              refine EvB.suc ((base.and ih1).imp fun q j hh fr X0 X1 => ?_)
              obtain ⟨⟨h89, h26, h70⟩, ih1⟩ := hh
              rw [start _ j h89 h26 h70, deF c3, cond_false, deF (show ¬ ((nd + 1 : Nat) : Int) > 4000 by omega), cond_false, c5, cond_false]
              exact ih1 fr X0 X1
    · rw [if_neg lt] at e
      obtain rfl := Option.some.inj e
      refine EvB.suc (.all fun q j fr X0 X1 => ?_)
      rw [f76_2_l3, deF (by omega)]
      exact rfl
theorem _root_.Go.Am.EvB.up {p : Nat → Nat → Prop} (h : EvB p) : EvB fun q j => p q (j + 1) := by
  obtain ⟨a, ha⟩ := h
  exact ⟨a, fun q hq j hj => ha q hq (j + 1) (by omega)⟩
theorem f76_l3_eq {R : Type} : ∀ (k : Nat) (v1 : Int) (v2 : List Int) (v3 : Int) (v4 : List D0) (v5 : ByteArray) (v6 v7 v8 : Int) (v9 : List D1) (X0 : List D1 → List Int → Int → List D0 → Option R) (X1 : Int → Int → List Int → Int → List D0 → Option R), f76_l3 k v1 v2 v3 v4 v5 v6 v7 v8 v9 X0 X1 = f76_2_l3 (fun i => f76_2 i) k v1 v2 v3 v4 v5 v6 v7 v8 v9 X0 X1 := by
  intro k
  induction k with
  | zero => intros; rfl
  | succ k ih => intros; rw [f76_l3, f76_2_l3]; simp only [ih]
/-- What a document comes to: the error's place and name, the boxes, the places. -/
def docR (b : List Int) : Res :=
  if b.length ≤ 1048576 then (lev b (b.length + 1) b.length 1 [] 0 0 [] []).getD (.bad 2 0) else .bad 2 0
def Res.a : Res → Int | .bad _ a => a | .fine _ _ _ => 0
def Res.c : Res → Int | .bad c _ => c | .fine _ _ _ => 0
def Res.kids : Res → List D1 | .bad _ _ => [] | .fine kids _ _ => kids
def Res.pls : Res → List D0 | .bad _ _ => [] | .fine _ _ pl => pl
theorem doc_lev {b : List Int} (h : b.length ≤ 1048576) : lev b (b.length + 1) b.length 1 [] 0 0 [] [] = some (docR b) := by
  obtain ⟨r, hr⟩ := lev_some (b := b) (b.length + 1) b.length 1 [] 0 0 [] [] (by omega) (by omega)
  rw [docR, if_pos h, hr]; rfl
theorem f49_v (R : Type) (b : List Int) (hb : okBy b) : Ev fun k => ∀ (K : Int → Int → List D1 → List D0 → Option R), f49 k b K = K (docR b).a (docR b).c (docR b).kids (docR b).pls := by
  by_cases h : b.length ≤ 1048576
  · refine (lev_prog R hb h (b.length + 1) (sel := fun _ j => j) (fun a q _ j h => h) (by omega) (by omega) (by omega) (.inr rfl) (by intro x hx; cases hx) (by omega) (by simp) (by simp) (doc_lev h)).diag.imp fun k hk K => ?_
    have e : f76 k (⟨#[45]⟩ : ByteArray) 0 (b.length : Int) 1 b 0 = fun K0 K1 => f76_2_l3 (R := R) (fun i => f76_2 i) k ((0 : Nat) : Int) b ((0 : Nat) : Int) [] (strOf (outer [])) 0 (b.length : Int) ((1 : Nat) : Int) [] (fun v39 v40 v41 v42 => K0 v40 v41 v39 v42) K1 := by
      funext K0 K1; rw [f76, f76_l3_eq]; rfl
    rw [f49, deT (by omega), cond_true, e]
    dsimp only
    have hk := hk 0
    cases hd : docR b with
    | bad c a =>
      rw [hd] at hk
      obtain ⟨x, y, hk⟩ := hk (fun v39 v40 v41 v42 => asNil k 0 0 (fun v5 v6 v7 => bif v5 then K v7 v6 ([] : List D1) ([] : List D0) else K 0 0 v39 v42)) (fun v8 v9 _v10 _v11 v12 => asHit k v8 v9 0 0 (fun v13 v14 v15 => bif v13 then K v15 v14 ([] : List D1) ([] : List D0) else K 0 0 ([] : List D1) v12))
      exact hk
    | fine kids nd pl =>
      rw [hd] at hk
      exact hk _ _
  · refine .all fun k K => ?_
    rw [f49, deF (by omega), cond_false, docR, if_neg h]; rfl
theorem doc_ne {b : List Int} {c : Int} {a : Nat} (h : docR b = .bad c a) : c ≠ 0 := by
  by_cases hl : b.length ≤ 1048576
  · have := lev_inv _ (by omega) (doc_lev hl)
    rw [h] at this; exact this.1
  · rw [docR, if_neg hl] at h
    cases h; decide
theorem lev_ok {b : List Int} (hb : okBy b) (hl : b.length ≤ 1048576) : ∀ (n : Nat) {en dp : Nat} {p : List Int} {at_ nd : Nat} {pl : List D0} {acc kids : List D1} {nd' : Nat} {pl' : List D0}, at_ ≤ en → en ≤ b.length → acc.length ≤ 1048576 + at_ → (∀ x ∈ acc, OkN x) → lev b n en dp p at_ nd pl acc = some (.fine kids nd' pl') → ∀ x ∈ kids, OkN x := by
  intro n
  induction n with
  | zero => intro en dp p at_ nd pl acc kids nd' pl' _ _ _ _ e; simp [lev] at e
  | succ n ih =>
    intro en dp p at_ nd pl acc kids nd' pl' hat hen hacc ha e
    rw [lev] at e
    split at e
    · split at e
      · simp at e
      · rename_i h sz nm hd
        obtain ⟨q1, q2, q3, q4, q5⟩ := head_ok hd
        have hnb : okBy nm := by rw [q4]; exact (hb.drop _).take _
        have hid : -9223372036854775808 ≤ valF nm 0 ∧ valF nm 0 < 9223372036854775808 := by
          have := valF_bound hnb 0
          have e : nm.length = 4 := by rw [q4]; simp; omega
          have p4 : (256 : Int) ^ 4 = 4294967296 := by decide
          rw [e, p4] at this
          omega
        split at e
        · simp at e
        · split at e
          · exact ih (by omega) hen (by omega) ha e
          · split at e
            · simp at e
            · split at e
              · split at e
                · rename_i ks n1 p1 hr
                  have hi := lev_inv n (by omega) hr
                  have hk := ih (by omega) (by omega) (by simp) (by simp) hr
                  simp only [List.length_nil] at hi
                  refine ih (by omega) hen (by simp; omega) ?_ e
                  intro x hx
                  rcases List.mem_append.1 hx with hx | hx
                  · exact ha x hx
                  · rw [List.mem_singleton.1 hx]
                    exact .mk hid (by intro x hx; cases hx) (by simp) (by rw [reachV]; omega) hk
                · rename_i hr
                  exact absurd e (hr kids nd' pl')
              · refine ih (by omega) hen (by simp; omega) ?_ e
                intro x hx
                rcases List.mem_append.1 hx with hx | hx
                · exact ha x hx
                · rw [List.mem_singleton.1 hx]
                  exact .mk hid ((hb.take _).drop _) (by rw [reachV]; simp; omega) (by simp) (by intro x hx; cases hx)
    · simp only [Option.some.injEq, Res.fine.injEq] at e
      rw [← e.1]; exact ha
theorem doc_ok {b : List Int} (hb : okBy b) : OkL (docR b).kids ∧ (docR b).pls.length ≤ 1048576 ∧ (docR b).kids.length ≤ 1048576 := by
  by_cases hl : b.length ≤ 1048576
  · cases hd : docR b with
    | bad c a => exact ⟨⟨by simp [Res.kids], by intro x hx; cases hx⟩, by simp [Res.pls], by simp [Res.kids]⟩
    | fine kids nd pl =>
      have hr := doc_lev hl
      rw [hd] at hr
      have hi := lev_inv _ (by omega) hr
      simp only [List.length_nil] at hi
      exact ⟨⟨by rw [reachV]; show kids.length * 64 ≤ _; omega, lev_ok hb hl _ (by omega) (by omega) (by simp) (by intro x hx; cases hx) hr⟩, by show pl.length ≤ _; omega, by show kids.length ≤ _; omega⟩
  · rw [docR, if_neg hl]
    exact ⟨⟨by simp [Res.kids], by intro x hx; cases hx⟩, by simp [Res.pls], by simp [Res.kids]⟩
theorem beB_valF {nm : List Int} (hb : okBy nm) (h4 : nm.length = 4) : beB 4 (valF nm 0) = nm := by
  obtain ⟨a, b, c, d, rfl⟩ := four h4
  have ha := hb a (by simp)
  have hb' := hb b (by simp)
  have hc := hb c (by simp)
  have hd := hb d (by simp)
  simp only [valF_cons, valF, List.foldl, beB, List.nil_append, List.cons_append]
  congr 1
  · omega
  · congr 1
    · omega
    · congr 1
      · omega
      · congr 1; omega
theorem valF4 {nm : List Int} (hb : okBy nm) (h4 : nm.length = 4) : 0 ≤ valF nm 0 ∧ valF nm 0 < 4294967296 := by
  have := valF_bound hb 0
  have p4 : (256 : Int) ^ 4 = 4294967296 := by decide
  rw [h4, p4] at this
  omega
theorem grp_nm {nm : List Int} (hb : okBy nm) (h4 : nm.length = 4) (ht : isTy nm = true) : grp (valF nm 0) = isG nm := by
  have := valF4 hb h4
  rw [grp, okId, beB_valF hb h4, ht, deT this.1, deT this.2]; simp
theorem rev_get (x : Int) (l : List Int) : ((x :: l).reverse).getD l.length 0 = x := by simp
theorem rev_take (x : Int) (l : List Int) : ((x :: l).reverse).take l.length = l.reverse := by simp
theorem f8_9 (R : Type) (b : List Int) (at_ : Int) (i : Nat) (pls : List D0) (hi : i < pls.length) (base : List Int) (d : Int) (hd : (pls.getD i zero0).2.2.2.2 = d) (hb : d = (base.length : Int) + 1) : ∀ m : Nat, m + base.length ≤ 4000000 → Ev fun k => ∀ (X0 : List Int → Int → Int → List D0 → List Int → Option R) (X1 : Bool → Option R),
    f8_l9 k b at_ (i : Int) pls ((List.replicate m at_ ++ base).reverse) X0 X1 = X0 b at_ (i : Int) pls base.reverse := by
  intro m
  induction m with
  | zero =>
    intro _
    refine Ev.suc (.all fun k X0 X1 => ?_)
    rw [f8_l9, inT (by omega), cond_true, Int.toNat_natCast, hd, List.replicate_zero, List.nil_append, List.length_reverse, deF (by omega), cond_false]
  | succ m ih =>
    intro hm
    refine Ev.suc ((ih (by omega)).imp fun k ih X0 X1 => ?_)
    have e : List.replicate (m + 1) at_ ++ base = at_ :: (List.replicate m at_ ++ base) := rfl
    have el : ((at_ :: (List.replicate m at_ ++ base)).reverse).length = m + base.length + 1 := by simp; omega
    have w : IntKind.i64.wrap (((m + base.length + 1 : Nat) : Int) - 1) = ((m + base.length : Nat) : Int) := by rw [wr (by omega)]; omega
    have el2 : m + base.length = (List.replicate m at_ ++ base).length := by simp
    rw [f8_l9, inT (by omega), cond_true, Int.toNat_natCast, hd, e, el, deT (by omega), cond_true, deT (by omega), cond_true, w, inT (by omega), cond_true, Int.toNat_natCast]
    rw [el2, rev_get, bnF rfl, cond_false, upT (by omega), cond_true, rev_take]
    exact ih X0 X1
theorem f8_round (R : Type) {b nm : List Int} (hl : b.length ≤ 1048576) {at_ h sz dp : Nat} (hnb : okBy nm) (hnl : nm.length = 4) (ht : isTy nm = true) (hh : h = 8 ∨ h = 16) (hs : h ≤ sz) (ha : at_ + sz ≤ b.length) {pls : List D0} (hpl : pls.length ≤ 3000000) {i : Nat} (hi : i < pls.length) (hq : pls.getD i zero0 = plc nm at_ h sz dp)
    {base : List Int} (hdp : dp = base.length + 1) (hbase : ∀ t bs, base = t :: bs → ((at_ + sz : Nat) : Int) ≤ t) {m : Nat} (hm : m + base.length ≤ i) (res : (List Int → Int → List Int → Option R) → (Bool → Option R) → Option R)
    (next : Ev fun k => ∀ (X0 : List Int → Int → List Int → Option R) (X1 : Bool → Option R), f8_l7 k b (if isG nm = true then ((at_ + h : Nat) : Int) else ((at_ + sz : Nat) : Int)) ((i + 1 : Nat) : Int) pls (if isG nm = true then (((at_ + sz : Nat) : Int) :: base).reverse else base.reverse) X0 X1 = res X0 X1) :
    Ev fun k => ∀ (X0 : List Int → Int → List Int → Option R) (X1 : Bool → Option R), f8_l7 k b (at_ : Int) (i : Int) pls ((List.replicate m (at_ : Int) ++ base).reverse) X0 X1 = res X0 X1 := by
  have h9 := f8_9 R b (at_ : Int) i pls hi base (dp : Int) (by rw [hq]; rfl) (by omega) m (by omega)
  have h30 := f30_v R (valF nm 0)
  rw [grp_nm hnb hnl ht] at h30
  have e1 : inb (i : Int) pls.length = true := inT (by omega)
  have w1 : IntKind.i64.wrap ((at_ : Int) + (h : Int)) = ((at_ + h : Nat) : Int) := wrapAdd (by omega)
  have w2 : IntKind.i64.wrap (((at_ + h : Nat) : Int) + ((sz - h : Nat) : Int)) = ((at_ + sz : Nat) : Int) := by rw [wr (by omega)]; omega
  have wd : IntKind.i64.wrap ((dp : Int) - 1) = (base.length : Int) := by rw [wr (by omega)]; omega
  have wi : IntKind.i64.wrap ((i : Int) + 1) = ((i + 1 : Nat) : Int) := wrapSuc (by omega)
  have rm : room 8 (base.length + [((at_ + sz : Nat) : Int)].length) = true := roT (by simp; omega)
  refine Ev.suc (h9.imp3 h30 next fun k h9 h30 next X0 X1 => ?_)
  have next := next X0 X1
  rw [f8_l7, deT (by omega), cond_true, h9]
  have last : ∀ (x : Option R), x = (bif isG nm then bif room 8 (base.length + [((at_ + sz : Nat) : Int)].length) then f8_l7 k b ((at_ + h : Nat) : Int) ((i + 1 : Nat) : Int) pls (base.reverse ++ [((at_ + sz : Nat) : Int)]) X0 X1 else none else f8_l7 k b ((at_ + sz : Nat) : Int) ((i + 1 : Nat) : Int) pls base.reverse X0 X1) → x = res X0 X1 := by
    intro x hx
    rw [hx, rm]
    cases hg : isG nm with
    | true => rw [hg] at next; rw [← List.reverse_cons]; exact next
    | false => rw [hg] at next; exact next
  have n8 : (((8 : Nat) : Int) != 8) = false := rfl
  have n16 : (((16 : Nat) : Int) != 8) = true := rfl
  have n16' : (((16 : Nat) : Int) != 16) = false := rfl
  apply last
  simp only [e1, cond_true, Int.toNat_natCast, hq, plc, bnF rfl, cond_false, List.length_reverse, wd, w1, w2, wi]
  cases base with
  | nil =>
    rw [deF (by simp), cond_false]
    rcases hh with rfl | rfl
    · rw [n8, cond_false, h30]
    · rw [n16, cond_true, n16', cond_false, h30]
  | cons t bs =>
    have ht' := hbase t bs rfl
    have w3 : IntKind.i64.wrap (((t :: bs).length : Int) - 1) = (bs.length : Int) := by simp only [List.length_cons] at hm ⊢; rw [wr (by omega)]; omega
    have e2 : inb (bs.length : Int) (t :: bs).length = true := inT (by simp <;> omega)
    rw [deT (by simp <;> omega), cond_true, w3, e2, cond_true, Int.toNat_natCast, rev_get, deF (by omega), cond_false]
    rcases hh with rfl | rfl
    · rw [n8, cond_false, h30]
    · rw [n16, cond_true, n16', cond_false, h30]
theorem rep_back (m : Nat) (x : Int) (base : List Int) : List.replicate m x ++ (x :: base) = List.replicate (m + 1) x ++ base := by
  induction m with
  | zero => rfl
  | succ m ih => rw [List.replicate_succ, List.cons_append, ih, List.replicate_succ (n := m + 1)]; rfl
theorem cov_lev (R : Type) {b : List Int} (hb : okBy b) (hl : b.length ≤ 1048576) : ∀ (n : Nat) {en dp : Nat} {p : List Int} {at_ nd : Nat} {pl : List D0} {acc kids : List D1} {nd' : Nat} {pl' : List D0}, at_ ≤ en → en ≤ b.length → lev b n en dp p at_ nd pl acc = some (.fine kids nd' pl') →
    ∃ new, pl' = pl ++ new ∧ ∀ (all tail : List D0), all = pl' ++ tail → all.length ≤ 3000000 → ∀ (base : List Int), dp = base.length + 1 → (∀ t bs, base = t :: bs → t = (en : Int)) → ∀ (m : Nat), m + base.length ≤ pl.length → ∃ m' : Nat, m' + base.length ≤ pl'.length ∧ ∀ (res : (List Int → Int → List Int → Option R) → (Bool → Option R) → Option R),
      (Ev fun k => ∀ (X0 : List Int → Int → List Int → Option R) (X1 : Bool → Option R), f8_l7 k b (en : Int) (pl'.length : Int) all ((List.replicate m' (en : Int) ++ base).reverse) X0 X1 = res X0 X1) →
      Ev fun k => ∀ (X0 : List Int → Int → List Int → Option R) (X1 : Bool → Option R), f8_l7 k b (at_ : Int) (pl.length : Int) all ((List.replicate m (at_ : Int) ++ base).reverse) X0 X1 = res X0 X1 := by
  intro n
  induction n with
  | zero => intro en dp p at_ nd pl acc kids nd' pl' _ _ e; simp [lev] at e
  | succ n ih =>
    intro en dp p at_ nd pl acc kids nd' pl' hat hen e
    rw [lev] at e
    split at e
    · split at e
      · simp at e
      · rename_i h sz nm hd
        obtain ⟨q1, q2, q3, q4, q5⟩ := head_ok hd
        have hnb : okBy nm := by rw [q4]; exact (hb.drop _).take _
        have hnl : nm.length = 4 := by rw [q4]; simp; omega
        split at e
        · simp at e
        · rename_i hc
          have ht : isTy nm = true := by
            cases ht : isTy nm with
            | true => rfl
            | false => exact absurd (by rw [chkE, if_pos ht]; decide) hc
          have get : ∀ {new tail : List D0}, ((pl ++ [plc nm at_ h sz dp]) ++ new ++ tail).getD pl.length zero0 = plc nm at_ h sz dp := by
            intro new tail
            simp
          split at e
          · rename_i hfree
            obtain ⟨new, e1, e2⟩ := ih (by omega) hen e
            refine ⟨plc nm at_ h sz dp :: new, by rw [e1]; simp, ?_⟩
            intro all tail hall hal base hdp hbase m hm
            have hG : isG nm = false := by rw [hfree]; decide
            obtain ⟨m', hm', f⟩ := e2 all tail hall hal base hdp hbase 0 (by simp <;> omega)
            refine ⟨m', hm', fun res hres => ?_⟩
            refine f8_round R hl hnb hnl ht q1 q2 (by omega) hal (by rw [hall, e1]; simp) (by rw [hall, e1]; exact get) hdp (fun t bs hb => by rw [hbase t bs hb]; omega) hm res ?_
            rw [hG, if_neg (by decide), if_neg (by decide)]
            have := f res hres
            simpa using this
          · split at e
            · simp at e
            · split at e
              · rename_i hg
                split at e
                · rename_i ks n1 p1 hr
                  have hi := lev_inv n (by omega) hr
                  obtain ⟨new1, c1, c2⟩ := ih (by omega) (by omega) hr
                  obtain ⟨new2, e1, e2⟩ := ih (by omega) hen e
                  refine ⟨plc nm at_ h sz dp :: (new1 ++ new2), by rw [e1, c1]; simp, ?_⟩
                  intro all tail hall hal base hdp hbase m hm
                  obtain ⟨m1, hm1, f1⟩ := c2 all (new2 ++ tail) (by rw [hall, e1]; simp) hal (((at_ + sz : Nat) : Int) :: base) (by simp; omega) (fun t bs hb => by cases hb; rfl) 0 (by simp <;> omega)
                  simp only [List.length_cons] at hm1
                  obtain ⟨m', hm', f2⟩ := e2 all tail hall hal base hdp hbase (m1 + 1) (by omega)
                  refine ⟨m', hm', fun res hres => ?_⟩
                  refine f8_round R hl hnb hnl ht q1 q2 (by omega) hal (by rw [hall, e1, c1]; simp) (by rw [hall, e1, c1]; simp) hdp (fun t bs hb => by rw [hbase t bs hb]; omega) hm res ?_
                  rw [hg, if_pos rfl, if_pos rfl]
                  have := f1 res (by rw [rep_back]; exact f2 res hres)
                  simpa using this
                · rename_i hr
                  exact absurd e (hr kids nd' pl')
              · rename_i hg
                have hG : isG nm = false := Bool.eq_false_iff.2 hg
                obtain ⟨new, e1, e2⟩ := ih (by omega) hen e
                refine ⟨plc nm at_ h sz dp :: new, by rw [e1]; simp, ?_⟩
                intro all tail hall hal base hdp hbase m hm
                obtain ⟨m', hm', f⟩ := e2 all tail hall hal base hdp hbase 0 (by simp <;> omega)
                refine ⟨m', hm', fun res hres => ?_⟩
                refine f8_round R hl hnb hnl ht q1 q2 (by omega) hal (by rw [hall, e1]; simp) (by rw [hall, e1]; exact get) hdp (fun t bs hb => by rw [hbase t bs hb]; omega) hm res ?_
                rw [hG, if_neg (by decide), if_neg (by decide)]
                have := f res hres
                simpa using this
    · simp only [Option.some.injEq, Res.fine.injEq] at e
      obtain ⟨-, -, rfl⟩ := e
      refine ⟨[], by simp, ?_⟩
      intro all tail hall hal base hdp hbase m hm
      obtain rfl : at_ = en := by omega
      exact ⟨m, hm, fun res hres => hres⟩
theorem f8_21 (R : Type) (b : List Int) (x : Int) : ∀ m : Nat, m ≤ 4000000 → ∀ (M : Nat), m ≤ M → M ≤ 4000000 → Ev fun k => ∀ (X0 : List Int → Int → Option R) (X1 : Bool → Option R), f8_l21 k b x ((m : Int) - 1) (List.replicate M x) X0 X1 = X0 b x := by
  intro m
  induction m with
  | zero =>
    intro _ M _ _
    refine Ev.suc (.all fun k X0 X1 => ?_)
    rw [f8_l21, deF (by omega), cond_false]
  | succ m ih =>
    intro hm M hM hM'
    refine Ev.suc ((ih (by omega) M (by omega) hM').imp fun k ih X0 X1 => ?_)
    have e : (((m + 1 : Nat) : Int) - 1) = (m : Int) := by omega
    have w : IntKind.i64.wrap ((m : Int) - 1) = (m : Int) - 1 := wr (by omega)
    rw [f8_l21, e, deT (by omega), cond_true, inT (by simp; omega), cond_true, Int.toNat_natCast, w, getD_get (by simp; omega), List.getElem_replicate, bnF rfl, cond_false]
    exact ih X0 X1
theorem boxCovers_plain (b : List Int) (hb : okBy b) : ∃ k, f8 (R := Bool) k b some = some true := by
  obtain ⟨o1, o2, o3⟩ := doc_ok hb
  have h49 := f49_v Bool b hb
  cases hd : docR b with
  | bad c a =>
    refine (h49.imp2 (awake_v Bool) fun k h49 h20 => ?_ : Ev fun k => f8 (R := Bool) k b some = some true).some
    rw [hd] at h49
    have hne := doc_ne hd
    rw [f8, f16, h49]
    show (bif (c != 0) then _ else _) = _
    rw [bnT hne, cond_true, h20]
  | fine kids nd pl =>
    have hl : b.length ≤ 1048576 := by
      refine Decidable.byContradiction fun hl => ?_
      rw [docR, if_neg hl] at hd; cases hd
    have hr := doc_lev hl
    rw [hd] at hr h49 o2
    obtain ⟨new, e1, e2⟩ := cov_lev Bool hb hl _ (by omega) (by omega) hr
    have o2 : pl.length ≤ 1048576 := o2
    obtain ⟨m', hm', f⟩ := e2 pl [] (by simp) (by omega) [] rfl (fun t bs h => by cases h) 0 (by simp)
    have f := f (fun X0 _ => X0 b (b.length : Int) (List.replicate m' (b.length : Int))) (Ev.suc (.all fun k X0 X1 => by
      rw [f8_l7, deF (by omega), cond_false]; simp))
    simp only [List.length_nil, Nat.add_zero] at hm'
    have w : IntKind.i64.wrap ((m' : Int) - 1) = (m' : Int) - 1 := wr (by omega)
    refine ((h49.imp3 f (f8_21 Bool b (b.length : Int) m' (by omega) m' (Nat.le_refl _) (by omega)) fun k a b c => (⟨a, b, c⟩ : _ ∧ _ ∧ _)).imp2 (awake_v Bool) fun k hh h20 => ?_ : Ev fun k => f8 (R := Bool) k b some = some true).some
    obtain ⟨h49, f, h21⟩ := hh
    rw [f8, f16, h49]
    show (bif ((0 : Int) != 0) then _ else f8_l7 k b 0 0 pl [] _ _) = _
    rw [bnF rfl, cond_false]
    refine (f _ _).trans ?_
    rw [List.length_replicate, w, h21, beT rfl, cond_true, h20]
theorem ownKn : ownKnob Tryd.prog.godebug = none := by kernel_rfl
theorem laidOut : laidOutB Tryd.prog = true := by kernel_rfl
noncomputable def naming : Naming cx where
  flds := flds
  toT := toT
  ofT := ofT
  plain := fun r => match r with
    | 0 => rfl
    | 1 => rfl
    | 2 => rfl
    | 3 => rfl
    | 4 => rfl
    | 5 => rfl
    | 6 => rfl
    | _n + 7 => rfl
  to_of := fun r x => match r, x with
    | 0, _ => rfl
    | 1, _ => rfl
    | 2, _ => rfl
    | 3, _ => rfl
    | 4, _ => rfl
    | 5, _ => rfl
    | 6, _ => rfl
    | _n + 7, _ => rfl
  deep := fun r v => match r, v with
    | 0, _ => rfl
    | 1, v => deep1_eq v
    | 2, _ => rfl
    | 3, _ => rfl
    | 4, _ => rfl
    | 5, _ => rfl
    | 6, _ => rfl
    | _n + 7, _ => rfl
theorem fit : Fit naming Tryd.prog := fit_of (tab := tab) rfl (by kernel_rfl)
theorem wf_bytes {z : Nat} {l : List Int} (h : WfIV (.list z (l.map fun y => [.int .u8 y]))) : l.length ≤ reachBytes ∧ ∀ n ∈ l, 0 ≤ n ∧ n < 256 := by
  cases h with
  | list h1 h2 _ =>
    refine ⟨by simpa using h1, fun n hn => ?_⟩
    have := h2 _ (List.mem_map.2 ⟨n, hn, rfl⟩) _ (List.mem_singleton.2 rfl)
    cases this with
    | int h3 => simp [Lit.wf, IntKind.min, IntKind.max, IntKind.signed, IntKind.bits] at h3; omega
theorem gErr : Tryd.prog.globalNamed "errors.errorType" = some 0 := by kernel_rfl
theorem gTab : Tryd.prog.globalNamed "strings.asciiSpace" = some 1 := by kernel_rfl
theorem gTabType : (Tryd.prog.globals[1]?).map (·.type) = some 145 := by kernel_rfl
theorem cells145 : Tryd.prog.cellsOf 145 = 256 := by kernel_rfl
theorem cells5 : Tryd.prog.cellsOf 5 = 1 := by kernel_rfl
theorem rt149 : (Tryd.prog.cutTypes.find? (·.1 == "internal/reflectlite.rtype")).map (·.2) = some 149 := by kernel_rfl
theorem oneRow : ((List.range 209).filter fun t => Tryd.prog.rowNamed t [101, 114, 114, 111, 114]) = [108] := by kernel_rfl
theorem nTypes : Tryd.prog.types.size = 209 := by kernel_rfl
def laidL : List (String × DataW Unit) := [("errors.errorType", Rows.laid_errors_errorType), ("unicode.White_Space", Rows.laid_unicode_White_Space), ("strings.asciiSpace", Rows.laid_strings_asciiSpace)]
theorem tabData_eq : (Rows.laid_strings_asciiSpace : DataW Unit) = Lib.tabData .u8 asciiTab := by kernel_rfl
theorem laid_parts {W : World} (h : laidMetH Tryd.prog laidL W) : laidMet Tryd.prog [("unicode.White_Space", Rows.laid_unicode_White_Space), ("strings.asciiSpace", Rows.laid_strings_asciiSpace)] W ∧ handlesMet Tryd.prog [("errors.errorType", Rows.laid_errors_errorType)] W := h
theorem handle_of_laid {W : World} (h : laidMetH Tryd.prog laidL W) : W.cell? ⟨0, 0, none⟩ = some (.iface 149 (.agg #[.pointer (some ⟨4, 108, none⟩)])) := by
  obtain ⟨name, u, ty, e1, e2, e3, e4, e5⟩ := (laid_parts h).2 _ (List.mem_singleton.2 rfl)
  have en : name = [101, 114, 114, 111, 114] := (Option.some.inj e1).symm
  subst en
  obtain rfl := Option.some.inj (rt149.symm.trans e2)
  have hm : ty ∈ (List.range 209).filter fun t => Tryd.prog.rowNamed t [101, 114, 114, 111, 114] := List.mem_filter.2 ⟨List.mem_range.2 (by rw [← nTypes]; exact e3), e4⟩
  rw [oneRow] at hm
  obtain rfl := List.mem_singleton.1 hm
  have hh : typeHandle Tryd.prog 108 = .pointer (some ⟨4, 108, none⟩) := by kernel_rfl
  rw [hh] at e5
  simpa using World.var?_cell gErr e5 0
theorem tab_of_laid {W : World} (h : laidMetH Tryd.prog laidL W) : Lib.TabIs Tryd.prog W "strings.asciiSpace" .u8 asciiTab := by
  obtain ⟨ps, ⟨g', t', cs, fuel, p, q, hg', ht', hvar, hd, ⟨g2, t2, cs2, fuel2, p2, q2, hg2, ht2, hvar2, hd2, _, _⟩, _⟩, _⟩ := (laid_parts h).1
  obtain rfl := Option.some.inj (gTab.symm.trans hg2)
  obtain rfl := Option.some.inj (gTabType.symm.trans ht2)
  unfold Lib.TabIs
  rw [tabData_eq] at hd2
  rw [hvar2, ← Lib.cells_of_tab Tryd.underlying145 Tryd.underlying5 cells5 cells145 hd2]
theorem ginv {W : World} (h : laidMetH Tryd.prog laidL W) : GInv cx (fun b => b < W.heap.size) W := by
  have hh := handle_of_laid h
  have ht := tab_of_laid h
  have hcell : ∀ i, i < 256 → W.cell? ⟨1, i, none⟩ = some (.int .u8 (asciiTab.getD i 0)) := fun i hi => ht.cell gTab i hi
  have lt : ∀ (b : Nat) (v : Value), W.cell? ⟨b, 0, none⟩ = some v → b < W.heap.size := by
    intro b v hv
    by_cases hb : b < W.heap.size
    · exact hb
    · have h0 : W.heap[b]? = none := Array.getElem?_eq_none (by omega)
      simp [World.cell?, h0] at hv
  refine ⟨fun g => ?_, fun p hp => ?_⟩
  · by_cases hg : g = 1
    · subst hg
      refine ⟨rfl, ?_⟩
      show PRep cx _ _ _ W (.lelem (.int .u8) asciiTab 0 0) _
      have hl : asciiTab.length = 256 := rfl
      refine ⟨by rw [hl]; omega, ⟨1, 0, none⟩, 256, ?_, rfl⟩
      have hm : (asciiTab.map (deep cx (.int .u8))).length = 256 := by rw [List.length_map, hl]
      have : Rep (fun b => b < W.heap.size) W (.slice (some ⟨1, 0, none⟩) (asciiTab.map (deep cx (.int .u8))).length 256) (.list 1 (asciiTab.map (deep cx (.int .u8)))) := by
        refine .list (fun i j => .int .u8 (asciiTab.getD i 0)) (by rw [hm]; exact Nat.le_refl _) (fun _ => lt 1 _ (hcell 0 (by omega))) (fun i l j x h1 h2 => ?_) (fun i l j x h1 h2 => ?_)
        · have hi : i < 256 := by have := (List.getElem?_eq_some_iff.1 h1).1; omega
          have hj : j = 0 := by
            simp only [List.getElem?_map, Option.map_eq_some_iff] at h1
            obtain ⟨y, _, rfl⟩ := h1
            have := (List.getElem?_eq_some_iff.1 h2).1
            simp [deep] at this; exact this
          subst hj
          have e : (⟨1, 0, none⟩ : Addr).add (i * 1 + 0) = ⟨1, i, none⟩ := by rw [add_at]; simp
          rw [e]; exact hcell i hi
        · have hi : i < asciiTab.length := by have := (List.getElem?_eq_some_iff.1 h1).1; rw [hl]; omega
          simp only [List.getElem?_map, Option.map_eq_some_iff] at h1
          obtain ⟨y, hy, rfl⟩ := h1
          have hj : j = 0 := by
            have := (List.getElem?_eq_some_iff.1 h2).1
            simp [deep] at this; exact this
          subst hj
          simp [deep] at h2
          subst h2
          have : asciiTab.getD i 0 = y := by simp [List.getD, hy]
          rw [this]; exact .int
      rw [hm] at this
      exact this
    · have e : cx.gv g = .undef := by
        show gvs g = _
        have : Nat.beq g 1 = false := by rw [Bool.eq_false_iff]; intro hb; exact hg (Nat.eq_of_beq_eq_true hb)
        simp [gvs, this]
      rw [e]; exact ⟨rfl, trivial⟩
  · have hp : p ∈ gcs := hp
    simp only [gcs, List.mem_singleton] at hp
    subst hp
    exact ⟨lt 0 _ hh, hh⟩
/-- A world in which they lie so. -/
noncomputable def laidWorld (os : Os) : World :=
  { World.holding Tryd.prog os ⟨#[], #[], []⟩ with heap := (((((World.holding Tryd.prog os ⟨#[], #[], []⟩).heap.modify 0 fun
      | .cells _ t frozen => .cells #[.iface 149 (.agg #[.pointer (some ⟨4, 108, none⟩)])] t frozen
      | o => o).modify 1 fun
      | .cells _ t frozen => .cells (asciiTab.map fun n => Value.int .u8 n).toArray t frozen
      | o => o).modify 2 fun
      | .cells _ t frozen => .cells #[.pointer (some ⟨9, 0, none⟩)] t frozen
      | o => o).push (.cells #[.slice (some ⟨10, 0, none⟩) 7 7, .slice none 0 0, .int .i64 2] 171)).push (.cells (([9, 13, 1, 32, 133, 101, 160, 5760, 5600, 8192, 8202, 1, 8232, 8233, 1, 8239, 8287, 48, 12288, 12288, 1] : List Int).map fun n => Value.int .u16 n).toArray 174) }
end Go.Proofs.YtehmahdngjdhpaaDoor
