/- Proved: the plain laws of BoxNames. Conditions: none. -/
import Derived.Test.YtehmahdngjdhpaaDoorBxWalk1
import Derived.Test.YtehmahdngjdhpaaDoorRows
import Derived.Test.YtehmahdngjdhpaaDoorCards
import Derived.Test.YtehmahdngjdhpaaDoorTie
import Derived.JoinedOf
import Derived.Lib.LaidTab
import Derived.LaidLaws
import Derived.LaidHandle
import Derived.Stop.Joined

set_option maxRecDepth 100000
namespace Go.Proofs.YtehmahdngjdhpaaDoor
open Go Go.Am
theorem awake_v (R : Type) : Ev fun k => ∀ (K : Bool → Option R), f20 k K = K true := by
  refine .plus 40 (.all fun k K => ?_)
  kernel_rfl
/-- A tree as it lies in memory. -/
inductive OkN : D1 → Prop
  | mk {i : Int} {d : List Int} {ks : List D1} {g : Bool} : -9223372036854775808 ≤ i ∧ i < 9223372036854775808 → okBy d → d.length ≤ reachBytes → ks.length * 64 ≤ reachBytes → (∀ x ∈ ks, OkN x) → OkN (.mk i d ks g)
theorem OkN.id {n : D1} (h : OkN n) : -9223372036854775808 ≤ n.c0 ∧ n.c0 < 9223372036854775808 := by cases h; assumption
theorem OkN.by {n : D1} (h : OkN n) : okBy n.c1 := by cases h; assumption
theorem f79_loop (R : Type) (l : List Int) (hl : okBy l) (h8 : l.length ≤ 8) : ∀ i, i ≤ l.length → Ev fun k => ∀ (v : Int) (X : Int → Option R), 0 ≤ v → v < 256 ^ i → f79_l7 k v l (l.length : Int) (i : Int) X = X (valF (l.drop i) v) := by
  refine Ev.down l.length ?_ ?_
  · exact Ev.suc (.all fun k v X _ _ => by simp [f79_l7, valF])
  · intro i hi h
    refine Ev.suc (h.imp fun k hk v X h0 h1 => ?_)
    have hc := hl.get hi
    have hp : (256 : Int) ^ i ≤ 72057594037927936 := by
      have h2 : (256 : Nat) ^ i ≤ 72057594037927936 := Nat.le_trans (Nat.pow_le_pow_right (by decide) (show i ≤ 7 by omega)) (by decide)
      have e : ((256 ^ i : Nat) : Int) = (256 : Int) ^ i := Int.natCast_pow 256 i
      omega
    have ho := or_byteU h0 (by omega) hc.1 hc.2
    rw [f79_l7, lt_nat, inb_nat, wrapSuc (by omega)]
    simp only [hi, decide_true, cond_true, Int.toNat_natCast, getD_get hi, ho]
    have hv : v * 256 + l[i] < 256 ^ (i + 1) := by
      rw [Int.pow_succ]; omega
    rw [hk _ X (by omega) hv, List.drop_eq_getElem_cons hi, valF_cons]
/-- The number of the first bytes; one too great counts as the greatest. -/
def num (b : List Int) (n : Nat) : Int := if 9223372036854775807 < valF (b.take n) 0 then 9223372036854775807 else valF (b.take n) 0
theorem val_bound {b : List Int} (hb : okBy b) {n : Nat} (h : n ≤ b.length) : 0 ≤ valF (b.take n) 0 ∧ valF (b.take n) 0 < 256 ^ n := by
  have := valF_bound (hb.take n) 0
  have e : (b.take n).length = n := by simp; omega
  rw [e] at this
  omega
theorem num_small {b : List Int} (hb : okBy b) {n : Nat} (h : n ≤ b.length) (h7 : n ≤ 7) : num b n = valF (b.take n) 0 := by
  have := (val_bound hb h).2
  have h2 : (256 : Nat) ^ n ≤ 72057594037927936 := Nat.le_trans (Nat.pow_le_pow_right (by decide) h7) (by decide)
  have e : ((256 ^ n : Nat) : Int) = (256 : Int) ^ n := Int.natCast_pow 256 n
  unfold num
  rw [if_neg (by omega)]
theorem f54_v (R : Type) (b : List Int) (hb : okBy b) (hl : b.length ≤ 140737488355328) {n : Nat} (h1 : 1 ≤ n) (h8 : n ≤ 8) (h : n ≤ b.length) : Ev fun k => ∀ (K : Int → Option R), f54 k b (n : Int) K = K (num b n) := by
  have el : (b.take n).length = n := by simp; omega
  refine (f79_loop R (b.take n) (hb.take n) (by omega) 0 (by omega)).imp fun k hk K => ?_
  have t1 : decide ((n : Int) < 1) = false := decide_eq_false (by omega)
  have t2 : decide ((n : Int) > 8) = false := decide_eq_false (by omega)
  have t4 : decide ((0 : Int) > (b.length : Int)) = false := decide_eq_false (by omega)
  have w1 : IntKind.i64.wrap ((b.length : Int) - 0) = (b.length : Int) := by rw [wrap64 (by omega) (by omega)]; omega
  have w2 : IntKind.i64.wrap ((0 : Int) + (n : Int)) = (n : Int) := by rw [wrap64 (by omega) (by omega)]; omega
  have t5 : decide ((b.length : Int) < (n : Int)) = false := decide_eq_false (by omega)
  have t7 : decide ((0 : Int) ≤ (n : Int)) = true := decide_eq_true (by omega)
  simp only [Int.natCast_zero, List.drop_zero] at hk
  simp only [f54, f79, t1, t2, t4, w1, w2, t5, t7, cond_false, upto_nat, h, decide_true, Bool.and_self, cond_true, Int.toNat_natCast, Int.toNat_zero, List.drop_zero, Int.lt_irrefl, decide_false]
  rw [hk 0 _ (by omega) (by decide)]
  have hbd := val_bound hb h
  unfold num
  by_cases hx : 9223372036854775807 < valF (b.take n) 0
  · rw [if_pos hx, decide_eq_true (show valF (b.take n) 0 > 9223372036854775807 from hx)]; rfl
  · rw [if_neg hx, decide_eq_false (show ¬ valF (b.take n) 0 > 9223372036854775807 from hx), wrap64 (by omega) (by omega)]; rfl
theorem f96_loop (R : Type) : ∀ n, n ≤ 1000 → Ev fun k => ∀ (w : Int) (out : List Int) (X : List Int → Option R), n ≤ out.length → f96_l3 k w ((n : Int) - 1) out X = X (beB n w ++ out.drop n)
  | 0, _ => .suc (.all fun k w out X _ => by
    rw [f96_l3, deF (by omega)]; simp [beB])
  | n + 1, hn => by
    refine .suc ((f96_loop R n (by omega)).imp fun k hk w out X ho => ?_)
    have e : ((n + 1 : Nat) : Int) - 1 = (n : Int) := by omega
    rw [e, f96_l3, inb_nat, wr (by omega), wrapU8, shr8]
    simp only [deT (show (n : Int) ≥ 0 by omega), show n < out.length by omega, decide_true, cond_true, Int.toNat_natCast]
    rw [hk _ _ X (by simp; omega), set_drop (by omega), beB, List.append_assoc]; rfl
theorem f96_v (R : Type) {n : Nat} (hn : n ≤ 1000) : Ev fun k => ∀ (w : Int) (K : List Int → Option R), f96 k w (n : Int) K = K (beB n w) :=
  (f96_loop R n hn).imp fun k hk w K => by
    simp only [f96, mk_ok (show n ≤ 140737488355328 by omega), cond_true, Int.toNat_natCast]
    rw [wr (by omega), hk w _ K (by simp)]; simp
theorem shr_pos (v : Int) (h : 0 ≤ v) (n : Nat) (h1 : 1 ≤ n) (h7 : n ≤ 7) (hv : v < 256 ^ n) : decide (IntKind.i64.wrap (8 * (n : Int)) < 0) = false ∧ decide (shrI .i64 v (IntKind.i64.wrap (8 * (n : Int))) > 0) = false := by
  rw [wr (by omega)]
  refine ⟨decide_eq_false (by omega), decide_eq_false ?_⟩
  unfold shrI
  have e1 : min (8 * (n : Int)).toNat IntKind.i64.bits = 8 * n := by
    have : IntKind.i64.bits = 64 := rfl
    omega
  rw [e1, Int.fdiv_eq_ediv_of_nonneg _ (by exact Int.le_of_lt (Int.pow_pos (by decide)))]
  have e2 : (2 : Int) ^ (8 * n) = 256 ^ n := by rw [Int.pow_mul]; rfl
  rw [e2, Int.ediv_eq_zero_of_lt h hv]
  decide
theorem f80_v (R : Type) {n : Nat} (h1 : 1 ≤ n) (h8 : n ≤ 8) : Ev fun k => ∀ (v : Int) (K : Int → List Int → Option R), 0 ≤ v → v < 9223372036854775808 → v < 256 ^ n → f80 k v (n : Int) K = K 0 (beB n v) := by
  refine (f96_v R (show n ≤ 1000 by omega)).imp fun k hk v K h0 hv hn => ?_
  have t1 : decide ((n : Int) < 1) = false := decide_eq_false (by omega)
  have t2 : decide ((n : Int) > 8) = false := decide_eq_false (by omega)
  have t3 : decide (v < 0) = false := decide_eq_false (by omega)
  simp only [f80, t1, t2, t3, cond_false]
  by_cases h7 : n < 8
  · obtain ⟨s1, s2⟩ := shr_pos v h0 n h1 (by omega) hn
    rw [deT (show (n : Int) < 8 by omega)]
    simp only [cond_true, s1, s2, cond_false, wrapU64 h0 (show v < 18446744073709551616 by omega), hk]
  · rw [deF (show ¬ (n : Int) < 8 by omega)]
    simp only [cond_false, wrapU64 h0 (show v < 18446744073709551616 by omega), hk]
theorem f57_v (R : Type) {n : Nat} (h1 : 1 ≤ n) (h8 : n ≤ 8) : Ev fun k => ∀ (v : Int) (K : List Int → Option R), 0 ≤ v → v < 9223372036854775808 → v < 256 ^ n → f57 k v (n : Int) K = K (beB n v) :=
  (f80_v R h1 h8).imp fun k hk v K h0 hv hn => by
    rw [f57, hk v _ h0 hv hn, roT (by rw [beB_len]; omega)]; rfl
abbrev n_movi : List Int := [109, 111, 118, 105]
abbrev n_frag : List Int := [102, 114, 97, 103]
abbrev n_trak : List Int := [116, 114, 97, 107]
abbrev n_mdia : List Int := [109, 100, 105, 97]
abbrev n_edts : List Int := [101, 100, 116, 115]
abbrev n_stbl : List Int := [115, 116, 98, 108]
abbrev n_prot : List Int := [112, 114, 111, 116]
abbrev n_udat : List Int := [117, 100, 97, 116]
abbrev n_tfrg : List Int := [116, 102, 114, 103]
abbrev n_meta : List Int := [109, 101, 116, 97]
abbrev n_item : List Int := [105, 116, 101, 109]
/-- The groups that a group may be in (empty: outermost); none: it is no group. -/
def par (nm : List Int) : Option (List (List Int)) :=
  if nm = n_movi then some [[]] else
  if nm = n_frag then some [[]] else
  if nm = n_trak then some [n_movi] else
  if nm = n_mdia then some [n_trak] else
  if nm = n_edts then some [n_trak] else
  if nm = n_stbl then some [n_mdia] else
  if nm = n_prot then some [n_mdia] else
  if nm = n_udat then some [n_movi, n_trak] else
  if nm = n_tfrg then some [n_frag] else
  if nm = n_meta then some [[], n_movi, n_trak] else
  if nm = n_item then some [n_meta] else
  none
def isG (nm : List Int) : Bool := (par nm).isSome
def may (nm p : List Int) : Bool := match par nm with
  | none => true
  | some l => l.any fun x => decide (x = p)
theorem str_cases (a : ByteArray) : a = (⟨#[109, 111, 118, 105]⟩ : ByteArray) ∨ a = (⟨#[102, 114, 97, 103]⟩ : ByteArray) ∨ a = (⟨#[116, 114, 97, 107]⟩ : ByteArray) ∨ a = (⟨#[109, 100, 105, 97]⟩ : ByteArray) ∨ a = (⟨#[101, 100, 116, 115]⟩ : ByteArray) ∨ a = (⟨#[115, 116, 98, 108]⟩ : ByteArray) ∨ a = (⟨#[112, 114, 111, 116]⟩ : ByteArray) ∨ a = (⟨#[117, 100, 97, 116]⟩ : ByteArray) ∨ a = (⟨#[116, 102, 114, 103]⟩ : ByteArray) ∨ a = (⟨#[109, 101, 116, 97]⟩ : ByteArray) ∨ a = (⟨#[105, 116, 101, 109]⟩ : ByteArray) ∨ ((a.toList == (⟨#[109, 111, 118, 105]⟩ : ByteArray).toList) = false ∧ (a.toList == (⟨#[102, 114, 97, 103]⟩ : ByteArray).toList) = false ∧ (a.toList == (⟨#[116, 114, 97, 107]⟩ : ByteArray).toList) = false ∧ (a.toList == (⟨#[109, 100, 105, 97]⟩ : ByteArray).toList) = false ∧ (a.toList == (⟨#[101, 100, 116, 115]⟩ : ByteArray).toList) = false ∧ (a.toList == (⟨#[115, 116, 98, 108]⟩ : ByteArray).toList) = false ∧ (a.toList == (⟨#[112, 114, 111, 116]⟩ : ByteArray).toList) = false ∧ (a.toList == (⟨#[117, 100, 97, 116]⟩ : ByteArray).toList) = false ∧ (a.toList == (⟨#[116, 102, 114, 103]⟩ : ByteArray).toList) = false ∧ (a.toList == (⟨#[109, 101, 116, 97]⟩ : ByteArray).toList) = false ∧ (a.toList == (⟨#[105, 116, 101, 109]⟩ : ByteArray).toList) = false) := by
  by_cases h_movi : bytesOf a = n_movi
  · have := str_inj (a := a) (b := (⟨#[109, 111, 118, 105]⟩ : ByteArray)) h_movi; subst this; simp
  by_cases h_frag : bytesOf a = n_frag
  · have := str_inj (a := a) (b := (⟨#[102, 114, 97, 103]⟩ : ByteArray)) h_frag; subst this; simp
  by_cases h_trak : bytesOf a = n_trak
  · have := str_inj (a := a) (b := (⟨#[116, 114, 97, 107]⟩ : ByteArray)) h_trak; subst this; simp
  by_cases h_mdia : bytesOf a = n_mdia
  · have := str_inj (a := a) (b := (⟨#[109, 100, 105, 97]⟩ : ByteArray)) h_mdia; subst this; simp
  by_cases h_edts : bytesOf a = n_edts
  · have := str_inj (a := a) (b := (⟨#[101, 100, 116, 115]⟩ : ByteArray)) h_edts; subst this; simp
  by_cases h_stbl : bytesOf a = n_stbl
  · have := str_inj (a := a) (b := (⟨#[115, 116, 98, 108]⟩ : ByteArray)) h_stbl; subst this; simp
  by_cases h_prot : bytesOf a = n_prot
  · have := str_inj (a := a) (b := (⟨#[112, 114, 111, 116]⟩ : ByteArray)) h_prot; subst this; simp
  by_cases h_udat : bytesOf a = n_udat
  · have := str_inj (a := a) (b := (⟨#[117, 100, 97, 116]⟩ : ByteArray)) h_udat; subst this; simp
  by_cases h_tfrg : bytesOf a = n_tfrg
  · have := str_inj (a := a) (b := (⟨#[116, 102, 114, 103]⟩ : ByteArray)) h_tfrg; subst this; simp
  by_cases h_meta : bytesOf a = n_meta
  · have := str_inj (a := a) (b := (⟨#[109, 101, 116, 97]⟩ : ByteArray)) h_meta; subst this; simp
  by_cases h_item : bytesOf a = n_item
  · have := str_inj (a := a) (b := (⟨#[105, 116, 101, 109]⟩ : ByteArray)) h_item; subst this; simp
  iterate 11 right
  exact ⟨by rw [str_beq]; exact decide_eq_false h_movi, by rw [str_beq]; exact decide_eq_false h_frag, by rw [str_beq]; exact decide_eq_false h_trak, by rw [str_beq]; exact decide_eq_false h_mdia, by rw [str_beq]; exact decide_eq_false h_edts, by rw [str_beq]; exact decide_eq_false h_stbl, by rw [str_beq]; exact decide_eq_false h_prot, by rw [str_beq]; exact decide_eq_false h_udat, by rw [str_beq]; exact decide_eq_false h_tfrg, by rw [str_beq]; exact decide_eq_false h_meta, by rw [str_beq]; exact decide_eq_false h_item⟩
theorem par_none {a : ByteArray} (h : (a.toList == (⟨#[109, 111, 118, 105]⟩ : ByteArray).toList) = false ∧ (a.toList == (⟨#[102, 114, 97, 103]⟩ : ByteArray).toList) = false ∧ (a.toList == (⟨#[116, 114, 97, 107]⟩ : ByteArray).toList) = false ∧ (a.toList == (⟨#[109, 100, 105, 97]⟩ : ByteArray).toList) = false ∧ (a.toList == (⟨#[101, 100, 116, 115]⟩ : ByteArray).toList) = false ∧ (a.toList == (⟨#[115, 116, 98, 108]⟩ : ByteArray).toList) = false ∧ (a.toList == (⟨#[112, 114, 111, 116]⟩ : ByteArray).toList) = false ∧ (a.toList == (⟨#[117, 100, 97, 116]⟩ : ByteArray).toList) = false ∧ (a.toList == (⟨#[116, 102, 114, 103]⟩ : ByteArray).toList) = false ∧ (a.toList == (⟨#[109, 101, 116, 97]⟩ : ByteArray).toList) = false ∧ (a.toList == (⟨#[105, 116, 101, 109]⟩ : ByteArray).toList) = false) : par (bytesOf a) = none := by
  obtain ⟨h_movi, h_frag, h_trak, h_mdia, h_edts, h_stbl, h_prot, h_udat, h_tfrg, h_meta, h_item⟩ := h
  rw [str_beq] at h_movi; replace h_movi : ¬ bytesOf a = n_movi := of_decide_eq_false h_movi
  rw [str_beq] at h_frag; replace h_frag : ¬ bytesOf a = n_frag := of_decide_eq_false h_frag
  rw [str_beq] at h_trak; replace h_trak : ¬ bytesOf a = n_trak := of_decide_eq_false h_trak
  rw [str_beq] at h_mdia; replace h_mdia : ¬ bytesOf a = n_mdia := of_decide_eq_false h_mdia
  rw [str_beq] at h_edts; replace h_edts : ¬ bytesOf a = n_edts := of_decide_eq_false h_edts
  rw [str_beq] at h_stbl; replace h_stbl : ¬ bytesOf a = n_stbl := of_decide_eq_false h_stbl
  rw [str_beq] at h_prot; replace h_prot : ¬ bytesOf a = n_prot := of_decide_eq_false h_prot
  rw [str_beq] at h_udat; replace h_udat : ¬ bytesOf a = n_udat := of_decide_eq_false h_udat
  rw [str_beq] at h_tfrg; replace h_tfrg : ¬ bytesOf a = n_tfrg := of_decide_eq_false h_tfrg
  rw [str_beq] at h_meta; replace h_meta : ¬ bytesOf a = n_meta := of_decide_eq_false h_meta
  rw [str_beq] at h_item; replace h_item : ¬ bytesOf a = n_item := of_decide_eq_false h_item
  unfold par
  rw [if_neg h_movi, if_neg h_frag, if_neg h_trak, if_neg h_mdia, if_neg h_edts, if_neg h_stbl, if_neg h_prot, if_neg h_udat, if_neg h_tfrg, if_neg h_meta, if_neg h_item]
theorem f59_v {R : Type} (k : Nat) (a : ByteArray) : ∃ s, ∀ (K : ByteArray → Bool → Option R), f59 k a K = K s (isG (bytesOf a)) := by
  rcases str_cases a with rfl | rfl | rfl | rfl | rfl | rfl | rfl | rfl | rfl | rfl | rfl | h
  · exact ⟨(⟨#[45]⟩ : ByteArray), fun K => by kernel_rfl⟩
  · exact ⟨(⟨#[45]⟩ : ByteArray), fun K => by kernel_rfl⟩
  · exact ⟨(⟨#[109, 111, 118, 105]⟩ : ByteArray), fun K => by kernel_rfl⟩
  · exact ⟨(⟨#[116, 114, 97, 107]⟩ : ByteArray), fun K => by kernel_rfl⟩
  · exact ⟨(⟨#[116, 114, 97, 107]⟩ : ByteArray), fun K => by kernel_rfl⟩
  · exact ⟨(⟨#[109, 100, 105, 97]⟩ : ByteArray), fun K => by kernel_rfl⟩
  · exact ⟨(⟨#[109, 100, 105, 97]⟩ : ByteArray), fun K => by kernel_rfl⟩
  · exact ⟨(⟨#[109, 111, 118, 105, 32, 116, 114, 97, 107]⟩ : ByteArray), fun K => by kernel_rfl⟩
  · exact ⟨(⟨#[102, 114, 97, 103]⟩ : ByteArray), fun K => by kernel_rfl⟩
  · exact ⟨(⟨#[45, 32, 109, 111, 118, 105, 32, 116, 114, 97, 107]⟩ : ByteArray), fun K => by kernel_rfl⟩
  · exact ⟨(⟨#[109, 101, 116, 97]⟩ : ByteArray), fun K => by kernel_rfl⟩
  · have hp := par_none h
    obtain ⟨h_movi, h_frag, h_trak, h_mdia, h_edts, h_stbl, h_prot, h_udat, h_tfrg, h_meta, h_item⟩ := h
    refine ⟨(⟨#[]⟩ : ByteArray), fun K => ?_⟩
    simp only [f59, h_movi, h_frag, h_trak, h_mdia, h_edts, h_stbl, h_prot, h_udat, h_tfrg, h_meta, h_item, cond_false, isG, hp]; rfl
theorem f60_v {R : Type} (k : Nat) (a : ByteArray) (K : List ByteArray → Option R) : f60 k a K = K (((par (bytesOf a)).getD []).map strOf) := by
  rcases str_cases a with rfl | rfl | rfl | rfl | rfl | rfl | rfl | rfl | rfl | rfl | rfl | h
  · kernel_rfl
  · kernel_rfl
  · kernel_rfl
  · kernel_rfl
  · kernel_rfl
  · kernel_rfl
  · kernel_rfl
  · kernel_rfl
  · kernel_rfl
  · kernel_rfl
  · kernel_rfl
  · have hp := par_none h
    obtain ⟨h_movi, h_frag, h_trak, h_mdia, h_edts, h_stbl, h_prot, h_udat, h_tfrg, h_meta, h_item⟩ := h
    simp only [f60, h_movi, h_frag, h_trak, h_mdia, h_edts, h_stbl, h_prot, h_udat, h_tfrg, h_meta, h_item, cond_false, hp]; rfl
def letter (c : Int) : Bool := (decide (97 ≤ c) && decide (c ≤ 122)) || (decide (48 ≤ c) && decide (c ≤ 57))
def isTy (l : List Int) : Bool := decide (l.length = 4) && l.all letter
theorem f53_v {R : Type} (k : Nat) (c : Int) (K : Bool → Option R) : f53 k c K = K (letter c) := by
  rw [f53, letter]
  by_cases h1 : 97 ≤ c
  · rw [deT (show c ≥ 97 from h1)]
    by_cases h2 : c ≤ 122
    · rw [deT h2]; rfl
    · rw [deF h2, deF (show ¬ c ≤ 57 by omega), deT (show c ≥ 48 by omega)]; rfl
  · rw [deF (show ¬ c ≥ 97 from h1)]
    by_cases h3 : 48 ≤ c
    · rw [deT (show c ≥ 48 from h3)]; simp
    · rw [deF (show ¬ c ≥ 48 from h3)]; simp
theorem four {l : List Int} (h : l.length = 4) : ∃ a b c d, l = [a, b, c, d] := by
  match l, h with
  | [a, b, c, d], _ => exact ⟨a, b, c, d, rfl⟩
theorem isTy_four (a b c d : Int) : isTy [a, b, c, d] = (letter a && (letter b && (letter c && letter d))) := by
  simp [isTy]
theorem f26_v (R : Type) (a : ByteArray) : Ev fun k => ∀ (K : Int → Int → Option R), f26 k a K = if isTy (bytesOf a) = true then K (valF (bytesOf a) 0) 0 else K 0 80 := by
  by_cases h4 : (bytesOf a).length = 4
  · obtain ⟨x, y, z, u, hl⟩ := four h4
    have hb := okBy_bytesOf a
    have hs : a.size = 4 := by rw [← bytesOf_len]; exact h4
    have h54 := f54_v R (bytesOf a) hb (by rw [h4]; omega) (n := 4) (by decide) (by decide) (by omega)
    have hn : num (bytesOf a) 4 = valF (bytesOf a) 0 := by rw [num_small hb (by omega) (by decide), List.take_of_length_le (by omega)]
    refine h54.imp fun k h54 K => ?_
    have e4 : ((4 : Nat) : Int) = 4 := rfl
    rw [hn, e4] at h54
    have g0 := str_get a 0
    have g1 := str_get a 1
    have g2 := str_get a 2
    have g3 := str_get a 3
    rw [hl] at g0 g1 g2 g3
    simp only [List.getD_cons_zero, List.getD_cons_succ] at g0 g1 g2 g3
    rw [f26, hs]
    have i0 : inb 0 4 = true := rfl
    have i1 : inb 1 4 = true := rfl
    have i2 : inb 2 4 = true := rfl
    have i3 : inb 3 4 = true := rfl
    rw [bnF (show ((4 : Nat) : Int) = 4 from rfl)]
    simp only [cond_false, i0, i1, i2, i3, cond_true, f53_v, g0, g1, g2, g3, h54]
    rw [hl, isTy_four]
    cases letter x with
    | false => rfl
    | true => cases letter y with
      | false => rfl
      | true => cases letter z with
        | false => rfl
        | true => cases letter u <;> rfl
  · refine .all fun k K => ?_
    have hs : ¬ (a.size : Int) = 4 := by rw [← bytesOf_len]; omega
    have ht : isTy (bytesOf a) = false := by simp [isTy, h4]
    rw [f26, bnT hs, ht]; rfl
theorem f55_loop (R : Type) (l : List Int) (hb : l.length ≤ reachBytes) : ∀ i, i ≤ l.length → Ev fun k => ∀ (X0 : List Int → Option R) (X1 : Bool → Option R), f55_l2 k l (i : Int) X0 X1 = if (l.drop i).all letter = true then X0 l else X1 false := by
  rw [reachV] at hb
  refine Ev.down l.length ?_ ?_
  · refine Ev.suc (.all fun k X0 X1 => ?_)
    rw [f55_l2, lt_nat, List.drop_length]; simp
  · intro i hi h
    refine Ev.suc (h.imp fun k hk X0 X1 => ?_)
    rw [f55_l2, lt_nat, inb_nat, wrapSuc (by omega), List.drop_eq_getElem_cons hi, List.all_cons]
    simp only [hi, decide_true, cond_true, Int.toNat_natCast, getD_get hi, hk]
    have f : ∀ {p q : Bool} {x y : Option R}, (if (p && q) = true then x else y) = bif p then (if q = true then x else y) else y := by
      intro p q x y; cases p <;> rfl
    rw [f, letter]
    by_cases h1 : 97 ≤ l[i]
    · rw [deT (show l[i] ≥ 97 from h1)]
      by_cases h2 : l[i] ≤ 122
      · rw [deT h2]; rfl
      · rw [deF h2, deF (show ¬ l[i] ≤ 57 by omega), deT (show l[i] ≥ 48 by omega)]; rfl
    · rw [deF (show ¬ l[i] ≥ 97 from h1)]
      by_cases h3 : 48 ≤ l[i]
      · rw [deT (show l[i] ≥ 48 from h3)]
        by_cases h4 : l[i] ≤ 57
        · rw [deT h4]; rfl
        · rw [deF h4]; rfl
      · rw [deF (show ¬ l[i] ≥ 48 from h3)]; rfl
theorem f55_v (R : Type) (l : List Int) (hb : l.length ≤ reachBytes) : Ev fun k => ∀ (K : Bool → Option R), f55 k l K = K (isTy l) := by
  refine (f55_loop R l hb 0 (Nat.zero_le _)).imp fun k hk K => ?_
  have hk := hk (fun v3 => K ((v3.length : Int) == 4)) K
  simp only [Int.natCast_zero, List.drop_zero] at hk
  rw [f55, hk, isTy]
  cases l.all letter with
  | false => simp
  | true =>
    rw [if_pos rfl, beq_dec, Bool.and_true]
    congr 1
    exact decide_eq_decide.2 (by omega)
theorem f56_loop (R : Type) (l : List Int) (hl : okBy l) (h7 : l.length ≤ 7) : ∀ i, i ≤ l.length → Ev fun k => ∀ (v : Int) (X : Int → Option R), 0 ≤ v → v < 256 ^ i → f56_l3 k l v (i : Int) X = X (valF (l.drop i) v) := by
  refine Ev.down l.length ?_ ?_
  · exact Ev.suc (.all fun k v X _ _ => by simp [f56_l3, valF])
  · intro i hi h
    refine Ev.suc (h.imp fun k hk v X h0 h1 => ?_)
    have hc := hl.get hi
    have hp : (256 : Int) ^ i ≤ 281474976710656 := by
      have h2 : (256 : Nat) ^ i ≤ 281474976710656 := Nat.le_trans (Nat.pow_le_pow_right (by decide) (show i ≤ 6 by omega)) (by decide)
      have e : ((256 ^ i : Nat) : Int) = (256 : Int) ^ i := Int.natCast_pow 256 i
      omega
    rw [f56_l3, lt_nat, inb_nat, wrapSuc (by omega)]
    simp only [hi, decide_true, cond_true, Int.toNat_natCast, getD_get hi]
    rw [wr (n := l[i]) (by omega), wr (n := v * 256) (by omega), wr (by omega)]
    have hv : v * 256 + l[i] < 256 ^ (i + 1) := by
      rw [Int.pow_succ]; omega
    rw [hk _ X (by omega) hv, List.drop_eq_getElem_cons hi, valF_cons]
theorem f56_v (R : Type) (l : List Int) (hl : okBy l) (h7 : l.length ≤ 7) : Ev fun k => ∀ (K : Int → Option R), f56 k l K = K (valF l 0) := by
  refine (f56_loop R l hl h7 0 (Nat.zero_le _)).imp fun k hk K => ?_
  have hk := hk 0 K (by omega) (by decide)
  simp only [Int.natCast_zero, List.drop_zero] at hk
  rw [f56, hk]
theorem f27_v (R : Type) (a : ByteArray) (hb : a.size ≤ reachBytes) : Ev fun k => ∀ (K : Int → Int → Option R), f27 k a K = if isTy (bytesOf a) = true then K (valF (bytesOf a) 0) 0 else K 0 80 := by
  have h55 := f55_v R (bytesOf a) (by rw [bytesOf_len]; exact hb)
  by_cases h : isTy (bytesOf a) = true
  · have h4 : (bytesOf a).length = 4 := by
      simp only [isTy, Bool.and_eq_true, decide_eq_true_eq] at h; exact h.1
    refine h55.imp2 (f56_v R (bytesOf a) (okBy_bytesOf a) (by omega)) fun k h1 h2 K => ?_
    rw [f27, h1, h2, if_pos h, h]; rfl
  · refine h55.imp fun k h1 K => ?_
    rw [f27, h1, if_neg h, Bool.eq_false_iff.2 h]; rfl
/-- The letters of a number. -/
def okId (id : Int) : Bool := decide (0 ≤ id) && decide (id < 4294967296) && isTy (beB 4 id)
theorem f28_v (R : Type) (id : Int) : Ev fun k => ∀ (K : ByteArray → Int → Option R), f28 k id K = if okId id = true then K (strOf (beB 4 id)) 0 else K (⟨#[]⟩ : ByteArray) 80 := by
  refine (f57_v R (n := 4) (by decide) (by decide)).imp2 (f26_v R (strOf (beB 4 id))) fun k h57 h26 K => ?_
  have e4 : ((4 : Nat) : Int) = 4 := rfl
  have p4 : (256 : Int) ^ 4 = 4294967296 := by decide
  rw [e4, p4] at h57
  rw [bytesOf_strOf (beB_ok 4 id)] at h26
  rw [f28, okId]
  by_cases c1 : id < 0
  · rw [deT c1, deF (show ¬ 0 ≤ id by omega)]; rfl
  · rw [deF c1, cond_false, deT (show 0 ≤ id by omega)]
    by_cases c2 : id > 4294967295
    · rw [deT c2, deF (show ¬ id < 4294967296 by omega)]; rfl
    · rw [deF c2, cond_false, deT (show id < 4294967296 by omega), h57 id _ (by omega) (by omega) (by omega), h26]
      cases isTy (beB 4 id) <;> rfl
theorem shrA (w : Int) (n : Nat) (h : n ≤ 3) : shrI .i64 w (8 * (n : Int)) = w / 256 ^ n := by
  unfold shrI
  have e1 : min (8 * (n : Int)).toNat IntKind.i64.bits = 8 * n := by
    have : IntKind.i64.bits = 64 := rfl
    omega
  rw [e1, Int.fdiv_eq_ediv_of_nonneg _ (by exact Int.le_of_lt (Int.pow_pos (by decide)))]
  have e2 : (2 : Int) ^ (8 * n) = 256 ^ n := by rw [Int.pow_mul]; rfl
  rw [e2]
theorem f58_v {R : Type} (k : Nat) (id : Int) (K : List Int → Option R) : f58 k id K = K (beB 4 id) := by
  rw [f58]
  have h1 := shrA id 1 (by decide)
  have h2 := shrA id 2 (by decide)
  have h3 := shrA id 3 (by decide)
  have e1 : (8 * ((1 : Nat) : Int)) = 8 := rfl
  have e2 : (8 * ((2 : Nat) : Int)) = 16 := rfl
  have e3 : (8 * ((3 : Nat) : Int)) = 24 := rfl
  rw [e1] at h1; rw [e2] at h2; rw [e3] at h3
  rw [h1, h2, h3, wrapU8, wrapU8, wrapU8, wrapU8]
  congr 1
  have p2 : (256 : Int) ^ 2 = 256 * 256 := by decide
  have p3 : (256 : Int) ^ 3 = 256 * 256 * 256 := by decide
  rw [p2, p3, Int.pow_one, ← Int.ediv_ediv_of_nonneg (by decide), ← Int.ediv_ediv_of_nonneg (by decide)]
  rfl
theorem f29_v (R : Type) (id : Int) : Ev fun k => ∀ (K : ByteArray → Int → Option R), f29 k id K = if okId id = true then K (strOf (beB 4 id)) 0 else K (⟨#[]⟩ : ByteArray) 80 := by
  refine (f55_v R (beB 4 id) (by rw [beB_len, reachV]; omega)).imp fun k h55 K => ?_
  rw [f29, okId]
  by_cases c1 : id < 0
  · rw [deT c1, deF (show ¬ 0 ≤ id by omega)]; rfl
  · rw [deF c1, cond_false, deT (show 0 ≤ id by omega)]
    by_cases c2 : id ≥ 4294967296
    · rw [deT c2, deF (show ¬ id < 4294967296 by omega)]; rfl
    · rw [deF c2, cond_false, deT (show id < 4294967296 by omega), f58_v, h55]
      cases isTy (beB 4 id) with
      | false => rfl
      | true => simp only [Bool.not_true, cond_false, f58_v]; rfl
/-- Whether a number is that of a group. -/
def grp (id : Int) : Bool := okId id && isG (beB 4 id)
theorem f30_v (R : Type) (id : Int) : Ev fun k => ∀ (K : Bool → Option R), f30 k id K = K (grp id) := by
  refine (f28_v R id).imp fun k h28 K => ?_
  rw [f30, h28, grp]
  by_cases c : okId id = true
  · obtain ⟨s, hs⟩ := f59_v (R := R) k (strOf (beB 4 id))
    rw [if_pos c, hs, bytesOf_strOf (beB_ok 4 id), c]; rfl
  · obtain ⟨s, hs⟩ := f59_v (R := R) k (⟨#[]⟩ : ByteArray)
    rw [if_neg c, hs, Bool.eq_false_iff.2 c]; rfl
theorem par_ne {nm : List Int} {l : List (List Int)} (h : par nm = some l) : 0 < l.length := by
  unfold par at h
  repeat (split at h; · simp at h; subst h; decide)
  simp at h
theorem f31_v (R : Type) (id : Int) : Ev fun k => ∀ (K : Bool → Option R), f31 k id K = K (grp id) := by
  refine (f29_v R id).imp fun k h29 K => ?_
  rw [f31, h29, grp]
  by_cases c : okId id = true
  · rw [if_pos c, beT rfl, cond_true, f60_v, bytesOf_strOf (beB_ok 4 id), c, Bool.true_and, isG]
    cases hp : par (beB 4 id) with
    | none => rfl
    | some l =>
      have := par_ne hp
      rw [deT (by simp; omega)]; rfl
  · rw [if_neg c, Bool.eq_false_iff.2 c]; rfl
theorem boxNames_plain (s : ByteArray) (hs : s.size ≤ reachBytes) (id : Int) : ∃ k, f6 (R := Bool) k s id some = some true := by
  refine Ev.some (p := fun k => f6 (R := Bool) k s id some = some true) ?_
  refine ((f26_v Bool s).and (f27_v Bool s hs)).imp4 ((f28_v Bool id).and (f29_v Bool id)) ((f30_v Bool id).and (f31_v Bool id)) (awake_v Bool) fun k h1 h2 h3 h4 => ?_
  obtain ⟨h26, h27⟩ := h1
  obtain ⟨h28, h29⟩ := h2
  obtain ⟨h30, h31⟩ := h3
  rw [f6, h26]
  have fin : ∀ (v e : Int), (f28 k id fun v5 v6 => f29 k id fun v7 v8 =>
     bif (v == v) then bif (e == e) then bif (v5.toList == v7.toList) then bif (v6 == v8) then f30 k id (fun v9 => f31 k id (fun v10 => bif (v9 == v10) then f20 k some else some false)) else some false else some false else some false else some false) = some true := by
    intro v e
    rw [h28]
    by_cases c : okId id = true
    · rw [if_pos c, h29, if_pos c]
      simp [h30, h31, h4]
    · rw [if_neg c, h29, if_neg c]
      simp [h30, h31, h4]
  by_cases c : isTy (bytesOf s) = true
  · rw [if_pos c, h27, if_pos c]; exact fin _ _
  · rw [if_neg c, h27, if_neg c]; exact fin _ _
theorem ownKn : ownKnob Tryd.prog.godebug = none := by kernel_rfl
theorem laidOut : laidOutB Tryd.prog = true := by kernel_rfl
noncomputable def naming : Naming cx where
  flds := flds
  toT := toT
  ofT := ofT
  plain := fun r => match r with
    | 0 => rfl
    | 1 => rfl
    | 2 => rfl
    | 3 => rfl
    | 4 => rfl
    | 5 => rfl
    | 6 => rfl
    | _n + 7 => rfl
  to_of := fun r x => match r, x with
    | 0, _ => rfl
    | 1, _ => rfl
    | 2, _ => rfl
    | 3, _ => rfl
    | 4, _ => rfl
    | 5, _ => rfl
    | 6, _ => rfl
    | _n + 7, _ => rfl
  deep := fun r v => match r, v with
    | 0, _ => rfl
    | 1, v => deep1_eq v
    | 2, _ => rfl
    | 3, _ => rfl
    | 4, _ => rfl
    | 5, _ => rfl
    | 6, _ => rfl
    | _n + 7, _ => rfl
theorem fit : Fit naming Tryd.prog := fit_of (tab := tab) rfl (by kernel_rfl)
theorem gErr : Tryd.prog.globalNamed "errors.errorType" = some 0 := by kernel_rfl
theorem gTab : Tryd.prog.globalNamed "strings.asciiSpace" = some 1 := by kernel_rfl
theorem gTabType : (Tryd.prog.globals[1]?).map (·.type) = some 145 := by kernel_rfl
theorem cells145 : Tryd.prog.cellsOf 145 = 256 := by kernel_rfl
theorem cells5 : Tryd.prog.cellsOf 5 = 1 := by kernel_rfl
theorem rt149 : (Tryd.prog.cutTypes.find? (·.1 == "internal/reflectlite.rtype")).map (·.2) = some 149 := by kernel_rfl
theorem oneRow : ((List.range 209).filter fun t => Tryd.prog.rowNamed t [101, 114, 114, 111, 114]) = [108] := by kernel_rfl
theorem nTypes : Tryd.prog.types.size = 209 := by kernel_rfl
def laidL : List (String × DataW Unit) := [("errors.errorType", Rows.laid_errors_errorType), ("unicode.White_Space", Rows.laid_unicode_White_Space), ("strings.asciiSpace", Rows.laid_strings_asciiSpace)]
theorem tabData_eq : (Rows.laid_strings_asciiSpace : DataW Unit) = Lib.tabData .u8 asciiTab := by kernel_rfl
theorem laid_parts {W : World} (h : laidMetH Tryd.prog laidL W) : laidMet Tryd.prog [("unicode.White_Space", Rows.laid_unicode_White_Space), ("strings.asciiSpace", Rows.laid_strings_asciiSpace)] W ∧ handlesMet Tryd.prog [("errors.errorType", Rows.laid_errors_errorType)] W := h
theorem handle_of_laid {W : World} (h : laidMetH Tryd.prog laidL W) : W.cell? ⟨0, 0, none⟩ = some (.iface 149 (.agg #[.pointer (some ⟨4, 108, none⟩)])) := by
  obtain ⟨name, u, ty, e1, e2, e3, e4, e5⟩ := (laid_parts h).2 _ (List.mem_singleton.2 rfl)
  have en : name = [101, 114, 114, 111, 114] := (Option.some.inj e1).symm
  subst en
  obtain rfl := Option.some.inj (rt149.symm.trans e2)
  have hm : ty ∈ (List.range 209).filter fun t => Tryd.prog.rowNamed t [101, 114, 114, 111, 114] := List.mem_filter.2 ⟨List.mem_range.2 (by rw [← nTypes]; exact e3), e4⟩
  rw [oneRow] at hm
  obtain rfl := List.mem_singleton.1 hm
  have hh : typeHandle Tryd.prog 108 = .pointer (some ⟨4, 108, none⟩) := by kernel_rfl
  rw [hh] at e5
  simpa using World.var?_cell gErr e5 0
theorem tab_of_laid {W : World} (h : laidMetH Tryd.prog laidL W) : Lib.TabIs Tryd.prog W "strings.asciiSpace" .u8 asciiTab := by
  obtain ⟨ps, ⟨g', t', cs, fuel, p, q, hg', ht', hvar, hd, ⟨g2, t2, cs2, fuel2, p2, q2, hg2, ht2, hvar2, hd2, _, _⟩, _⟩, _⟩ := (laid_parts h).1
  obtain rfl := Option.some.inj (gTab.symm.trans hg2)
  obtain rfl := Option.some.inj (gTabType.symm.trans ht2)
  unfold Lib.TabIs
  rw [tabData_eq] at hd2
  rw [hvar2, ← Lib.cells_of_tab Tryd.underlying145 Tryd.underlying5 cells5 cells145 hd2]
theorem ginv {W : World} (h : laidMetH Tryd.prog laidL W) : GInv cx (fun b => b < W.heap.size) W := by
  have hh := handle_of_laid h
  have ht := tab_of_laid h
  have hcell : ∀ i, i < 256 → W.cell? ⟨1, i, none⟩ = some (.int .u8 (asciiTab.getD i 0)) := fun i hi => ht.cell gTab i hi
  have lt : ∀ (b : Nat) (v : Value), W.cell? ⟨b, 0, none⟩ = some v → b < W.heap.size := by
    intro b v hv
    by_cases hb : b < W.heap.size
    · exact hb
    · have h0 : W.heap[b]? = none := Array.getElem?_eq_none (by omega)
      simp [World.cell?, h0] at hv
  refine ⟨fun g => ?_, fun p hp => ?_⟩
  · by_cases hg : g = 1
    · subst hg
      refine ⟨rfl, ?_⟩
      show PRep cx _ _ _ W (.lelem (.int .u8) asciiTab 0 0) _
      have hl : asciiTab.length = 256 := rfl
      refine ⟨by rw [hl]; omega, ⟨1, 0, none⟩, 256, ?_, rfl⟩
      have hm : (asciiTab.map (deep cx (.int .u8))).length = 256 := by rw [List.length_map, hl]
      have : Rep (fun b => b < W.heap.size) W (.slice (some ⟨1, 0, none⟩) (asciiTab.map (deep cx (.int .u8))).length 256) (.list 1 (asciiTab.map (deep cx (.int .u8)))) := by
        refine .list (fun i j => .int .u8 (asciiTab.getD i 0)) (by rw [hm]; exact Nat.le_refl _) (fun _ => lt 1 _ (hcell 0 (by omega))) (fun i l j x h1 h2 => ?_) (fun i l j x h1 h2 => ?_)
        · have hi : i < 256 := by have := (List.getElem?_eq_some_iff.1 h1).1; omega
          have hj : j = 0 := by
            simp only [List.getElem?_map, Option.map_eq_some_iff] at h1
            obtain ⟨y, _, rfl⟩ := h1
            have := (List.getElem?_eq_some_iff.1 h2).1
            simp [deep] at this; exact this
          subst hj
          have e : (⟨1, 0, none⟩ : Addr).add (i * 1 + 0) = ⟨1, i, none⟩ := by rw [add_at]; simp
          rw [e]; exact hcell i hi
        · have hi : i < asciiTab.length := by have := (List.getElem?_eq_some_iff.1 h1).1; rw [hl]; omega
          simp only [List.getElem?_map, Option.map_eq_some_iff] at h1
          obtain ⟨y, hy, rfl⟩ := h1
          have hj : j = 0 := by
            have := (List.getElem?_eq_some_iff.1 h2).1
            simp [deep] at this; exact this
          subst hj
          simp [deep] at h2
          subst h2
          have : asciiTab.getD i 0 = y := by simp [List.getD, hy]
          rw [this]; exact .int
      rw [hm] at this
      exact this
    · have e : cx.gv g = .undef := by
        show gvs g = _
        have : Nat.beq g 1 = false := by rw [Bool.eq_false_iff]; intro hb; exact hg (Nat.eq_of_beq_eq_true hb)
        simp [gvs, this]
      rw [e]; exact ⟨rfl, trivial⟩
  · have hp : p ∈ gcs := hp
    simp only [gcs, List.mem_singleton] at hp
    subst hp
    exact ⟨lt 0 _ hh, hh⟩
/-- A world in which they lie so. -/
noncomputable def laidWorld (os : Os) : World :=
  { World.holding Tryd.prog os ⟨#[], #[], []⟩ with heap := (((((World.holding Tryd.prog os ⟨#[], #[], []⟩).heap.modify 0 fun
      | .cells _ t frozen => .cells #[.iface 149 (.agg #[.pointer (some ⟨4, 108, none⟩)])] t frozen
      | o => o).modify 1 fun
      | .cells _ t frozen => .cells (asciiTab.map fun n => Value.int .u8 n).toArray t frozen
      | o => o).modify 2 fun
      | .cells _ t frozen => .cells #[.pointer (some ⟨9, 0, none⟩)] t frozen
      | o => o).push (.cells #[.slice (some ⟨10, 0, none⟩) 7 7, .slice none 0 0, .int .i64 2] 171)).push (.cells (([9, 13, 1, 32, 133, 101, 160, 5760, 5600, 8192, 8202, 1, 8232, 8233, 1, 8239, 8287, 48, 12288, 12288, 1] : List Int).map fun n => Value.int .u16 n).toArray 174) }
theorem wf_str {s : ByteArray} (h : WfIV (.str s)) : s.size ≤ reachBytes := by
  cases h with
  | str h => exact h
end Go.Proofs.YtehmahdngjdhpaaDoor
