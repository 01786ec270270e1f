/- Proved: the plain laws of BoxFull. Conditions: none. -/
import Derived.Test.YtehmahdngjdhpaaDoorBxWalk1
import Derived.Test.YtehmahdngjdhpaaDoorRows
import Derived.Test.YtehmahdngjdhpaaDoorCards
import Derived.Test.YtehmahdngjdhpaaDoorTie
import Derived.JoinedOf
import Derived.Lib.LaidTab
import Derived.LaidLaws
import Derived.LaidHandle
import Derived.Stop.Joined

set_option maxRecDepth 100000
namespace Go.Proofs.YtehmahdngjdhpaaDoor
open Go Go.Am
theorem awake_v (R : Type) : Ev fun k => ∀ (K : Bool → Option R), f20 k K = K true := by
  refine .plus 40 (.all fun k K => ?_)
  kernel_rfl
theorem D1.ind {P : D1 → Prop} (h : ∀ i d ks g, (∀ x ∈ ks, P x) → P (.mk i d ks g)) : ∀ n, P n := by
  intro n
  refine D1.rec (motive_1 := P) (motive_2 := fun l => ∀ x ∈ l, P x) (fun i d ks g ih => h i d ks g ih) (by simp) (fun a l ha hl => ?_) n
  intro x hx
  rcases List.mem_cons.1 hx with rfl | hx
  · exact ha
  · exact hl x hx
/-- A tree as it lies in memory. -/
inductive OkN : D1 → Prop
  | mk {i : Int} {d : List Int} {ks : List D1} {g : Bool} : -9223372036854775808 ≤ i ∧ i < 9223372036854775808 → okBy d → d.length ≤ reachBytes → ks.length * 64 ≤ reachBytes → (∀ x ∈ ks, OkN x) → OkN (.mk i d ks g)
def OkL (l : List D1) : Prop := l.length * 64 ≤ reachBytes ∧ ∀ x ∈ l, OkN x
theorem OkN.by {n : D1} (h : OkN n) : okBy n.c1 := by cases h; assumption
theorem OkN.len {n : D1} (h : OkN n) : n.c1.length ≤ reachBytes := by cases h; assumption
theorem f79_loop (R : Type) (l : List Int) (hl : okBy l) (h8 : l.length ≤ 8) : ∀ i, i ≤ l.length → Ev fun k => ∀ (v : Int) (X : Int → Option R), 0 ≤ v → v < 256 ^ i → f79_l7 k v l (l.length : Int) (i : Int) X = X (valF (l.drop i) v) := by
  refine Ev.down l.length ?_ ?_
  · exact Ev.suc (.all fun k v X _ _ => by simp [f79_l7, valF])
  · intro i hi h
    refine Ev.suc (h.imp fun k hk v X h0 h1 => ?_)
    have hc := hl.get hi
    have hp : (256 : Int) ^ i ≤ 72057594037927936 := by
      have h2 : (256 : Nat) ^ i ≤ 72057594037927936 := Nat.le_trans (Nat.pow_le_pow_right (by decide) (show i ≤ 7 by omega)) (by decide)
      have e : ((256 ^ i : Nat) : Int) = (256 : Int) ^ i := Int.natCast_pow 256 i
      omega
    have ho := or_byteU h0 (by omega) hc.1 hc.2
    rw [f79_l7, lt_nat, inb_nat, wrapSuc (by omega)]
    simp only [hi, decide_true, cond_true, Int.toNat_natCast, getD_get hi, ho]
    have hv : v * 256 + l[i] < 256 ^ (i + 1) := by
      rw [Int.pow_succ]; omega
    rw [hk _ X (by omega) hv, List.drop_eq_getElem_cons hi, valF_cons]
/-- The number of the first bytes; one too great counts as the greatest. -/
def num (b : List Int) (n : Nat) : Int := if 9223372036854775807 < valF (b.take n) 0 then 9223372036854775807 else valF (b.take n) 0
theorem val_bound {b : List Int} (hb : okBy b) {n : Nat} (h : n ≤ b.length) : 0 ≤ valF (b.take n) 0 ∧ valF (b.take n) 0 < 256 ^ n := by
  have := valF_bound (hb.take n) 0
  have e : (b.take n).length = n := by simp; omega
  rw [e] at this
  omega
theorem num_small {b : List Int} (hb : okBy b) {n : Nat} (h : n ≤ b.length) (h7 : n ≤ 7) : num b n = valF (b.take n) 0 := by
  have := (val_bound hb h).2
  have h2 : (256 : Nat) ^ n ≤ 72057594037927936 := Nat.le_trans (Nat.pow_le_pow_right (by decide) h7) (by decide)
  have e : ((256 ^ n : Nat) : Int) = (256 : Int) ^ n := Int.natCast_pow 256 n
  unfold num
  rw [if_neg (by omega)]
theorem f54_v (R : Type) (b : List Int) (hb : okBy b) (hl : b.length ≤ 140737488355328) {n : Nat} (h1 : 1 ≤ n) (h8 : n ≤ 8) (h : n ≤ b.length) : Ev fun k => ∀ (K : Int → Option R), f54 k b (n : Int) K = K (num b n) := by
  have el : (b.take n).length = n := by simp; omega
  refine (f79_loop R (b.take n) (hb.take n) (by omega) 0 (by omega)).imp fun k hk K => ?_
  have t1 : decide ((n : Int) < 1) = false := decide_eq_false (by omega)
  have t2 : decide ((n : Int) > 8) = false := decide_eq_false (by omega)
  have t4 : decide ((0 : Int) > (b.length : Int)) = false := decide_eq_false (by omega)
  have w1 : IntKind.i64.wrap ((b.length : Int) - 0) = (b.length : Int) := by rw [wrap64 (by omega) (by omega)]; omega
  have w2 : IntKind.i64.wrap ((0 : Int) + (n : Int)) = (n : Int) := by rw [wrap64 (by omega) (by omega)]; omega
  have t5 : decide ((b.length : Int) < (n : Int)) = false := decide_eq_false (by omega)
  have t7 : decide ((0 : Int) ≤ (n : Int)) = true := decide_eq_true (by omega)
  simp only [Int.natCast_zero, List.drop_zero] at hk
  simp only [f54, f79, t1, t2, t4, w1, w2, t5, t7, cond_false, upto_nat, h, decide_true, Bool.and_self, cond_true, Int.toNat_natCast, Int.toNat_zero, List.drop_zero, Int.lt_irrefl, decide_false]
  rw [hk 0 _ (by omega) (by decide)]
  have hbd := val_bound hb h
  unfold num
  by_cases hx : 9223372036854775807 < valF (b.take n) 0
  · rw [if_pos hx, decide_eq_true (show valF (b.take n) 0 > 9223372036854775807 from hx)]; rfl
  · rw [if_neg hx, decide_eq_false (show ¬ valF (b.take n) 0 > 9223372036854775807 from hx), wrap64 (by omega) (by omega)]; rfl
theorem f96_loop (R : Type) : ∀ n, n ≤ 1000 → Ev fun k => ∀ (w : Int) (out : List Int) (X : List Int → Option R), n ≤ out.length → f96_l3 k w ((n : Int) - 1) out X = X (beB n w ++ out.drop n)
  | 0, _ => .suc (.all fun k w out X _ => by
    rw [f96_l3, deF (by omega)]; simp [beB])
  | n + 1, hn => by
    refine .suc ((f96_loop R n (by omega)).imp fun k hk w out X ho => ?_)
    have e : ((n + 1 : Nat) : Int) - 1 = (n : Int) := by omega
    rw [e, f96_l3, inb_nat, wr (by omega), wrapU8, shr8]
    simp only [deT (show (n : Int) ≥ 0 by omega), show n < out.length by omega, decide_true, cond_true, Int.toNat_natCast]
    rw [hk _ _ X (by simp; omega), set_drop (by omega), beB, List.append_assoc]; rfl
theorem f96_v (R : Type) {n : Nat} (hn : n ≤ 1000) : Ev fun k => ∀ (w : Int) (K : List Int → Option R), f96 k w (n : Int) K = K (beB n w) :=
  (f96_loop R n hn).imp fun k hk w K => by
    simp only [f96, mk_ok (show n ≤ 140737488355328 by omega), cond_true, Int.toNat_natCast]
    rw [wr (by omega), hk w _ K (by simp)]; simp
theorem f52_loop (R : Type) : ∀ n, n ≤ 1000 → Ev fun k => ∀ (w : Int) (out : List Int) (X : List Int → Option R), n ≤ out.length → f52_l3 k w ((n : Int) - 1) out X = X (beB n w ++ out.drop n)
  | 0, _ => .suc (.all fun k w out X _ => by
    rw [f52_l3, deF (by omega)]; simp [beB])
  | n + 1, hn => by
    refine .suc ((f52_loop R n (by omega)).imp fun k hk w out X ho => ?_)
    have e : ((n + 1 : Nat) : Int) - 1 = (n : Int) := by omega
    rw [e, f52_l3, inb_nat, wr (by omega), wrapU8, shr8i]
    simp only [deT (show (n : Int) ≥ 0 by omega), show n < out.length by omega, decide_true, cond_true, Int.toNat_natCast]
    rw [hk _ _ X (by simp; omega), set_drop (by omega), beB, List.append_assoc]; rfl
theorem f52_v (R : Type) {n : Nat} (hn : n ≤ 1000) : Ev fun k => ∀ (w : Int) (K : List Int → Option R), f52 k w (n : Int) K = K (beB n w) :=
  (f52_loop R n hn).imp fun k hk w K => by
    simp only [f52, mk_ok (show n ≤ 140737488355328 by omega), cond_true, Int.toNat_natCast]
    rw [wr (by omega), hk w _ K (by simp)]; simp
theorem shr_pos (v : Int) (h : 0 ≤ v) (n : Nat) (h1 : 1 ≤ n) (h7 : n ≤ 7) (hv : v < 256 ^ n) : decide (IntKind.i64.wrap (8 * (n : Int)) < 0) = false ∧ decide (shrI .i64 v (IntKind.i64.wrap (8 * (n : Int))) > 0) = false := by
  rw [wr (by omega)]
  refine ⟨decide_eq_false (by omega), decide_eq_false ?_⟩
  unfold shrI
  have e1 : min (8 * (n : Int)).toNat IntKind.i64.bits = 8 * n := by
    have : IntKind.i64.bits = 64 := rfl
    omega
  rw [e1, Int.fdiv_eq_ediv_of_nonneg _ (by exact Int.le_of_lt (Int.pow_pos (by decide)))]
  have e2 : (2 : Int) ^ (8 * n) = 256 ^ n := by rw [Int.pow_mul]; rfl
  rw [e2, Int.ediv_eq_zero_of_lt h hv]
  decide
theorem f80_v (R : Type) {n : Nat} (h1 : 1 ≤ n) (h8 : n ≤ 8) : Ev fun k => ∀ (v : Int) (K : Int → List Int → Option R), 0 ≤ v → v < 9223372036854775808 → v < 256 ^ n → f80 k v (n : Int) K = K 0 (beB n v) := by
  refine (f96_v R (show n ≤ 1000 by omega)).imp fun k hk v K h0 hv hn => ?_
  have t1 : decide ((n : Int) < 1) = false := decide_eq_false (by omega)
  have t2 : decide ((n : Int) > 8) = false := decide_eq_false (by omega)
  have t3 : decide (v < 0) = false := decide_eq_false (by omega)
  simp only [f80, t1, t2, t3, cond_false]
  by_cases h7 : n < 8
  · obtain ⟨s1, s2⟩ := shr_pos v h0 n h1 (by omega) hn
    rw [deT (show (n : Int) < 8 by omega)]
    simp only [cond_true, s1, s2, cond_false, wrapU64 h0 (show v < 18446744073709551616 by omega), hk]
  · rw [deF (show ¬ (n : Int) < 8 by omega)]
    simp only [cond_false, wrapU64 h0 (show v < 18446744073709551616 by omega), hk]
theorem f57_v (R : Type) {n : Nat} (h1 : 1 ≤ n) (h8 : n ≤ 8) : Ev fun k => ∀ (v : Int) (K : List Int → Option R), 0 ≤ v → v < 9223372036854775808 → v < 256 ^ n → f57 k v (n : Int) K = K (beB n v) :=
  (f80_v R h1 h8).imp fun k hk v K h0 hv hn => by
    rw [f57, hk v _ h0 hv hn, roT (by rw [beB_len]; omega)]; rfl
/-- Bytes compared. -/
theorem f25_loop (R : Type) (a b : List Int) (hl : a.length = b.length) (hb : a.length ≤ 140737488355328) : ∀ i, i ≤ a.length → Ev fun k => ∀ (X0 : Option R) (X1 : Bool → Option R), f25_l4 k a b (i : Int) X0 X1 = if a.drop i = b.drop i then X0 else X1 false := by
  refine Ev.down a.length ?_ ?_
  · refine Ev.suc (.all fun k X0 X1 => ?_)
    rw [f25_l4, lt_nat, List.drop_length, hl, List.drop_length, if_pos rfl]; simp
  · intro i hi h
    refine Ev.suc (h.imp fun k hk X0 X1 => ?_)
    have hi' : i < b.length := by omega
    rw [f25_l4, lt_nat, inb_nat, inb_nat, wrapSuc (by omega)]
    simp only [hi, hi', decide_true, cond_true, Int.toNat_natCast, getD_get hi, getD_get hi', bne_dec, drop_eq_iff hi hi', hk]
    by_cases e : a[i] = b[i]
    · simp [e]
    · simp [e]
theorem f25_v (R : Type) (a b : List Int) (hb : a.length ≤ 140737488355328) : Ev fun k => ∀ (K : Bool → Option R), f25 k a b K = K (decide (a = b)) := by
  by_cases hl : a.length = b.length
  · refine (f25_loop R a b hl hb 0 (Nat.zero_le _)).imp fun k hk K => ?_
    have hk := hk (K true) K
    simp only [Int.natCast_zero, List.drop_zero] at hk
    rw [f25, bne_len, hk]
    simp only [hl, decide_true, Bool.not_true, cond_false]
    by_cases e : a = b
    · rw [if_pos e, deT e]
    · rw [if_neg e, deF e]
  · refine .all fun k K => ?_
    rw [f25, bne_len, deF hl, deF (by rintro rfl; exact hl rfl)]; rfl
def letter (c : Int) : Bool := (decide (97 ≤ c) && decide (c ≤ 122)) || (decide (48 ≤ c) && decide (c ≤ 57))
def isTy (l : List Int) : Bool := decide (l.length = 4) && l.all letter
theorem f53_v {R : Type} (k : Nat) (c : Int) (K : Bool → Option R) : f53 k c K = K (letter c) := by
  rw [f53, letter]
  by_cases h1 : 97 ≤ c
  · rw [deT (show c ≥ 97 from h1)]
    by_cases h2 : c ≤ 122
    · rw [deT h2]; rfl
    · rw [deF h2, deF (show ¬ c ≤ 57 by omega), deT (show c ≥ 48 by omega)]; rfl
  · rw [deF (show ¬ c ≥ 97 from h1)]
    by_cases h3 : 48 ≤ c
    · rw [deT (show c ≥ 48 from h3)]; simp
    · rw [deF (show ¬ c ≥ 48 from h3)]; simp
theorem four {l : List Int} (h : l.length = 4) : ∃ a b c d, l = [a, b, c, d] := by
  match l, h with
  | [a, b, c, d], _ => exact ⟨a, b, c, d, rfl⟩
theorem isTy_four (a b c d : Int) : isTy [a, b, c, d] = (letter a && (letter b && (letter c && letter d))) := by
  simp [isTy]
theorem f26_v (R : Type) (a : ByteArray) : Ev fun k => ∀ (K : Int → Int → Option R), f26 k a K = if isTy (bytesOf a) = true then K (valF (bytesOf a) 0) 0 else K 0 80 := by
  by_cases h4 : (bytesOf a).length = 4
  · obtain ⟨x, y, z, u, hl⟩ := four h4
    have hb := okBy_bytesOf a
    have hs : a.size = 4 := by rw [← bytesOf_len]; exact h4
    have h54 := f54_v R (bytesOf a) hb (by rw [h4]; omega) (n := 4) (by decide) (by decide) (by omega)
    have hn : num (bytesOf a) 4 = valF (bytesOf a) 0 := by rw [num_small hb (by omega) (by decide), List.take_of_length_le (by omega)]
    refine h54.imp fun k h54 K => ?_
    have e4 : ((4 : Nat) : Int) = 4 := rfl
    rw [hn, e4] at h54
    have g0 := str_get a 0
    have g1 := str_get a 1
    have g2 := str_get a 2
    have g3 := str_get a 3
    rw [hl] at g0 g1 g2 g3
    simp only [List.getD_cons_zero, List.getD_cons_succ] at g0 g1 g2 g3
    rw [f26, hs]
    have i0 : inb 0 4 = true := rfl
    have i1 : inb 1 4 = true := rfl
    have i2 : inb 2 4 = true := rfl
    have i3 : inb 3 4 = true := rfl
    rw [bnF (show ((4 : Nat) : Int) = 4 from rfl)]
    simp only [cond_false, i0, i1, i2, i3, cond_true, f53_v, g0, g1, g2, g3, h54]
    rw [hl, isTy_four]
    cases letter x with
    | false => rfl
    | true => cases letter y with
      | false => rfl
      | true => cases letter z with
        | false => rfl
        | true => cases letter u <;> rfl
  · refine .all fun k K => ?_
    have hs : ¬ (a.size : Int) = 4 := by rw [← bytesOf_len]; omega
    have ht : isTy (bytesOf a) = false := by simp [isTy, h4]
    rw [f26, bnT hs, ht]; rfl
theorem f55_loop (R : Type) (l : List Int) (hb : l.length ≤ reachBytes) : ∀ i, i ≤ l.length → Ev fun k => ∀ (X0 : List Int → Option R) (X1 : Bool → Option R), f55_l2 k l (i : Int) X0 X1 = if (l.drop i).all letter = true then X0 l else X1 false := by
  rw [reachV] at hb
  refine Ev.down l.length ?_ ?_
  · refine Ev.suc (.all fun k X0 X1 => ?_)
    rw [f55_l2, lt_nat, List.drop_length]; simp
  · intro i hi h
    refine Ev.suc (h.imp fun k hk X0 X1 => ?_)
    rw [f55_l2, lt_nat, inb_nat, wrapSuc (by omega), List.drop_eq_getElem_cons hi, List.all_cons]
    simp only [hi, decide_true, cond_true, Int.toNat_natCast, getD_get hi, hk]
    have f : ∀ {p q : Bool} {x y : Option R}, (if (p && q) = true then x else y) = bif p then (if q = true then x else y) else y := by
      intro p q x y; cases p <;> rfl
    rw [f, letter]
    by_cases h1 : 97 ≤ l[i]
    · rw [deT (show l[i] ≥ 97 from h1)]
      by_cases h2 : l[i] ≤ 122
      · rw [deT h2]; rfl
      · rw [deF h2, deF (show ¬ l[i] ≤ 57 by omega), deT (show l[i] ≥ 48 by omega)]; rfl
    · rw [deF (show ¬ l[i] ≥ 97 from h1)]
      by_cases h3 : 48 ≤ l[i]
      · rw [deT (show l[i] ≥ 48 from h3)]
        by_cases h4 : l[i] ≤ 57
        · rw [deT h4]; rfl
        · rw [deF h4]; rfl
      · rw [deF (show ¬ l[i] ≥ 48 from h3)]; rfl
theorem f55_v (R : Type) (l : List Int) (hb : l.length ≤ reachBytes) : Ev fun k => ∀ (K : Bool → Option R), f55 k l K = K (isTy l) := by
  refine (f55_loop R l hb 0 (Nat.zero_le _)).imp fun k hk K => ?_
  have hk := hk (fun v3 => K ((v3.length : Int) == 4)) K
  simp only [Int.natCast_zero, List.drop_zero] at hk
  rw [f55, hk, isTy]
  cases l.all letter with
  | false => simp
  | true =>
    rw [if_pos rfl, beq_dec, Bool.and_true]
    congr 1
    exact decide_eq_decide.2 (by omega)
theorem f56_loop (R : Type) (l : List Int) (hl : okBy l) (h7 : l.length ≤ 7) : ∀ i, i ≤ l.length → Ev fun k => ∀ (v : Int) (X : Int → Option R), 0 ≤ v → v < 256 ^ i → f56_l3 k l v (i : Int) X = X (valF (l.drop i) v) := by
  refine Ev.down l.length ?_ ?_
  · exact Ev.suc (.all fun k v X _ _ => by simp [f56_l3, valF])
  · intro i hi h
    refine Ev.suc (h.imp fun k hk v X h0 h1 => ?_)
    have hc := hl.get hi
    have hp : (256 : Int) ^ i ≤ 281474976710656 := by
      have h2 : (256 : Nat) ^ i ≤ 281474976710656 := Nat.le_trans (Nat.pow_le_pow_right (by decide) (show i ≤ 6 by omega)) (by decide)
      have e : ((256 ^ i : Nat) : Int) = (256 : Int) ^ i := Int.natCast_pow 256 i
      omega
    rw [f56_l3, lt_nat, inb_nat, wrapSuc (by omega)]
    simp only [hi, decide_true, cond_true, Int.toNat_natCast, getD_get hi]
    rw [wr (n := l[i]) (by omega), wr (n := v * 256) (by omega), wr (by omega)]
    have hv : v * 256 + l[i] < 256 ^ (i + 1) := by
      rw [Int.pow_succ]; omega
    rw [hk _ X (by omega) hv, List.drop_eq_getElem_cons hi, valF_cons]
theorem f56_v (R : Type) (l : List Int) (hl : okBy l) (h7 : l.length ≤ 7) : Ev fun k => ∀ (K : Int → Option R), f56 k l K = K (valF l 0) := by
  refine (f56_loop R l hl h7 0 (Nat.zero_le _)).imp fun k hk K => ?_
  have hk := hk 0 K (by omega) (by decide)
  simp only [Int.natCast_zero, List.drop_zero] at hk
  rw [f56, hk]
theorem f27_v (R : Type) (a : ByteArray) (hb : a.size ≤ reachBytes) : Ev fun k => ∀ (K : Int → Int → Option R), f27 k a K = if isTy (bytesOf a) = true then K (valF (bytesOf a) 0) 0 else K 0 80 := by
  have h55 := f55_v R (bytesOf a) (by rw [bytesOf_len]; exact hb)
  by_cases h : isTy (bytesOf a) = true
  · have h4 : (bytesOf a).length = 4 := by
      simp only [isTy, Bool.and_eq_true, decide_eq_true_eq] at h; exact h.1
    refine h55.imp2 (f56_v R (bytesOf a) (okBy_bytesOf a) (by omega)) fun k h1 h2 K => ?_
    rw [f27, h1, h2, if_pos h, h]; rfl
  · refine h55.imp fun k h1 K => ?_
    rw [f27, h1, if_neg h, Bool.eq_false_iff.2 h]; rfl
theorem or24 {a c : Int} (h : 0 ≤ a) (h' : a < 256) (hc : 0 ≤ c) (hc' : c < 16777216) : orI .i64 (shlI .i64 a 24) c = a * 16777216 + c := by
  obtain ⟨n, rfl⟩ : ∃ n : Nat, a = n := ⟨a.toNat, by omega⟩
  obtain ⟨m, rfl⟩ : ∃ n : Nat, c = n := ⟨c.toNat, by omega⟩
  have s : shlI .i64 (n : Int) 24 = ((16777216 * n : Nat) : Int) := by
    have : (min (24 : Int).toNat IntKind.i64.bits) = 24 := rfl
    unfold shlI
    rw [this]
    have e : (n : Int) * 2 ^ 24 = ((16777216 * n : Nat) : Int) := by
      have : (2 : Int) ^ 24 = 16777216 := by decide
      rw [this]; omega
    rw [e, wr (by omega)]
  rw [s]
  have e1 : (BitVec.ofInt IntKind.i64.bits ((16777216 * n : Nat) : Int)).toNat = 16777216 * n := ofInt_nat (by omega)
  have e2 : (BitVec.ofInt IntKind.i64.bits (m : Int)).toNat = m := ofInt_nat (by omega)
  unfold orI
  rw [BitVec.toNat_or, e1, e2]
  have e3 : 16777216 * n = 2 ^ 24 * n := rfl
  rw [e3, ← Nat.two_pow_add_eq_or_of_lt (i := 24) (by omega) n, wr (by omega)]
  omega
theorem be_full {v f : Int} (h : 0 ≤ v) (h' : v < 256) (hc : 0 ≤ f) (hc' : f < 16777216) : beB 4 (v * 16777216 + f) = v :: beB 3 f := by
  simp only [beB, List.nil_append, List.cons_append]
  have e1 : (v * 16777216 + f) / 256 / 256 / 256 % 256 = v := by omega
  have e2 : (v * 16777216 + f) / 256 / 256 % 256 = f / 256 / 256 % 256 := by omega
  have e3 : (v * 16777216 + f) / 256 % 256 = f / 256 % 256 := by omega
  have e4 : (v * 16777216 + f) % 256 = f % 256 := by omega
  rw [e1, e2, e3, e4]
/-- What makes a full leaf: its number, the error, its bytes. -/
def putR (nm : List Int) (v f : Int) (rest : List Int) : Int × Int × List Int :=
  if isTy nm = false then (0, 80, [])
  else if v < 0 ∨ 255 < v ∨ f < 0 ∨ 16777216 ≤ f then (0, 1, [])
  else (valF nm 0, 0, v :: beB 3 f ++ rest)
theorem f32_v (R : Type) (s : ByteArray) (v f : Int) (rest : List Int) (hr : rest.length ≤ reachBytes) : Ev fun k => ∀ (K : Int → Bool → Int → List Int → Option R), f32 k s v f rest K = K (putR (bytesOf s) v f rest).1 false (putR (bytesOf s) v f rest).2.1 (putR (bytesOf s) v f rest).2.2 := by
  rw [reachV] at hr
  refine (f26_v R s).imp2 (f57_v R (n := 4) (by decide) (by decide)) fun k h26 h57 K => ?_
  have e4 : ((4 : Nat) : Int) = 4 := rfl
  have p4 : (256 : Int) ^ 4 = 4294967296 := by decide
  rw [e4, p4] at h57
  rw [f32, h26, putR]
  by_cases c : isTy (bytesOf s) = true
  · rw [if_pos c, if_neg (by simp [c])]
    rw [bnF rfl, cond_false]
    by_cases c1 : v < 0
    · rw [deT c1, if_pos (.inl c1)]; rfl
    · rw [deF c1, cond_false]
      by_cases c2 : v > 255
      · rw [deT c2, if_pos (.inr (.inl c2))]; rfl
      · rw [deF c2, cond_false]
        by_cases c3 : f < 0
        · rw [deT c3, if_pos (.inr (.inr (.inl c3)))]; rfl
        · rw [deF c3, cond_false]
          by_cases c4 : f ≥ 16777216
          · rw [deT c4, if_pos (.inr (.inr (.inr c4)))]; rfl
          · rw [deF c4, cond_false, if_neg (by omega), or24 (by omega) (by omega) (by omega) (by omega), h57 _ _ (by omega) (by omega) (by omega), be_full (by omega) (by omega) (by omega) (by omega), roT (by simp [beB_len]; omega)]
            rfl
  · rw [if_neg c, if_pos (Bool.eq_false_iff.2 c)]; rfl
theorem f33_v (R : Type) (s : ByteArray) (hs : s.size ≤ reachBytes) (v f : Int) (rest : List Int) (hr : rest.length ≤ reachBytes) : Ev fun k => ∀ (K : Int → Bool → Int → List Int → Option R), f33 k s v f rest K = K (putR (bytesOf s) v f rest).1 false (putR (bytesOf s) v f rest).2.1 (putR (bytesOf s) v f rest).2.2 := by
  rw [reachV] at hr
  refine (f27_v R s hs).imp2 (f52_v R (n := 3) (by decide)) fun k h27 h52 K => ?_
  have e3 : ((3 : Nat) : Int) = 3 := rfl
  rw [e3] at h52
  rw [f33, h27, putR]
  by_cases c : isTy (bytesOf s) = true
  · rw [if_pos c, if_neg (by simp [c])]
    rw [bnF rfl, cond_false]
    by_cases c1 : v < 0
    · rw [deT c1, if_pos (.inl c1)]; rfl
    · rw [deF c1, cond_false]
      by_cases c2 : v > 255
      · rw [deT c2, if_pos (.inr (.inl c2))]; rfl
      · rw [deF c2, cond_false]
        by_cases c3 : f < 0
        · rw [deT c3, if_pos (.inr (.inr (.inl c3)))]; rfl
        · rw [deF c3, cond_false]
          by_cases c4 : f ≥ 16777216
          · rw [deT c4, if_pos (.inr (.inr (.inr c4)))]; rfl
          · rw [deF c4, cond_false, if_neg (by omega), h52, roT (by simp [beB_len]), roT (by simp [beB_len]; omega), wr8 (by omega)]
            rfl
  · rw [if_neg c, if_pos (Bool.eq_false_iff.2 c)]; rfl
/-- What a full leaf holds. -/
def fullR (g : Bool) (d : List Int) : Int × Int × Int × List Int :=
  if g = true then (0, 0, 4, []) else if d.length < 4 then (0, 0, 3, []) else (valF (d.take 1) 0, valF ((d.take 4).drop 1) 0, 0, d.drop 4)
theorem f61_v {R : Type} (k : Nat) (a : List Int) (h : a.length ≤ 140737488355328) (K : List Int → Option R) : f61_2 k a K = K a := by
  rw [f61_2, roT (by simp; omega)]; rfl
theorem take_drop1 {α : Type} (d : List α) (n : Nat) : (d.drop 1).take n = (d.take (n + 1)).drop 1 := by
  rw [List.drop_take]; congr 1
theorem f35_2_v (R : Type) (i : Int) (d : List Int) (ks : List D1) (g : Bool) (hd : okBy d) (hl : d.length ≤ 140737488355328) : Ev fun k => ∀ (K : Int → Int → Int → List Int → Option R), f35_2 k i d ks g K = K (fullR g d).1 (fullR g d).2.1 (fullR g d).2.2.1 (fullR g d).2.2.2 := by
  cases g with
  | true => exact .all fun k K => by rw [f35_2, fullR]; rfl
  | false =>
    by_cases c : d.length < 4
    · refine .all fun k K => ?_
      rw [f35_2, fullR, if_neg (by decide), if_pos c, deT (by omega)]; rfl
    · have h1 := f54_v R d hd hl (n := 1) (by decide) (by decide) (by omega)
      have h3 := f54_v R (d.drop 1) (hd.drop 1) (by simp; omega) (n := 3) (by decide) (by decide) (by simp; omega)
      rw [num_small hd (by omega) (by decide)] at h1
      rw [num_small (hd.drop 1) (by simp; omega) (by decide), take_drop1] at h3
      refine h1.imp2 h3 fun k h1 h3 K => ?_
      have e1 : ((1 : Nat) : Int) = 1 := rfl
      have e3 : ((3 : Nat) : Int) = 3 := rfl
      rw [e1] at h1; rw [e3] at h3
      rw [f35_2, fullR, if_neg (by decide), if_neg c, deF (by omega), h1, upT (by omega), h3, upT (by omega), f61_v _ _ (by simp; omega)]
      rfl
theorem f35_eq {R : Type} (k : Nat) (i : Int) (d : List Int) (ks : List D1) (g : Bool) (K : Int → Int → Int → List Int → Option R) : f35 k i d g K = f35_2 k i d ks g K := rfl
theorem f36_v (R : Type) (i : Int) (d : List Int) (ks : List D1) (g : Bool) (hd : okBy d) (hl : d.length ≤ 140737488355328) : Ev fun k => ∀ (K : Int → Int → Int → List Int → Option R), f36 k i d ks g K = K (fullR g d).1 (fullR g d).2.1 (fullR g d).2.2.1 (fullR g d).2.2.2 := by
  cases g with
  | true => exact .all fun k K => by rw [f36, fullR]; rfl
  | false =>
    by_cases c : d.length < 4
    · refine .all fun k K => ?_
      rw [f36, fullR, if_neg (by decide), if_pos c, deT (by omega)]; rfl
    · refine (f56_v R ((d.take 4).drop 1) ((hd.take 4).drop 1) (by simp; omega)).imp fun k h56 K => ?_
      have h0 : 0 < d.length := by omega
      have hv : valF (d.take 1) 0 = d.getD 0 0 := by
        cases d with
        | nil => simp at h0
        | cons x d => simp [valF]
      have hc := hd.get h0
      have hg : d.getD 0 0 = d[0] := getD_get h0
      rw [f36, fullR, if_neg (by decide), if_neg c, deF (by omega), inT (by omega), upT (by omega), h56, roT (by simp; omega), hv]
      have : IntKind.i64.wrap (d.getD 0 0) = d.getD 0 0 := by rw [hg]; exact wr (by omega)
      rw [this]
      rfl
theorem f18_2_v (R : Type) : Ev fun k => ∀ (K : Bool → Option R), f18_2 k K = K true := .plus 1 (.all fun k K => by rw [f18_2, f18_2_l4]; rfl)
theorem f34_3_v (R : Type) (i : Int) (d : List Int) (hd : d.length ≤ 140737488355328) : Ev fun k => ∀ (K : Bool → Option R), f34_3 k i d false i d false K = K true := by
  refine (f25_v R d d hd).imp2 (f18_2_v R) fun k h1 h2 K => ?_
  rw [f34_3, beT rfl, h1, deT rfl, h2]; rfl
theorem putR_len (nm : List Int) (v f : Int) {rest : List Int} (hr : rest.length ≤ reachBytes) : (putR nm v f rest).2.2.length ≤ reachBytes + 4 := by
  unfold putR
  split
  · simp
  · split
    · simp
    · simp [beB_len]; omega
theorem boxFull_plain (s : ByteArray) (hs : s.size ≤ reachBytes) (v f : Int) (rest : List Int) (hb : okBy rest) (hr : rest.length ≤ reachBytes) (n : D1) (hn : OkN n) : ∃ k, f7 (R := Bool) k s v f rest n.c0 n.c1 n.c2 n.c3 some = some true := by
  refine Ev.some (p := fun k => f7 (R := Bool) k s v f rest n.c0 n.c1 n.c2 n.c3 some = some true) ?_
  obtain ⟨i, e, l, hP⟩ : ∃ i e l, putR (bytesOf s) v f rest = (i, e, l) := ⟨_, _, _, rfl⟩
  have h32 := f32_v Bool s v f rest hr
  have h33 := f33_v Bool s hs v f rest hr
  rw [hP] at h32 h33
  have hll := putR_len (bytesOf s) v f hr
  rw [hP] at hll
  rw [reachV] at hll
  have hlen : l.length ≤ 140737488351236 := hll
  have tail : Ev fun k => f35_2 (R := Bool) k n.c0 n.c1 n.c2 n.c3 (fun v15 v16 v17 v18 =>
      f36 k n.c0 n.c1 n.c2 n.c3 (fun v19 v20 v21 v22 =>
      bif (v15 == v19) then bif (v16 == v20) then f25 k v18 v22 (fun v23 => bif v23 then bif (v17 == v21) then f20 k some else some false else some false) else some false else some false)) = some true := by
    have hnl : n.c1.length ≤ 140737488355328 := by have := hn.len; rw [reachV] at this; omega
    have hl : (fullR n.c3 n.c1).2.2.2.length ≤ 140737488355328 := by
      unfold fullR
      split
      · simp
      · split
        · simp
        · simp; omega
    refine (f35_2_v Bool n.c0 n.c1 n.c2 n.c3 hn.by hnl).imp4 (f36_v Bool n.c0 n.c1 n.c2 n.c3 hn.by hnl) (f25_v Bool (fullR n.c3 n.c1).2.2.2 (fullR n.c3 n.c1).2.2.2 hl) (awake_v Bool) fun k h1 h2 h3 h4 => ?_
    rw [h1, h2, beT rfl, beT rfl, h3, deT rfl, beT rfl, h4]; rfl
  have eqn := f34_3_v Bool i l (by omega)
  by_cases he : e = 0
  · subst he
    -- it is read back
    have hv : isTy (bytesOf s) = true ∧ 0 ≤ v ∧ v ≤ 255 ∧ 0 ≤ f ∧ f < 16777216 ∧ l = v :: beB 3 f ++ rest := by
      unfold putR at hP
      split at hP
      · simp at hP
      · rename_i h1
        split at hP
        · simp at hP
        · rename_i h2
          simp only [Prod.mk.injEq] at hP
          exact ⟨by simpa using h1, by omega, by omega, by omega, by omega, hP.2.2.symm⟩
    obtain ⟨_, v0, v1, f0, f1, rfl⟩ := hv
    have okl : okBy (v :: beB 3 f ++ rest) := fun x hx => by
      rcases List.mem_append.1 hx with h | h
      · rcases List.mem_cons.1 h with rfl | h
        · omega
        · exact beB_ok 3 f x h
      · exact hb x h
    have hfr : fullR false (v :: beB 3 f ++ rest) = (v, f, 0, rest) := by
      obtain ⟨a, b, c, hbe⟩ : ∃ a b c, beB 3 f = [a, b, c] := ⟨_, _, _, rfl⟩
      have hval := valF_beB 3 f f0 f1
      unfold fullR
      rw [if_neg (by decide), if_neg (by simp [beB_len]), hbe]
      rw [hbe] at hval
      simp [valF] at hval ⊢
      exact hval
    have h35 := f35_2_v Bool i (v :: beB 3 f ++ rest) [] false okl (by omega)
    rw [hfr] at h35
    refine (h32.and h33).imp4 eqn (h35.and (f25_v Bool rest rest (by rw [reachV] at hr; omega))) tail fun k h1 h2 h3 h4 => ?_
    rw [f7, h1.1, h1.2, h2, Bool.not_true, cond_false, bnF rfl, cond_false, beT rfl, cond_true, f35_eq k i _ [], h3.1, bnF rfl, cond_false, bnF rfl, cond_false, h3.2, deT rfl, Bool.not_true, cond_false, bnF rfl, cond_false]
    exact h4
  · refine (h32.and h33).imp3 eqn tail fun k h1 h2 h3 => ?_
    rw [f7, h1.1, h1.2, h2, Bool.not_true, cond_false, bnF rfl, cond_false, beF he, cond_false]
    exact h3
theorem ownKn : ownKnob Tryd.prog.godebug = none := by kernel_rfl
theorem laidOut : laidOutB Tryd.prog = true := by kernel_rfl
noncomputable def naming : Naming cx where
  flds := flds
  toT := toT
  ofT := ofT
  plain := fun r => match r with
    | 0 => rfl
    | 1 => rfl
    | 2 => rfl
    | 3 => rfl
    | 4 => rfl
    | 5 => rfl
    | 6 => rfl
    | _n + 7 => rfl
  to_of := fun r x => match r, x with
    | 0, _ => rfl
    | 1, _ => rfl
    | 2, _ => rfl
    | 3, _ => rfl
    | 4, _ => rfl
    | 5, _ => rfl
    | 6, _ => rfl
    | _n + 7, _ => rfl
  deep := fun r v => match r, v with
    | 0, _ => rfl
    | 1, v => deep1_eq v
    | 2, _ => rfl
    | 3, _ => rfl
    | 4, _ => rfl
    | 5, _ => rfl
    | 6, _ => rfl
    | _n + 7, _ => rfl
theorem fit : Fit naming Tryd.prog := fit_of (tab := tab) rfl (by kernel_rfl)
theorem wf_bytes {z : Nat} {l : List Int} (h : WfIV (.list z (l.map fun y => [.int .u8 y]))) : l.length ≤ reachBytes ∧ ∀ n ∈ l, 0 ≤ n ∧ n < 256 := by
  cases h with
  | list h1 h2 _ =>
    refine ⟨by simpa using h1, fun n hn => ?_⟩
    have := h2 _ (List.mem_map.2 ⟨n, hn, rfl⟩) _ (List.mem_singleton.2 rfl)
    cases this with
    | int h3 => simp [Lit.wf, IntKind.min, IntKind.max, IntKind.signed, IntKind.bits] at h3; omega
theorem wf_int {n : Int} (h : WfIV (.int .i64 n)) : -9223372036854775808 ≤ n ∧ n < 9223372036854775808 := by
  cases h with
  | int h3 => simp [Lit.wf, IntKind.min, IntKind.max, IntKind.signed, IntKind.bits] at h3; omega
theorem gErr : Tryd.prog.globalNamed "errors.errorType" = some 0 := by kernel_rfl
theorem gTab : Tryd.prog.globalNamed "strings.asciiSpace" = some 1 := by kernel_rfl
theorem gTabType : (Tryd.prog.globals[1]?).map (·.type) = some 145 := by kernel_rfl
theorem cells145 : Tryd.prog.cellsOf 145 = 256 := by kernel_rfl
theorem cells5 : Tryd.prog.cellsOf 5 = 1 := by kernel_rfl
theorem rt149 : (Tryd.prog.cutTypes.find? (·.1 == "internal/reflectlite.rtype")).map (·.2) = some 149 := by kernel_rfl
theorem oneRow : ((List.range 209).filter fun t => Tryd.prog.rowNamed t [101, 114, 114, 111, 114]) = [108] := by kernel_rfl
theorem nTypes : Tryd.prog.types.size = 209 := by kernel_rfl
def laidL : List (String × DataW Unit) := [("errors.errorType", Rows.laid_errors_errorType), ("unicode.White_Space", Rows.laid_unicode_White_Space), ("strings.asciiSpace", Rows.laid_strings_asciiSpace)]
theorem tabData_eq : (Rows.laid_strings_asciiSpace : DataW Unit) = Lib.tabData .u8 asciiTab := by kernel_rfl
theorem laid_parts {W : World} (h : laidMetH Tryd.prog laidL W) : laidMet Tryd.prog [("unicode.White_Space", Rows.laid_unicode_White_Space), ("strings.asciiSpace", Rows.laid_strings_asciiSpace)] W ∧ handlesMet Tryd.prog [("errors.errorType", Rows.laid_errors_errorType)] W := h
theorem handle_of_laid {W : World} (h : laidMetH Tryd.prog laidL W) : W.cell? ⟨0, 0, none⟩ = some (.iface 149 (.agg #[.pointer (some ⟨4, 108, none⟩)])) := by
  obtain ⟨name, u, ty, e1, e2, e3, e4, e5⟩ := (laid_parts h).2 _ (List.mem_singleton.2 rfl)
  have en : name = [101, 114, 114, 111, 114] := (Option.some.inj e1).symm
  subst en
  obtain rfl := Option.some.inj (rt149.symm.trans e2)
  have hm : ty ∈ (List.range 209).filter fun t => Tryd.prog.rowNamed t [101, 114, 114, 111, 114] := List.mem_filter.2 ⟨List.mem_range.2 (by rw [← nTypes]; exact e3), e4⟩
  rw [oneRow] at hm
  obtain rfl := List.mem_singleton.1 hm
  have hh : typeHandle Tryd.prog 108 = .pointer (some ⟨4, 108, none⟩) := by kernel_rfl
  rw [hh] at e5
  simpa using World.var?_cell gErr e5 0
theorem tab_of_laid {W : World} (h : laidMetH Tryd.prog laidL W) : Lib.TabIs Tryd.prog W "strings.asciiSpace" .u8 asciiTab := by
  obtain ⟨ps, ⟨g', t', cs, fuel, p, q, hg', ht', hvar, hd, ⟨g2, t2, cs2, fuel2, p2, q2, hg2, ht2, hvar2, hd2, _, _⟩, _⟩, _⟩ := (laid_parts h).1
  obtain rfl := Option.some.inj (gTab.symm.trans hg2)
  obtain rfl := Option.some.inj (gTabType.symm.trans ht2)
  unfold Lib.TabIs
  rw [tabData_eq] at hd2
  rw [hvar2, ← Lib.cells_of_tab Tryd.underlying145 Tryd.underlying5 cells5 cells145 hd2]
theorem ginv {W : World} (h : laidMetH Tryd.prog laidL W) : GInv cx (fun b => b < W.heap.size) W := by
  have hh := handle_of_laid h
  have ht := tab_of_laid h
  have hcell : ∀ i, i < 256 → W.cell? ⟨1, i, none⟩ = some (.int .u8 (asciiTab.getD i 0)) := fun i hi => ht.cell gTab i hi
  have lt : ∀ (b : Nat) (v : Value), W.cell? ⟨b, 0, none⟩ = some v → b < W.heap.size := by
    intro b v hv
    by_cases hb : b < W.heap.size
    · exact hb
    · have h0 : W.heap[b]? = none := Array.getElem?_eq_none (by omega)
      simp [World.cell?, h0] at hv
  refine ⟨fun g => ?_, fun p hp => ?_⟩
  · by_cases hg : g = 1
    · subst hg
      refine ⟨rfl, ?_⟩
      show PRep cx _ _ _ W (.lelem (.int .u8) asciiTab 0 0) _
      have hl : asciiTab.length = 256 := rfl
      refine ⟨by rw [hl]; omega, ⟨1, 0, none⟩, 256, ?_, rfl⟩
      have hm : (asciiTab.map (deep cx (.int .u8))).length = 256 := by rw [List.length_map, hl]
      have : Rep (fun b => b < W.heap.size) W (.slice (some ⟨1, 0, none⟩) (asciiTab.map (deep cx (.int .u8))).length 256) (.list 1 (asciiTab.map (deep cx (.int .u8)))) := by
        refine .list (fun i j => .int .u8 (asciiTab.getD i 0)) (by rw [hm]; exact Nat.le_refl _) (fun _ => lt 1 _ (hcell 0 (by omega))) (fun i l j x h1 h2 => ?_) (fun i l j x h1 h2 => ?_)
        · have hi : i < 256 := by have := (List.getElem?_eq_some_iff.1 h1).1; omega
          have hj : j = 0 := by
            simp only [List.getElem?_map, Option.map_eq_some_iff] at h1
            obtain ⟨y, _, rfl⟩ := h1
            have := (List.getElem?_eq_some_iff.1 h2).1
            simp [deep] at this; exact this
          subst hj
          have e : (⟨1, 0, none⟩ : Addr).add (i * 1 + 0) = ⟨1, i, none⟩ := by rw [add_at]; simp
          rw [e]; exact hcell i hi
        · have hi : i < asciiTab.length := by have := (List.getElem?_eq_some_iff.1 h1).1; rw [hl]; omega
          simp only [List.getElem?_map, Option.map_eq_some_iff] at h1
          obtain ⟨y, hy, rfl⟩ := h1
          have hj : j = 0 := by
            have := (List.getElem?_eq_some_iff.1 h2).1
            simp [deep] at this; exact this
          subst hj
          simp [deep] at h2
          subst h2
          have : asciiTab.getD i 0 = y := by simp [List.getD, hy]
          rw [this]; exact .int
      rw [hm] at this
      exact this
    · have e : cx.gv g = .undef := by
        show gvs g = _
        have : Nat.beq g 1 = false := by rw [Bool.eq_false_iff]; intro hb; exact hg (Nat.eq_of_beq_eq_true hb)
        simp [gvs, this]
      rw [e]; exact ⟨rfl, trivial⟩
  · have hp : p ∈ gcs := hp
    simp only [gcs, List.mem_singleton] at hp
    subst hp
    exact ⟨lt 0 _ hh, hh⟩
/-- A world in which they lie so. -/
noncomputable def laidWorld (os : Os) : World :=
  { World.holding Tryd.prog os ⟨#[], #[], []⟩ with heap := (((((World.holding Tryd.prog os ⟨#[], #[], []⟩).heap.modify 0 fun
      | .cells _ t frozen => .cells #[.iface 149 (.agg #[.pointer (some ⟨4, 108, none⟩)])] t frozen
      | o => o).modify 1 fun
      | .cells _ t frozen => .cells (asciiTab.map fun n => Value.int .u8 n).toArray t frozen
      | o => o).modify 2 fun
      | .cells _ t frozen => .cells #[.pointer (some ⟨9, 0, none⟩)] t frozen
      | o => o).push (.cells #[.slice (some ⟨10, 0, none⟩) 7 7, .slice none 0 0, .int .i64 2] 171)).push (.cells (([9, 13, 1, 32, 133, 101, 160, 5760, 5600, 8192, 8202, 1, 8232, 8233, 1, 8239, 8287, 48, 12288, 12288, 1] : List Int).map fun n => Value.int .u16 n).toArray 174) }
theorem deep1_mk (i : Int) (d : List Int) (ks : List D1) (g : Bool) : deep1 (.mk i d ks g) = [.int .i64 i, .list 1 (d.map fun y => [.int .u8 y]), .list 4 (deep1s ks), .bool g] := by rw [deep1]; rfl
theorem okL_wf {ks : List D1} (h : WfIV (.list 4 (deep1s ks))) (ih : ∀ x ∈ ks, (∀ iv ∈ deep1 x, WfIV iv) → OkN x) : OkL ks := by
  rw [deep1s_map] at h
  cases h with
  | list h1 h2 h3 =>
    refine ⟨?_, fun x hx => ih x hx (h2 _ (List.mem_map.2 ⟨x, hx, rfl⟩))⟩
    cases ks with
    | nil => simp
    | cons x ks =>
      have h4 := h3 (deep1 x) (by simp)
      obtain ⟨i, d, k, g⟩ := x
      rw [deep1_mk] at h4
      have e : lay (List.map cellB [IV.int IntKind.i64 i, IV.list 1 (d.map fun y => [.int .u8 y]), IV.list 4 (deep1s k), IV.bool g]) = 64 := by kernel_rfl
      rw [List.length_map, e] at h4
      exact h4
theorem okN_wf (n : D1) : (∀ iv ∈ deep1 n, WfIV iv) → OkN n := by
  refine D1.ind (P := fun n => (∀ iv ∈ deep1 n, WfIV iv) → OkN n) (fun i d ks g ih h => ?_) n
  rw [deep1_mk] at h
  have hd := wf_bytes (h (.list 1 (d.map fun y => [.int .u8 y])) (by simp))
  have hk := okL_wf (h (.list 4 (deep1s ks)) (by simp)) ih
  exact .mk (wf_int (h (.int .i64 i) (by simp))) hd.2 hd.1 hk.1 hk.2
theorem wf_str {s : ByteArray} (h : WfIV (.str s)) : s.size ≤ reachBytes := by
  cases h with
  | str h => exact h
end Go.Proofs.YtehmahdngjdhpaaDoor
