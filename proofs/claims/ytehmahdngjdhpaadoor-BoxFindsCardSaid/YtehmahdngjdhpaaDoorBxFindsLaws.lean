/- Proved: the plain laws of BoxFinds. Conditions: none. -/
import Derived.Test.YtehmahdngjdhpaaDoorBxWalk1
import Derived.Test.YtehmahdngjdhpaaDoorRows
import Derived.Test.YtehmahdngjdhpaaDoorCards
import Derived.Test.YtehmahdngjdhpaaDoorTie
import Derived.JoinedOf
import Derived.Lib.LaidTab
import Derived.LaidLaws
import Derived.LaidHandle
import Derived.Stop.Joined

set_option maxRecDepth 100000
namespace Go.Proofs.YtehmahdngjdhpaaDoor
open Go Go.Am
theorem awake_v (R : Type) : Ev fun k => ∀ (K : Bool → Option R), f20 k K = K true := by
  refine .plus 40 (.all fun k K => ?_)
  kernel_rfl
theorem D1.ind {P : D1 → Prop} (h : ∀ i d ks g, (∀ x ∈ ks, P x) → P (.mk i d ks g)) : ∀ n, P n := by
  intro n
  refine D1.rec (motive_1 := P) (motive_2 := fun l => ∀ x ∈ l, P x) (fun i d ks g ih => h i d ks g ih) (by simp) (fun a l ha hl => ?_) n
  intro x hx
  rcases List.mem_cons.1 hx with rfl | hx
  · exact ha
  · exact hl x hx
theorem D1.eta (n : D1) : D1.mk n.c0 n.c1 n.c2 n.c3 = n := by cases n; rfl
/-- A tree as it lies in memory. -/
inductive OkN : D1 → Prop
  | mk {i : Int} {d : List Int} {ks : List D1} {g : Bool} : -9223372036854775808 ≤ i ∧ i < 9223372036854775808 → okBy d → d.length ≤ reachBytes → ks.length * 64 ≤ reachBytes → (∀ x ∈ ks, OkN x) → OkN (.mk i d ks g)
def OkL (l : List D1) : Prop := l.length * 64 ≤ reachBytes ∧ ∀ x ∈ l, OkN x
theorem OkN.id {n : D1} (h : OkN n) : -9223372036854775808 ≤ n.c0 ∧ n.c0 < 9223372036854775808 := by cases h; assumption
theorem OkN.by {n : D1} (h : OkN n) : okBy n.c1 := by cases h; assumption
theorem OkN.len {n : D1} (h : OkN n) : n.c1.length ≤ reachBytes := by cases h; assumption
theorem OkN.kids {n : D1} (h : OkN n) : OkL n.c2 := by cases h; exact ⟨by assumption, by assumption⟩
theorem f79_loop (R : Type) (l : List Int) (hl : okBy l) (h8 : l.length ≤ 8) : ∀ i, i ≤ l.length → Ev fun k => ∀ (v : Int) (X : Int → Option R), 0 ≤ v → v < 256 ^ i → f79_l7 k v l (l.length : Int) (i : Int) X = X (valF (l.drop i) v) := by
  refine Ev.down l.length ?_ ?_
  · exact Ev.suc (.all fun k v X _ _ => by simp [f79_l7, valF])
  · intro i hi h
    refine Ev.suc (h.imp fun k hk v X h0 h1 => ?_)
    have hc := hl.get hi
    have hp : (256 : Int) ^ i ≤ 72057594037927936 := by
      have h2 : (256 : Nat) ^ i ≤ 72057594037927936 := Nat.le_trans (Nat.pow_le_pow_right (by decide) (show i ≤ 7 by omega)) (by decide)
      have e : ((256 ^ i : Nat) : Int) = (256 : Int) ^ i := Int.natCast_pow 256 i
      omega
    have ho := or_byteU h0 (by omega) hc.1 hc.2
    rw [f79_l7, lt_nat, inb_nat, wrapSuc (by omega)]
    simp only [hi, decide_true, cond_true, Int.toNat_natCast, getD_get hi, ho]
    have hv : v * 256 + l[i] < 256 ^ (i + 1) := by
      rw [Int.pow_succ]; omega
    rw [hk _ X (by omega) hv, List.drop_eq_getElem_cons hi, valF_cons]
/-- The number of the first bytes; one too great counts as the greatest. -/
def num (b : List Int) (n : Nat) : Int := if 9223372036854775807 < valF (b.take n) 0 then 9223372036854775807 else valF (b.take n) 0
theorem val_bound {b : List Int} (hb : okBy b) {n : Nat} (h : n ≤ b.length) : 0 ≤ valF (b.take n) 0 ∧ valF (b.take n) 0 < 256 ^ n := by
  have := valF_bound (hb.take n) 0
  have e : (b.take n).length = n := by simp; omega
  rw [e] at this
  omega
theorem num_small {b : List Int} (hb : okBy b) {n : Nat} (h : n ≤ b.length) (h7 : n ≤ 7) : num b n = valF (b.take n) 0 := by
  have := (val_bound hb h).2
  have h2 : (256 : Nat) ^ n ≤ 72057594037927936 := Nat.le_trans (Nat.pow_le_pow_right (by decide) h7) (by decide)
  have e : ((256 ^ n : Nat) : Int) = (256 : Int) ^ n := Int.natCast_pow 256 n
  unfold num
  rw [if_neg (by omega)]
theorem f54_v (R : Type) (b : List Int) (hb : okBy b) (hl : b.length ≤ 140737488355328) {n : Nat} (h1 : 1 ≤ n) (h8 : n ≤ 8) (h : n ≤ b.length) : Ev fun k => ∀ (K : Int → Option R), f54 k b (n : Int) K = K (num b n) := by
  have el : (b.take n).length = n := by simp; omega
  refine (f79_loop R (b.take n) (hb.take n) (by omega) 0 (by omega)).imp fun k hk K => ?_
  have t1 : decide ((n : Int) < 1) = false := decide_eq_false (by omega)
  have t2 : decide ((n : Int) > 8) = false := decide_eq_false (by omega)
  have t4 : decide ((0 : Int) > (b.length : Int)) = false := decide_eq_false (by omega)
  have w1 : IntKind.i64.wrap ((b.length : Int) - 0) = (b.length : Int) := by rw [wrap64 (by omega) (by omega)]; omega
  have w2 : IntKind.i64.wrap ((0 : Int) + (n : Int)) = (n : Int) := by rw [wrap64 (by omega) (by omega)]; omega
  have t5 : decide ((b.length : Int) < (n : Int)) = false := decide_eq_false (by omega)
  have t7 : decide ((0 : Int) ≤ (n : Int)) = true := decide_eq_true (by omega)
  simp only [Int.natCast_zero, List.drop_zero] at hk
  simp only [f54, f79, t1, t2, t4, w1, w2, t5, t7, cond_false, upto_nat, h, decide_true, Bool.and_self, cond_true, Int.toNat_natCast, Int.toNat_zero, List.drop_zero, Int.lt_irrefl, decide_false]
  rw [hk 0 _ (by omega) (by decide)]
  have hbd := val_bound hb h
  unfold num
  by_cases hx : 9223372036854775807 < valF (b.take n) 0
  · rw [if_pos hx, decide_eq_true (show valF (b.take n) 0 > 9223372036854775807 from hx)]; rfl
  · rw [if_neg hx, decide_eq_false (show ¬ valF (b.take n) 0 > 9223372036854775807 from hx), wrap64 (by omega) (by omega)]; rfl
/-- Bytes compared. -/
theorem f25_loop (R : Type) (a b : List Int) (hl : a.length = b.length) (hb : a.length ≤ 140737488355328) : ∀ i, i ≤ a.length → Ev fun k => ∀ (X0 : Option R) (X1 : Bool → Option R), f25_l4 k a b (i : Int) X0 X1 = if a.drop i = b.drop i then X0 else X1 false := by
  refine Ev.down a.length ?_ ?_
  · refine Ev.suc (.all fun k X0 X1 => ?_)
    rw [f25_l4, lt_nat, List.drop_length, hl, List.drop_length, if_pos rfl]; simp
  · intro i hi h
    refine Ev.suc (h.imp fun k hk X0 X1 => ?_)
    have hi' : i < b.length := by omega
    rw [f25_l4, lt_nat, inb_nat, inb_nat, wrapSuc (by omega)]
    simp only [hi, hi', decide_true, cond_true, Int.toNat_natCast, getD_get hi, getD_get hi', bne_dec, drop_eq_iff hi hi', hk]
    by_cases e : a[i] = b[i]
    · simp [e]
    · simp [e]
theorem f25_v (R : Type) (a b : List Int) (hb : a.length ≤ 140737488355328) : Ev fun k => ∀ (K : Bool → Option R), f25 k a b K = K (decide (a = b)) := by
  by_cases hl : a.length = b.length
  · refine (f25_loop R a b hl hb 0 (Nat.zero_le _)).imp fun k hk K => ?_
    have hk := hk (K true) K
    simp only [Int.natCast_zero, List.drop_zero] at hk
    rw [f25, bne_len, hk]
    simp only [hl, decide_true, Bool.not_true, cond_false]
    by_cases e : a = b
    · rw [if_pos e, deT e]
    · rw [if_neg e, deF e]
  · refine .all fun k K => ?_
    rw [f25, bne_len, deF hl, deF (by rintro rfl; exact hl rfl)]; rfl
def letter (c : Int) : Bool := (decide (97 ≤ c) && decide (c ≤ 122)) || (decide (48 ≤ c) && decide (c ≤ 57))
def isTy (l : List Int) : Bool := decide (l.length = 4) && l.all letter
theorem f53_v {R : Type} (k : Nat) (c : Int) (K : Bool → Option R) : f53 k c K = K (letter c) := by
  rw [f53, letter]
  by_cases h1 : 97 ≤ c
  · rw [deT (show c ≥ 97 from h1)]
    by_cases h2 : c ≤ 122
    · rw [deT h2]; rfl
    · rw [deF h2, deF (show ¬ c ≤ 57 by omega), deT (show c ≥ 48 by omega)]; rfl
  · rw [deF (show ¬ c ≥ 97 from h1)]
    by_cases h3 : 48 ≤ c
    · rw [deT (show c ≥ 48 from h3)]; simp
    · rw [deF (show ¬ c ≥ 48 from h3)]; simp
theorem four {l : List Int} (h : l.length = 4) : ∃ a b c d, l = [a, b, c, d] := by
  match l, h with
  | [a, b, c, d], _ => exact ⟨a, b, c, d, rfl⟩
theorem isTy_four (a b c d : Int) : isTy [a, b, c, d] = (letter a && (letter b && (letter c && letter d))) := by
  simp [isTy]
theorem f26_v (R : Type) (a : ByteArray) : Ev fun k => ∀ (K : Int → Int → Option R), f26 k a K = if isTy (bytesOf a) = true then K (valF (bytesOf a) 0) 0 else K 0 80 := by
  by_cases h4 : (bytesOf a).length = 4
  · obtain ⟨x, y, z, u, hl⟩ := four h4
    have hb := okBy_bytesOf a
    have hs : a.size = 4 := by rw [← bytesOf_len]; exact h4
    have h54 := f54_v R (bytesOf a) hb (by rw [h4]; omega) (n := 4) (by decide) (by decide) (by omega)
    have hn : num (bytesOf a) 4 = valF (bytesOf a) 0 := by rw [num_small hb (by omega) (by decide), List.take_of_length_le (by omega)]
    refine h54.imp fun k h54 K => ?_
    have e4 : ((4 : Nat) : Int) = 4 := rfl
    rw [hn, e4] at h54
    have g0 := str_get a 0
    have g1 := str_get a 1
    have g2 := str_get a 2
    have g3 := str_get a 3
    rw [hl] at g0 g1 g2 g3
    simp only [List.getD_cons_zero, List.getD_cons_succ] at g0 g1 g2 g3
    rw [f26, hs]
    have i0 : inb 0 4 = true := rfl
    have i1 : inb 1 4 = true := rfl
    have i2 : inb 2 4 = true := rfl
    have i3 : inb 3 4 = true := rfl
    rw [bnF (show ((4 : Nat) : Int) = 4 from rfl)]
    simp only [cond_false, i0, i1, i2, i3, cond_true, f53_v, g0, g1, g2, g3, h54]
    rw [hl, isTy_four]
    cases letter x with
    | false => rfl
    | true => cases letter y with
      | false => rfl
      | true => cases letter z with
        | false => rfl
        | true => cases letter u <;> rfl
  · refine .all fun k K => ?_
    have hs : ¬ (a.size : Int) = 4 := by rw [← bytesOf_len]; omega
    have ht : isTy (bytesOf a) = false := by simp [isTy, h4]
    rw [f26, bnT hs, ht]; rfl
theorem f55_loop (R : Type) (l : List Int) (hb : l.length ≤ reachBytes) : ∀ i, i ≤ l.length → Ev fun k => ∀ (X0 : List Int → Option R) (X1 : Bool → Option R), f55_l2 k l (i : Int) X0 X1 = if (l.drop i).all letter = true then X0 l else X1 false := by
  rw [reachV] at hb
  refine Ev.down l.length ?_ ?_
  · refine Ev.suc (.all fun k X0 X1 => ?_)
    rw [f55_l2, lt_nat, List.drop_length]; simp
  · intro i hi h
    refine Ev.suc (h.imp fun k hk X0 X1 => ?_)
    rw [f55_l2, lt_nat, inb_nat, wrapSuc (by omega), List.drop_eq_getElem_cons hi, List.all_cons]
    simp only [hi, decide_true, cond_true, Int.toNat_natCast, getD_get hi, hk]
    have f : ∀ {p q : Bool} {x y : Option R}, (if (p && q) = true then x else y) = bif p then (if q = true then x else y) else y := by
      intro p q x y; cases p <;> rfl
    rw [f, letter]
    by_cases h1 : 97 ≤ l[i]
    · rw [deT (show l[i] ≥ 97 from h1)]
      by_cases h2 : l[i] ≤ 122
      · rw [deT h2]; rfl
      · rw [deF h2, deF (show ¬ l[i] ≤ 57 by omega), deT (show l[i] ≥ 48 by omega)]; rfl
    · rw [deF (show ¬ l[i] ≥ 97 from h1)]
      by_cases h3 : 48 ≤ l[i]
      · rw [deT (show l[i] ≥ 48 from h3)]
        by_cases h4 : l[i] ≤ 57
        · rw [deT h4]; rfl
        · rw [deF h4]; rfl
      · rw [deF (show ¬ l[i] ≥ 48 from h3)]; rfl
theorem f55_v (R : Type) (l : List Int) (hb : l.length ≤ reachBytes) : Ev fun k => ∀ (K : Bool → Option R), f55 k l K = K (isTy l) := by
  refine (f55_loop R l hb 0 (Nat.zero_le _)).imp fun k hk K => ?_
  have hk := hk (fun v3 => K ((v3.length : Int) == 4)) K
  simp only [Int.natCast_zero, List.drop_zero] at hk
  rw [f55, hk, isTy]
  cases l.all letter with
  | false => simp
  | true =>
    rw [if_pos rfl, beq_dec, Bool.and_true]
    congr 1
    exact decide_eq_decide.2 (by omega)
theorem f56_loop (R : Type) (l : List Int) (hl : okBy l) (h7 : l.length ≤ 7) : ∀ i, i ≤ l.length → Ev fun k => ∀ (v : Int) (X : Int → Option R), 0 ≤ v → v < 256 ^ i → f56_l3 k l v (i : Int) X = X (valF (l.drop i) v) := by
  refine Ev.down l.length ?_ ?_
  · exact Ev.suc (.all fun k v X _ _ => by simp [f56_l3, valF])
  · intro i hi h
    refine Ev.suc (h.imp fun k hk v X h0 h1 => ?_)
    have hc := hl.get hi
    have hp : (256 : Int) ^ i ≤ 281474976710656 := by
      have h2 : (256 : Nat) ^ i ≤ 281474976710656 := Nat.le_trans (Nat.pow_le_pow_right (by decide) (show i ≤ 6 by omega)) (by decide)
      have e : ((256 ^ i : Nat) : Int) = (256 : Int) ^ i := Int.natCast_pow 256 i
      omega
    rw [f56_l3, lt_nat, inb_nat, wrapSuc (by omega)]
    simp only [hi, decide_true, cond_true, Int.toNat_natCast, getD_get hi]
    rw [wr (n := l[i]) (by omega), wr (n := v * 256) (by omega), wr (by omega)]
    have hv : v * 256 + l[i] < 256 ^ (i + 1) := by
      rw [Int.pow_succ]; omega
    rw [hk _ X (by omega) hv, List.drop_eq_getElem_cons hi, valF_cons]
theorem f56_v (R : Type) (l : List Int) (hl : okBy l) (h7 : l.length ≤ 7) : Ev fun k => ∀ (K : Int → Option R), f56 k l K = K (valF l 0) := by
  refine (f56_loop R l hl h7 0 (Nat.zero_le _)).imp fun k hk K => ?_
  have hk := hk 0 K (by omega) (by decide)
  simp only [Int.natCast_zero, List.drop_zero] at hk
  rw [f56, hk]
theorem f27_v (R : Type) (a : ByteArray) (hb : a.size ≤ reachBytes) : Ev fun k => ∀ (K : Int → Int → Option R), f27 k a K = if isTy (bytesOf a) = true then K (valF (bytesOf a) 0) 0 else K 0 80 := by
  have h55 := f55_v R (bytesOf a) (by rw [bytesOf_len]; exact hb)
  by_cases h : isTy (bytesOf a) = true
  · have h4 : (bytesOf a).length = 4 := by
      simp only [isTy, Bool.and_eq_true, decide_eq_true_eq] at h; exact h.1
    refine h55.imp2 (f56_v R (bytesOf a) (okBy_bytesOf a) (by omega)) fun k h1 h2 K => ?_
    rw [f27, h1, h2, if_pos h, h]; rfl
  · refine h55.imp fun k h1 K => ?_
    rw [f27, h1, if_neg h, Bool.eq_false_iff.2 h]; rfl
theorem f61_v {R : Type} (k : Nat) (a : List Int) (h : a.length ≤ 140737488355328) (K : List Int → Option R) : f61_2 k a K = K a := by
  rw [f61_2, roT (by simp; omega)]; rfl
inductive Res | bad (c : Int) (at_ : Nat) | fine (kids : List D1) (nd : Nat) (pl : List D0)
theorem f18_loop (R : Type) (l : List D1) (hb : l.length * 64 ≤ reachBytes) (h : ∀ i (h : i < l.length), Ev fun k => ∀ (K : Bool → Option R), f34_2 k l[i].c0 l[i].c1 l[i].c2 l[i].c3 l[i].c0 l[i].c1 l[i].c2 l[i].c3 K = K true) :
    ∀ i, i ≤ l.length → EvB fun q j => ∀ (X0 : Option R) (X1 : Bool → Option R), f18_l4 (fun _ => f34_2 q) j l l (i : Int) X0 X1 = X0 := by
  rw [reachV] at hb
  refine EvB.down l.length ?_ ?_
  · refine EvB.suc (.all fun q j X0 X1 => ?_)
    rw [f18_l4, ifF (by omega)]
  · intro i hi ih
    refine EvB.suc ((ih.and (.left (h i hi))).imp fun q j hk X0 X1 => ?_)
    obtain ⟨hk, h34⟩ := hk
    rw [f18_l4, lt_nat, inb_nat, wrapSuc (by omega)]
    simp only [hi, decide_true, cond_true, Int.toNat_natCast, getD_get hi, h34, hk, Bool.not_true, cond_false]
theorem f34_v (R : Type) : ∀ n : D1, OkN n → Ev fun k => ∀ (K : Bool → Option R), f34_2 k n.c0 n.c1 n.c2 n.c3 n.c0 n.c1 n.c2 n.c3 K = K true := by
  intro n
  refine D1.ind (P := fun n => OkN n → Ev fun k => ∀ (K : Bool → Option R), f34_2 k n.c0 n.c1 n.c2 n.c3 n.c0 n.c1 n.c2 n.c3 K = K true) (fun i d ks g ih ho => ?_) n
  have hk := ho.kids
  have hd : d.length ≤ reachBytes := ho.len
  rw [reachV] at hd
  refine .suc ?_
  have loop := (f18_loop R ks hk.1 (fun i hi => ih _ (List.getElem_mem hi) (hk.2 _ (List.getElem_mem hi))) 0 (Nat.zero_le _)).diag
  have h18 : Ev fun k => ∀ (K : Bool → Option R), f18 k ks ks K = K true := .suc (loop.imp fun k h K => by
    rw [f18_step, f18_s, bnF rfl, cond_false]
    exact h _ K)
  refine (f25_v R d d (by omega)).imp2 h18 fun k h25 h18 K => ?_
  show f34_2 (k + 1) i d ks g i d ks g K = _
  rw [f34_2_step, f34_2_s, beT rfl, h25, deT rfl]
  simp [h18]
theorem f18_v (R : Type) (l : List D1) (h : OkL l) : Ev fun k => ∀ (K : Bool → Option R), f18 k l l K = K true := by
  refine .suc ((f18_loop R l h.1 (fun i hi => f34_v R _ (h.2 _ (List.getElem_mem hi))) 0 (Nat.zero_le _)).diag.imp fun k h K => ?_)
  rw [f18_step, f18_s, bnF rfl, cond_false]
  exact h _ K
def Res.a : Res → Int | .bad _ a => a | .fine _ _ _ => 0
def Res.c : Res → Int | .bad c _ => c | .fine _ _ _ => 0
def Res.kids : Res → List D1 | .bad _ _ => [] | .fine kids _ _ => kids
/-- The boxes of the type named. -/
def allN (ns : List D1) (p : ByteArray) : List D1 := if isTy (bytesOf p) = true then ns.filter fun n => n.c0 == valF (bytesOf p) 0 else []
theorem allN_mem {ns : List D1} {p : ByteArray} {n : D1} (h : n ∈ allN ns p) : n ∈ ns := by
  unfold allN at h
  split at h
  · exact (List.mem_filter.1 h).1
  · cases h
theorem allN_ok {ns : List D1} (h : OkL ns) (p : ByteArray) : OkL (allN ns p) := by
  refine ⟨?_, fun x hx => h.2 x (allN_mem hx)⟩
  have h1 := h.1
  unfold allN
  split
  · have := List.length_filter_le (fun n => n.c0 == valF (bytesOf p) 0) ns
    omega
  · simp
def idxOf (id : Int) : List D1 → Option Nat
  | [] => none
  | x :: l => if x.c0 = id then some 0 else (idxOf id l).map (· + 1)
theorem idx_filter (id : Int) : ∀ l : List D1, match idxOf id l with
    | none => (l.filter fun n => n.c0 == id) = []
    | some j => ∃ (h : j < l.length) (t : List D1), (l.filter fun n => n.c0 == id) = l[j] :: t
  | [] => rfl
  | x :: l => by
    have ih := idx_filter id l
    rw [idxOf, List.filter_cons]
    by_cases c : x.c0 = id
    · rw [if_pos c, if_pos (beT c)]
      exact ⟨by simp, _, rfl⟩
    · rw [if_neg c, if_neg (by rw [beF c]; decide)]
      cases h : idxOf id l with
      | none => rw [h] at ih; exact ih
      | some j =>
        rw [h] at ih
        obtain ⟨h1, t, h2⟩ := ih
        exact ⟨by simp; omega, t, by rw [h2]; rfl⟩
theorem f62_loop (R : Type) (l : List D1) (id : Int) (hl : l.length ≤ 140737488355328) : ∀ i, i ≤ l.length → Ev fun k => ∀ (X0 : Int → Option R) (X1 : Int → Int → Option R), f62_l2 k l (l.length : Int) (i : Int) id X0 X1 = match idxOf id (l.drop i) with
    | none => X0 id
    | some j => X1 ((i + j : Nat) : Int) id := by
  refine Ev.down l.length ?_ ?_
  · refine Ev.suc (.all fun k X0 X1 => ?_)
    rw [List.drop_length, f62_l2, ifF (by omega)]; rfl
  · intro i hi h
    refine Ev.suc (h.imp fun k hk X0 X1 => ?_)
    rw [List.drop_eq_getElem_cons hi, idxOf, f62_l2, lt_nat, inb_nat, wrapSuc (by omega)]
    simp only [hi, decide_true, cond_true, Int.toNat_natCast, getD_get hi, f63]
    by_cases c : l[i].c0 = id
    · rw [beT c, if_pos c]; rfl
    · rw [beF c, if_neg c, cond_false, hk]
      cases idxOf id (l.drop (i + 1)) with
      | none => rfl
      | some j => show X1 _ _ = X1 _ _; rw [show i + 1 + j = i + (j + 1) by omega]
theorem f62_v (R : Type) (l : List D1) (id : Int) (hl : l.length ≤ 140737488355328) : Ev fun k => ∀ (K : Int → Int → Option R), f62 k l id K = match idxOf id l with
    | none => K (-1) id
    | some j => K (j : Int) id := by
  refine (f62_loop R l id hl 0 (Nat.zero_le _)).imp fun k hk K => ?_
  have hk := hk (fun v7 => K (-1) v7) K
  rw [List.drop_zero] at hk
  rw [f62]
  refine hk.trans ?_
  cases idxOf id l with
  | none => rfl
  | some j => show K _ _ = K _ _; rw [Nat.zero_add]
theorem set_self {l : List D1} {i : Nat} (h : i < l.length) : l.set i l[i] = l := by simp
theorem f64_loop (R : Type) (id : Int) (g : Bool) (d : List Int) (l : List D1) (x : Int) (y : Bool) (hl : l.length ≤ 140737488355328) (h : ∀ i (h : i < l.length), Ev fun k => ∀ (K : Int → Bool → List Int → List D1 → Option R), f64 k l[i].c0 l[i].c1 l[i].c2 l[i].c3 K = K l[i].c0 l[i].c3 l[i].c1 l[i].c2) :
    ∀ i, i ≤ l.length → EvB fun q j => ∀ (X0 : Int → Bool → List Int → List D1 → Int → Bool → Option R), f64_l4 (fun _ => f64 q) j (l.length : Int) (i : Int) id g d l x y X0 = X0 id g d l x y := by
  refine EvB.down l.length ?_ ?_
  · refine EvB.suc (.all fun q j X0 => ?_)
    rw [f64_l4, ifF (by omega)]
  · intro i hi ih
    refine EvB.suc ((ih.and (.left (h i hi))).imp fun q j hk X0 => ?_)
    obtain ⟨hk, h64⟩ := hk
    rw [f64_l4, lt_nat, inb_nat, wrapSuc (by omega)]
    simp only [hi, decide_true, cond_true, Int.toNat_natCast, getD_get hi, h64, D1.eta, set_self hi, hk]
theorem f64_v (R : Type) : ∀ n : D1, OkN n → Ev fun k => ∀ (K : Int → Bool → List Int → List D1 → Option R), f64 k n.c0 n.c1 n.c2 n.c3 K = K n.c0 n.c3 n.c1 n.c2 := by
  intro n
  refine D1.ind (P := fun n => OkN n → Ev fun k => ∀ (K : Int → Bool → List Int → List D1 → Option R), f64 k n.c0 n.c1 n.c2 n.c3 K = K n.c0 n.c3 n.c1 n.c2) (fun i d ks g ih ho => ?_) n
  have hk := ho.kids
  have hd : d.length ≤ reachBytes := ho.len
  rw [reachV] at hd
  have hkl : ks.length * 64 ≤ reachBytes := hk.1
  rw [reachV] at hkl
  refine .suc ((f64_loop R i g d ks 0 false (by omega) (fun i hi => ih _ (List.getElem_mem hi) (hk.2 _ (List.getElem_mem hi))) 0 (Nat.zero_le _)).diag.imp fun k h K => ?_)
  show f64 (k + 1) i d ks g K = K i g d ks
  rw [f64_step, f64_s, f61_v _ _ (by omega), f81_2, roT (show (([] : List D1).length + ks.length) * 64 ≤ 140737488355328 by simp; omega), cond_true]
  exact h _
theorem f40_loop (R : Type) (l : List D1) (id e : Int) (hl : l.length * 64 ≤ 140737488355328) : ∀ i, i ≤ l.length → Ev fun k => ∀ (acc : List D1) (X0 : List D1 → Option R), acc.length ≤ i → f40_l4 k l id e (i : Int) acc X0 = X0 (acc ++ if e = 0 then (l.drop i).filter fun n => n.c0 == id else []) := by
  refine Ev.down l.length ?_ ?_
  · refine Ev.suc (.all fun k acc X0 _ => ?_)
    rw [List.drop_length, f40_l4, ifF (by omega)]; simp
  · intro i hi h
    refine Ev.suc (h.imp fun k hk acc X0 ha => ?_)
    rw [List.drop_eq_getElem_cons hi, List.filter_cons, f40_l4, lt_nat, inb_nat, wrapSuc (by omega)]
    simp only [hi, decide_true, cond_true, Int.toNat_natCast, getD_get hi, D1.eta]
    by_cases ce : e = 0
    · rw [beT ce, cond_true, if_pos ce]
      by_cases c : l[i].c0 = id
      · rw [beT c, cond_true, if_pos rfl, roT (by simp; omega), cond_true, hk _ _ (by simp; omega), if_pos ce]; simp
      · rw [beF c, cond_false, if_neg (by decide), hk _ _ (by omega), if_pos ce]
    · rw [beF ce, cond_false, hk _ _ (by omega), if_neg ce, if_neg ce]
theorem f40_v (R : Type) (l : List D1) (h : OkL l) (p : ByteArray) (hp : p.size ≤ reachBytes) : Ev fun k => ∀ (K : List D1 → Option R), f40 k l p K = K (allN l p) := by
  have h1 := h.1
  rw [reachV] at h1
  refine (f27_v R p hp).imp2 ((f40_loop R l (valF (bytesOf p) 0) 0 (by omega) 0 (Nat.zero_le _)).and (f40_loop R l 0 80 (by omega) 0 (Nat.zero_le _))) fun k h27 hk K => ?_
  rw [f40, h27, allN]
  split
  · exact (hk.1 [] K (by simp)).trans (by simp)
  · exact (hk.2 [] K (by simp)).trans (by simp)
theorem f39_loop (R : Type) (l : List D1) (id e : Int) (hl : OkL l) : ∀ i, i ≤ l.length → Ev fun k => ∀ (acc : List D1) (X0 : List D1 → Option R), acc.length ≤ i → f39_l4 k id e l (l.length : Int) (i : Int) acc X0 = X0 (acc ++ if e = 0 then (l.drop i).filter fun n => n.c0 == id else []) := by
  have h1 := hl.1
  rw [reachV] at h1
  refine Ev.down l.length ?_ ?_
  · refine Ev.suc (.all fun k acc X0 _ => ?_)
    rw [List.drop_length, f39_l4, ifF (by omega)]; simp
  · intro i hi h
    refine Ev.suc ((h.and (f64_v R _ (hl.2 _ (List.getElem_mem hi)))).imp fun k hh acc X0 ha => ?_)
    obtain ⟨hk, h64⟩ := hh
    rw [List.drop_eq_getElem_cons hi, List.filter_cons, f39_l4, lt_nat, inb_nat, wrapSuc (by omega)]
    simp only [hi, decide_true, cond_true, Int.toNat_natCast, getD_get hi, h64, D1.eta]
    by_cases ce : e = 0
    · rw [beT ce, cond_true, if_pos ce]
      by_cases c : l[i].c0 = id
      · rw [beT c, cond_true, if_pos rfl, roT (by simp; omega), cond_true, hk _ _ (by simp; omega), if_pos ce]; simp
      · rw [beF c, cond_false, if_neg (by decide), hk _ _ (by omega), if_pos ce]
    · rw [beF ce, cond_false, hk _ _ (by omega), if_neg ce, if_neg ce]
theorem f39_v (R : Type) (l : List D1) (h : OkL l) (p : ByteArray) : Ev fun k => ∀ (K : List D1 → Option R), f39 k l p K = K (allN l p) := by
  refine (f26_v R p).imp2 ((f39_loop R l (valF (bytesOf p) 0) 0 h 0 (Nat.zero_le _)).and (f39_loop R l 0 80 h 0 (Nat.zero_le _))) fun k h26 hk K => ?_
  rw [f39, h26, allN]
  split
  · exact (hk.1 [] K (by simp)).trans (by simp)
  · exact (hk.2 [] K (by simp)).trans (by simp)
def goF : List D1 → List ByteArray → D1 → Option D1
  | _, [], cur => some cur
  | ns, p :: ps, _ => match allN ns p with
    | [] => none
    | n :: _ => goF n.c2 ps n
theorem goF_ok : ∀ (ps : List ByteArray) {ns : List D1} {cur n : D1}, OkL ns → OkN cur → goF ns ps cur = some n → OkN n
  | [], ns, cur, n, _, h, e => by rw [goF] at e; cases e; exact h
  | p :: ps, ns, cur, n, h, _, e => by
    rw [goF] at e
    split at e
    · cases e
    · rename_i m t hm
      have hn : OkN m := h.2 _ (allN_mem (p := p) (by rw [hm]; simp))
      exact goF_ok ps hn.kids hn e
theorem f37_loop (R : Type) (l : List ByteArray) (hl : l.length ≤ 140737488355328) : ∀ (m i : Nat), i + m = l.length → ∀ (ns : List D1) (cur : D1), OkL ns → Ev fun k => ∀ (x : Int) (y : Bool) (X0 : List ByteArray → Int → Bool → Int → List Int → List D1 → Bool → Option R) (X1 : Bool → Int → Bool → Option R),
    f37_l3 k ns l l (l.length : Int) (i : Int) x y cur.c0 cur.c1 cur.c2 cur.c3 X0 X1 = match goF ns (l.drop i) cur with
    | none => X1 false 0 false
    | some n => X0 l x y n.c0 n.c1 n.c2 n.c3 := by
  intro m
  induction m with
  | zero =>
    intro i e ns cur h
    refine Ev.suc (.all fun k x y X0 X1 => ?_)
    rw [show i = l.length by omega, List.drop_length, f37_l3, ifF (by omega), goF]
  | succ m ih =>
    intro i e ns cur h
    have hi : i < l.length := by omega
    have h1 := h.1
    rw [reachV] at h1
    have h26 := f26_v R l[i]
    by_cases c : isTy (bytesOf l[i]) = true
    · have h62 := f62_v R ns (valF (bytesOf l[i]) 0) (by omega)
      have hf := idx_filter (valF (bytesOf l[i]) 0) ns
      cases hx : idxOf (valF (bytesOf l[i]) 0) ns with
      | none =>
        rw [hx] at hf h62
        refine Ev.suc (h26.imp2 h62 fun k h26 h62 x y X0 X1 => ?_)
        rw [List.drop_eq_getElem_cons hi, goF, allN, if_pos c, hf, f37_l3, lt_nat, inb_nat]
        simp only [hi, decide_true, cond_true, Int.toNat_natCast, getD_get hi]
        rw [h26, if_pos c, h62, bnF rfl]; rfl
      | some j =>
        rw [hx] at hf h62
        obtain ⟨hj, t, hf⟩ := hf
        have hn : OkN ns[j] := h.2 _ (List.getElem_mem hj)
        refine Ev.suc (h26.imp3 h62 (ih (i + 1) (by omega) ns[j].c2 ns[j] hn.kids) fun k h26 h62 ih x y X0 X1 => ?_)
        rw [List.drop_eq_getElem_cons hi, goF, allN, if_pos c, hf, f37_l3, lt_nat, inb_nat, wrapSuc (by omega)]
        simp only [hi, decide_true, cond_true, Int.toNat_natCast, getD_get hi]
        rw [h26, if_pos c, h62]
        dsimp only
        rw [bnF rfl, cond_false, deF (by omega), cond_false, inb_nat]
        simp only [hj, decide_true, cond_true, Int.toNat_natCast, getD_get hj]
        exact ih x y X0 X1
    · refine Ev.suc (h26.imp2 ((f62_v R ns 0 (by omega))) fun k h26 h62 x y X0 X1 => ?_)
      rw [List.drop_eq_getElem_cons hi, goF, allN, if_neg c, f37_l3, lt_nat, inb_nat]
      simp only [hi, decide_true, cond_true, Int.toNat_natCast, getD_get hi]
      rw [h26, if_neg c, h62]
      cases idxOf 0 ns <;> rfl
def zeroN : D1 := .mk 0 [] [] false
theorem zeroN_ok : OkN zeroN := .mk (by decide) (by intro x hx; cases hx) (by simp) (by simp) (by intro x hx; cases hx)
theorem f37_v (R : Type) (ns : List D1) (h : OkL ns) (l : List ByteArray) (hl : l.length ≤ 140737488355328) : Ev fun k => ∀ (K : Int → Bool → Bool → List Int → List D1 → Option R), f37 k ns l K = match goF ns l zeroN with
    | none => K 0 false false [] []
    | some n => K n.c0 n.c3 (decide (0 < l.length)) n.c1 n.c2 := by
  have loop := f37_loop R l hl l.length 0 (by omega) ns zeroN h
  cases hg : goF ns l zeroN with
  | none =>
    refine loop.imp fun k hk K => ?_
    rw [List.drop_zero, hg] at hk
    rw [f37]
    exact hk 0 false _ _
  | some n =>
    refine loop.imp2 (f64_v R n (goF_ok l h zeroN_ok hg)) fun k hk h64 K => ?_
    rw [List.drop_zero, hg] at hk
    rw [f37]
    refine (hk 0 false _ _).trans ?_
    dsimp only
    rw [h64]
    have : decide ((l.length : Int) > 0) = decide (0 < l.length) := by rcases l with _ | ⟨x, l⟩ <;> simp
    rw [this]
theorem f38_v (R : Type) : ∀ (ps : List ByteArray) (p : ByteArray) (ns : List D1), OkL ns → (∀ x ∈ p :: ps, x.size ≤ reachBytes) → ps.length ≤ 140737488355327 → Ev fun k => ∀ (K : Int → List Int → List D1 → Bool → Bool → Option R), f38 k ns (p :: ps) K = match goF ns (p :: ps) zeroN with
    | none => K 0 [] [] false false
    | some n => K n.c0 n.c1 n.c2 n.c3 true := by
  intro ps
  induction ps with
  | nil =>
    intro p ns h hp hl
    refine .suc ((f40_v R ns h p (hp p (by simp))).imp fun k h40 K => ?_)
    rw [f38_step, f38_s, goF, beF (by simp), cond_false, inT (by simp), cond_true]
    show f40 k ns p _ = _
    rw [h40]
    cases allN ns p with
    | nil => rfl
    | cons n t =>
      rw [beF (by simp <;> omega), cond_false, beT (by simp), cond_true, inT (by simp <;> omega), cond_true]
      rfl
  | cons q ps ih =>
    intro p ns h hp hl
    cases ha : allN ns p with
    | nil =>
      refine .suc ((f40_v R ns h p (hp p (by simp))).imp fun k h40 K => ?_)
      rw [f38_step, f38_s, goF, beF (by simp <;> omega), cond_false, inT (by simp <;> omega), cond_true]
      show f40 k ns p _ = _
      rw [h40, ha]; rfl
    | cons n t =>
      have hn : OkN n := h.2 _ (allN_mem (p := p) (by rw [ha]; simp))
      refine .suc ((f40_v R ns h p (hp p (by simp))).imp2 (ih q n.c2 hn.kids (fun x hx => hp x (by simp [hx])) (by simp at hl; omega)) fun k h40 ih K => ?_)
      rw [f38_step, f38_s, goF, beF (by simp <;> omega), cond_false, inT (by simp <;> omega), cond_true]
      show f40 k ns p _ = _
      rw [h40, ha]
      rw [beF (by simp <;> omega), cond_false, beF (by simp <;> omega), cond_false, inT (by simp <;> omega), cond_true, upT (by simp <;> omega), cond_true]
      exact ih K
theorem f38_nil (R : Type) (ns : List D1) : Ev fun k => ∀ (K : Int → List Int → List D1 → Bool → Bool → Option R), f38 k ns [] K = K 0 [] [] false false :=
  .suc (.all fun k K => rfl)
theorem boxFinds_plain (ns : List D1) (h : OkL ns) (ps : List ByteArray) (hl : ps.length ≤ 140737488355327) (hp : ∀ x ∈ ps, x.size ≤ reachBytes) (p : ByteArray) (hpp : p.size ≤ reachBytes) : ∃ k, f9 (R := Bool) k ns ps p some = some true := by
  have h37 := f37_v Bool ns h ps (by omega)
  have h39 := f39_v Bool ns h p
  have h40 := f40_v Bool ns h p hpp
  have h18 := f18_v Bool _ (allN_ok h p)
  have h38 : Ev fun k => ∀ (K : Int → List Int → List D1 → Bool → Bool → Option Bool), f38 k ns ps K = match goF ns ps zeroN with
    | none => K 0 [] [] false false
    | some n => K n.c0 n.c1 n.c2 n.c3 (decide (0 < ps.length)) := by
    cases ps with
    | nil => exact (f38_nil Bool ns).imp fun k hk K => hk K
    | cons q ps =>
      refine (f38_v Bool ps q ns h hp (by simp at hl; omega)).imp fun k hk K => ?_
      rw [hk, show decide (0 < (q :: ps).length) = true from by simp]
  have rest := ((h39.imp3 h40 h18 fun k a b c => (⟨a, b, c⟩ : _ ∧ _ ∧ _)).imp2 (awake_v Bool) fun k a b => (⟨a, b⟩ : _ ∧ _))
  cases hg : goF ns ps zeroN with
  | none =>
    rw [hg] at h37 h38
    refine ((h37.imp3 h38 (f34_v Bool zeroN zeroN_ok) fun k a b c => (⟨a, b, c⟩ : _ ∧ _ ∧ _)).imp2 rest fun k a b => ?_ : Ev fun k => f9 (R := Bool) k ns ps p some = some true).some
    obtain ⟨a1, a2, a3⟩ := a
    obtain ⟨⟨b1, b2, b3⟩, b4⟩ := b
    rw [f9, a1]
    dsimp only
    rw [a2]
    dsimp only
    refine (a3 _).trans ?_
    rw [cond_true, b1, b2, b3, b4]; rfl
  | some n =>
    rw [hg] at h37 h38
    refine ((h37.imp3 h38 (f34_v Bool n (goF_ok ps h zeroN_ok hg)) fun k a b c => (⟨a, b, c⟩ : _ ∧ _ ∧ _)).imp2 rest fun k a b => ?_ : Ev fun k => f9 (R := Bool) k ns ps p some = some true).some
    obtain ⟨a1, a2, a3⟩ := a
    obtain ⟨⟨b1, b2, b3⟩, b4⟩ := b
    rw [f9, a1]
    dsimp only
    rw [a2]
    dsimp only
    rw [a3, cond_true, b1, b2, b3, b4]
    simp
theorem ownKn : ownKnob Tryd.prog.godebug = none := by kernel_rfl
theorem laidOut : laidOutB Tryd.prog = true := by kernel_rfl
noncomputable def naming : Naming cx where
  flds := flds
  toT := toT
  ofT := ofT
  plain := fun r => match r with
    | 0 => rfl
    | 1 => rfl
    | 2 => rfl
    | 3 => rfl
    | 4 => rfl
    | 5 => rfl
    | 6 => rfl
    | _n + 7 => rfl
  to_of := fun r x => match r, x with
    | 0, _ => rfl
    | 1, _ => rfl
    | 2, _ => rfl
    | 3, _ => rfl
    | 4, _ => rfl
    | 5, _ => rfl
    | 6, _ => rfl
    | _n + 7, _ => rfl
  deep := fun r v => match r, v with
    | 0, _ => rfl
    | 1, v => deep1_eq v
    | 2, _ => rfl
    | 3, _ => rfl
    | 4, _ => rfl
    | 5, _ => rfl
    | 6, _ => rfl
    | _n + 7, _ => rfl
theorem fit : Fit naming Tryd.prog := fit_of (tab := tab) rfl (by kernel_rfl)
theorem wf_bytes {z : Nat} {l : List Int} (h : WfIV (.list z (l.map fun y => [.int .u8 y]))) : l.length ≤ reachBytes ∧ ∀ n ∈ l, 0 ≤ n ∧ n < 256 := by
  cases h with
  | list h1 h2 _ =>
    refine ⟨by simpa using h1, fun n hn => ?_⟩
    have := h2 _ (List.mem_map.2 ⟨n, hn, rfl⟩) _ (List.mem_singleton.2 rfl)
    cases this with
    | int h3 => simp [Lit.wf, IntKind.min, IntKind.max, IntKind.signed, IntKind.bits] at h3; omega
theorem wf_int {n : Int} (h : WfIV (.int .i64 n)) : -9223372036854775808 ≤ n ∧ n < 9223372036854775808 := by
  cases h with
  | int h3 => simp [Lit.wf, IntKind.min, IntKind.max, IntKind.signed, IntKind.bits] at h3; omega
theorem gErr : Tryd.prog.globalNamed "errors.errorType" = some 0 := by kernel_rfl
theorem gTab : Tryd.prog.globalNamed "strings.asciiSpace" = some 1 := by kernel_rfl
theorem gTabType : (Tryd.prog.globals[1]?).map (·.type) = some 145 := by kernel_rfl
theorem cells145 : Tryd.prog.cellsOf 145 = 256 := by kernel_rfl
theorem cells5 : Tryd.prog.cellsOf 5 = 1 := by kernel_rfl
theorem rt149 : (Tryd.prog.cutTypes.find? (·.1 == "internal/reflectlite.rtype")).map (·.2) = some 149 := by kernel_rfl
theorem oneRow : ((List.range 209).filter fun t => Tryd.prog.rowNamed t [101, 114, 114, 111, 114]) = [108] := by kernel_rfl
theorem nTypes : Tryd.prog.types.size = 209 := by kernel_rfl
def laidL : List (String × DataW Unit) := [("errors.errorType", Rows.laid_errors_errorType), ("unicode.White_Space", Rows.laid_unicode_White_Space), ("strings.asciiSpace", Rows.laid_strings_asciiSpace)]
theorem tabData_eq : (Rows.laid_strings_asciiSpace : DataW Unit) = Lib.tabData .u8 asciiTab := by kernel_rfl
theorem laid_parts {W : World} (h : laidMetH Tryd.prog laidL W) : laidMet Tryd.prog [("unicode.White_Space", Rows.laid_unicode_White_Space), ("strings.asciiSpace", Rows.laid_strings_asciiSpace)] W ∧ handlesMet Tryd.prog [("errors.errorType", Rows.laid_errors_errorType)] W := h
theorem handle_of_laid {W : World} (h : laidMetH Tryd.prog laidL W) : W.cell? ⟨0, 0, none⟩ = some (.iface 149 (.agg #[.pointer (some ⟨4, 108, none⟩)])) := by
  obtain ⟨name, u, ty, e1, e2, e3, e4, e5⟩ := (laid_parts h).2 _ (List.mem_singleton.2 rfl)
  have en : name = [101, 114, 114, 111, 114] := (Option.some.inj e1).symm
  subst en
  obtain rfl := Option.some.inj (rt149.symm.trans e2)
  have hm : ty ∈ (List.range 209).filter fun t => Tryd.prog.rowNamed t [101, 114, 114, 111, 114] := List.mem_filter.2 ⟨List.mem_range.2 (by rw [← nTypes]; exact e3), e4⟩
  rw [oneRow] at hm
  obtain rfl := List.mem_singleton.1 hm
  have hh : typeHandle Tryd.prog 108 = .pointer (some ⟨4, 108, none⟩) := by kernel_rfl
  rw [hh] at e5
  simpa using World.var?_cell gErr e5 0
theorem tab_of_laid {W : World} (h : laidMetH Tryd.prog laidL W) : Lib.TabIs Tryd.prog W "strings.asciiSpace" .u8 asciiTab := by
  obtain ⟨ps, ⟨g', t', cs, fuel, p, q, hg', ht', hvar, hd, ⟨g2, t2, cs2, fuel2, p2, q2, hg2, ht2, hvar2, hd2, _, _⟩, _⟩, _⟩ := (laid_parts h).1
  obtain rfl := Option.some.inj (gTab.symm.trans hg2)
  obtain rfl := Option.some.inj (gTabType.symm.trans ht2)
  unfold Lib.TabIs
  rw [tabData_eq] at hd2
  rw [hvar2, ← Lib.cells_of_tab Tryd.underlying145 Tryd.underlying5 cells5 cells145 hd2]
theorem ginv {W : World} (h : laidMetH Tryd.prog laidL W) : GInv cx (fun b => b < W.heap.size) W := by
  have hh := handle_of_laid h
  have ht := tab_of_laid h
  have hcell : ∀ i, i < 256 → W.cell? ⟨1, i, none⟩ = some (.int .u8 (asciiTab.getD i 0)) := fun i hi => ht.cell gTab i hi
  have lt : ∀ (b : Nat) (v : Value), W.cell? ⟨b, 0, none⟩ = some v → b < W.heap.size := by
    intro b v hv
    by_cases hb : b < W.heap.size
    · exact hb
    · have h0 : W.heap[b]? = none := Array.getElem?_eq_none (by omega)
      simp [World.cell?, h0] at hv
  refine ⟨fun g => ?_, fun p hp => ?_⟩
  · by_cases hg : g = 1
    · subst hg
      refine ⟨rfl, ?_⟩
      show PRep cx _ _ _ W (.lelem (.int .u8) asciiTab 0 0) _
      have hl : asciiTab.length = 256 := rfl
      refine ⟨by rw [hl]; omega, ⟨1, 0, none⟩, 256, ?_, rfl⟩
      have hm : (asciiTab.map (deep cx (.int .u8))).length = 256 := by rw [List.length_map, hl]
      have : Rep (fun b => b < W.heap.size) W (.slice (some ⟨1, 0, none⟩) (asciiTab.map (deep cx (.int .u8))).length 256) (.list 1 (asciiTab.map (deep cx (.int .u8)))) := by
        refine .list (fun i j => .int .u8 (asciiTab.getD i 0)) (by rw [hm]; exact Nat.le_refl _) (fun _ => lt 1 _ (hcell 0 (by omega))) (fun i l j x h1 h2 => ?_) (fun i l j x h1 h2 => ?_)
        · have hi : i < 256 := by have := (List.getElem?_eq_some_iff.1 h1).1; omega
          have hj : j = 0 := by
            simp only [List.getElem?_map, Option.map_eq_some_iff] at h1
            obtain ⟨y, _, rfl⟩ := h1
            have := (List.getElem?_eq_some_iff.1 h2).1
            simp [deep] at this; exact this
          subst hj
          have e : (⟨1, 0, none⟩ : Addr).add (i * 1 + 0) = ⟨1, i, none⟩ := by rw [add_at]; simp
          rw [e]; exact hcell i hi
        · have hi : i < asciiTab.length := by have := (List.getElem?_eq_some_iff.1 h1).1; rw [hl]; omega
          simp only [List.getElem?_map, Option.map_eq_some_iff] at h1
          obtain ⟨y, hy, rfl⟩ := h1
          have hj : j = 0 := by
            have := (List.getElem?_eq_some_iff.1 h2).1
            simp [deep] at this; exact this
          subst hj
          simp [deep] at h2
          subst h2
          have : asciiTab.getD i 0 = y := by simp [List.getD, hy]
          rw [this]; exact .int
      rw [hm] at this
      exact this
    · have e : cx.gv g = .undef := by
        show gvs g = _
        have : Nat.beq g 1 = false := by rw [Bool.eq_false_iff]; intro hb; exact hg (Nat.eq_of_beq_eq_true hb)
        simp [gvs, this]
      rw [e]; exact ⟨rfl, trivial⟩
  · have hp : p ∈ gcs := hp
    simp only [gcs, List.mem_singleton] at hp
    subst hp
    exact ⟨lt 0 _ hh, hh⟩
/-- A world in which they lie so. -/
noncomputable def laidWorld (os : Os) : World :=
  { World.holding Tryd.prog os ⟨#[], #[], []⟩ with heap := (((((World.holding Tryd.prog os ⟨#[], #[], []⟩).heap.modify 0 fun
      | .cells _ t frozen => .cells #[.iface 149 (.agg #[.pointer (some ⟨4, 108, none⟩)])] t frozen
      | o => o).modify 1 fun
      | .cells _ t frozen => .cells (asciiTab.map fun n => Value.int .u8 n).toArray t frozen
      | o => o).modify 2 fun
      | .cells _ t frozen => .cells #[.pointer (some ⟨9, 0, none⟩)] t frozen
      | o => o).push (.cells #[.slice (some ⟨10, 0, none⟩) 7 7, .slice none 0 0, .int .i64 2] 171)).push (.cells (([9, 13, 1, 32, 133, 101, 160, 5760, 5600, 8192, 8202, 1, 8232, 8233, 1, 8239, 8287, 48, 12288, 12288, 1] : List Int).map fun n => Value.int .u16 n).toArray 174) }
theorem deep1_mk (i : Int) (d : List Int) (ks : List D1) (g : Bool) : deep1 (.mk i d ks g) = [.int .i64 i, .list 1 (d.map fun y => [.int .u8 y]), .list 4 (deep1s ks), .bool g] := by rw [deep1]; rfl
theorem okL_wf {ks : List D1} (h : WfIV (.list 4 (deep1s ks))) (ih : ∀ x ∈ ks, (∀ iv ∈ deep1 x, WfIV iv) → OkN x) : OkL ks := by
  rw [deep1s_map] at h
  cases h with
  | list h1 h2 h3 =>
    refine ⟨?_, fun x hx => ih x hx (h2 _ (List.mem_map.2 ⟨x, hx, rfl⟩))⟩
    cases ks with
    | nil => simp
    | cons x ks =>
      have h4 := h3 (deep1 x) (by simp)
      obtain ⟨i, d, k, g⟩ := x
      rw [deep1_mk] at h4
      have e : lay (List.map cellB [IV.int IntKind.i64 i, IV.list 1 (d.map fun y => [.int .u8 y]), IV.list 4 (deep1s k), IV.bool g]) = 64 := by kernel_rfl
      rw [List.length_map, e] at h4
      exact h4
theorem okN_wf (n : D1) : (∀ iv ∈ deep1 n, WfIV iv) → OkN n := by
  refine D1.ind (P := fun n => (∀ iv ∈ deep1 n, WfIV iv) → OkN n) (fun i d ks g ih h => ?_) n
  rw [deep1_mk] at h
  have hd := wf_bytes (h (.list 1 (d.map fun y => [.int .u8 y])) (by simp))
  have hk := okL_wf (h (.list 4 (deep1s ks)) (by simp)) ih
  exact .mk (wf_int (h (.int .i64 i) (by simp))) hd.2 hd.1 hk.1 hk.2
theorem okL_arg {l : List D1} (h : ∀ iv ∈ deep cx (.slice (.named 1)) l, WfIV iv) : OkL l := by
  refine okL_wf (ks := l) ?_ fun x _ => okN_wf x
  have := h _ (List.mem_singleton.2 rfl)
  rw [deep1s_map]; exact this
theorem wf_str {s : ByteArray} (h : WfIV (.str s)) : s.size ≤ reachBytes := by
  cases h with
  | str h => exact h
theorem wf_strs {z : Nat} {l : List ByteArray} (h : WfIV (.list z (l.map fun y => [.str y]))) : l.length ≤ reachBytes ∧ ∀ n ∈ l, n.size ≤ reachBytes := by
  cases h with
  | list h1 h2 _ =>
    refine ⟨by simpa using h1, fun n hn => ?_⟩
    exact wf_str (h2 _ (List.mem_map.2 ⟨n, hn, rfl⟩) _ (List.mem_singleton.2 rfl))
end Go.Proofs.YtehmahdngjdhpaaDoor
