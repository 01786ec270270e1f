/- Proved: the places of elements cover all bytes, and lie within each other as their levels say. Conditions: the bytes are bytes. -/
import Derived.Test.YtklhjegfkpmdoaaElWalk2
import Derived.Test.YtklhjegfkpmdoaaRows
import Derived.JoinedOf

namespace Go.Proofs.Ytklhjegfkpmdoaa
open Go Go.Am
theorem awake_v : Ev fun k => ∀ (R : Type) (K : Bool → Option R), f18 k K = K true := by
  refine .plus 100 (.all fun k R K => ?_)
  kernel_rfl
theorem wrapU64 {x : Int} (h : 0 ≤ x) (h' : x < 18446744073709551616) : IntKind.u64.wrap x = x := by
  simp [IntKind.wrap, IntKind.signed, IntKind.bits]; omega
def c1 (w : Int) : List Int := [w % 256]
def c2 (w : Int) : List Int := [w / 256 % 256, w % 256]
def c3 (w : Int) : List Int := [w / 256 / 256 % 256, w / 256 % 256, w % 256]
theorem _root_.Go.Am.Ev.up {p : Nat → Prop} (h : Ev p) : Ev fun k => p (k + 1) := by
  obtain ⟨a, ha⟩ := h
  exact ⟨a, fun k hk => ha (k + 1) (by omega)⟩
theorem reachV : reachBytes = 140737488351232 := rfl
def okBy (b : List Int) : Prop := ∀ n ∈ b, 0 ≤ n ∧ n < 256
theorem okBy.drop {b : List Int} (h : okBy b) (i : Nat) : okBy (b.drop i) := fun n hn => h n (List.mem_of_mem_drop hn)
theorem okBy.take {b : List Int} (h : okBy b) (i : Nat) : okBy (b.take i) := fun n hn => h n (List.mem_of_mem_take hn)
theorem okBy.get {b : List Int} (h : okBy b) {i : Nat} (hi : i < b.length) : 0 ≤ b[i] ∧ b[i] < 256 := h _ (List.getElem_mem hi)
def valF (l : List Int) (v : Int) : Int := l.foldl (fun v c => v * 256 + c) v
theorem valF_cons (c : Int) (l : List Int) (v : Int) : valF (c :: l) v = valF l (v * 256 + c) := rfl
theorem pow_pos256 (n : Nat) : (0 : Int) < 256 ^ n := Int.pow_pos (by decide)
theorem valF_bound : ∀ {l : List Int}, okBy l → ∀ (v : Int), v * 256 ^ l.length ≤ valF l v ∧ valF l v < (v + 1) * 256 ^ l.length
  | [], _, v => by simp [valF]; omega
  | c :: l, h, v => by
    have hc := h c (by simp)
    obtain ⟨h1, h2⟩ := valF_bound (l := l) (fun n hn => h n (by simp [hn])) (v * 256 + c)
    have hp := pow_pos256 l.length
    rw [valF_cons, List.length_cons, Int.pow_succ, Int.mul_comm (256 ^ l.length) 256, ← Int.mul_assoc, ← Int.mul_assoc]
    constructor
    · refine Int.le_trans ?_ h1
      exact Int.mul_le_mul_of_nonneg_right (by omega) (Int.le_of_lt hp)
    · refine Int.lt_of_lt_of_le h2 ?_
      exact Int.mul_le_mul_of_nonneg_right (by omega) (Int.le_of_lt hp)
theorem ofInt_nat {n : Nat} (h : n < 18446744073709551616) : (BitVec.ofInt 64 (n : Int)).toNat = n := by
  rw [BitVec.toNat_ofInt]
  have e : (2 ^ 64 : Nat) = 18446744073709551616 := by decide
  rw [e, Int.emod_eq_of_lt (by omega) (by omega)]
  omega
theorem or_byteU {a c : Int} (h : 0 ≤ a) (h' : a < 72057594037927936) (hc : 0 ≤ c) (hc' : c < 256) : orI .u64 (shlI .u64 a 8) (IntKind.u64.wrap c) = a * 256 + c := by
  obtain ⟨n, rfl⟩ : ∃ n : Nat, a = n := ⟨a.toNat, by omega⟩
  obtain ⟨m, rfl⟩ : ∃ n : Nat, c = n := ⟨c.toNat, by omega⟩
  have s : shlI .u64 (n : Int) 8 = ((256 * n : Nat) : Int) := by
    have : (min (8 : Int).toNat IntKind.u64.bits) = 8 := rfl
    unfold shlI
    rw [this]
    have e : (n : Int) * 2 ^ 8 = ((256 * n : Nat) : Int) := by
      have : (2 : Int) ^ 8 = 256 := by decide
      rw [this]; omega
    rw [e, wrapU64 (by omega) (by omega)]
  rw [s, wrapU64 (by omega) (by omega)]
  have e1 : (BitVec.ofInt IntKind.u64.bits ((256 * n : Nat) : Int)).toNat = 256 * n := ofInt_nat (by omega)
  have e2 : (BitVec.ofInt IntKind.u64.bits (m : Int)).toNat = m := ofInt_nat (by omega)
  unfold orI
  rw [BitVec.toNat_or, e1, e2]
  have e3 : 256 * n = 2 ^ 8 * n := rfl
  rw [e3, ← Nat.two_pow_add_eq_or_of_lt (i := 8) (by omega) n, wrapU64 (by omega) (by omega)]
  omega
theorem and_mask {v : Nat} {m : Nat} (h : v < 9223372036854775808) (hm : m ≤ 60) : andI .i64 (v : Int) ((2 ^ m - 1 : Nat) : Int) = ((v % 2 ^ m : Nat) : Int) := by
  have h3 : 2 ^ m ≤ 2 ^ 60 := Nat.pow_le_pow_right (by decide) hm
  have h4 : (2 : Nat) ^ 60 = 1152921504606846976 := by decide
  have e1 : (BitVec.ofInt IntKind.i64.bits (v : Int)).toNat = v := ofInt_nat (by omega)
  have e2 : (BitVec.ofInt IntKind.i64.bits ((2 ^ m - 1 : Nat) : Int)).toNat = 2 ^ m - 1 := ofInt_nat (by omega)
  unfold andI
  rw [BitVec.toNat_and, e1, e2, Nat.and_two_pow_sub_one_eq_mod]
  have := Nat.mod_le v (2 ^ m)
  exact wrapNat (by omega)
def idLen (c : Int) : Nat := if 128 ≤ c then 1 else if 64 ≤ c then 2 else if 32 ≤ c then 3 else if 16 ≤ c then 4 else 0
def idC (c : Nat) : Bool := decide ((shrI .u8 (c : Int) 7 == 1) = decide (128 ≤ c) ∧ (c < 128 → (shrI .u8 (c : Int) 6 == 1) = decide (64 ≤ c)) ∧ (c < 64 → (shrI .u8 (c : Int) 5 == 1) = decide (32 ≤ c)) ∧ (c < 32 → (shrI .u8 (c : Int) 4 == 1) = decide (16 ≤ c)))
theorem idC_all : (List.range 256).all idC = true := by kernel_rfl
theorem f63_v {c : Int} (h : 0 ≤ c) (h' : c < 256) : Ev fun k => ∀ (R : Type) (K : Int → Option R), f63 k c K = K (idLen c : Int) := by
  obtain ⟨n, rfl⟩ : ∃ n : Nat, c = n := ⟨c.toNat, by omega⟩
  have hn := of_decide_eq_true (List.all_eq_true.1 idC_all n (by simp; omega))
  obtain ⟨q1, q2, q3, q4⟩ := hn
  have w1 : IntKind.i64.wrap (8 - 1) = 7 := by decide
  have w2 : IntKind.i64.wrap (8 - 2) = 6 := by decide
  have w3 : IntKind.i64.wrap (8 - 3) = 5 := by decide
  have w4 : IntKind.i64.wrap (8 - 4) = 4 := by decide
  have s1 : IntKind.i64.wrap (1 + 1) = 2 := by decide
  have s2 : IntKind.i64.wrap (2 + 1) = 3 := by decide
  have s3 : IntKind.i64.wrap (3 + 1) = 4 := by decide
  have s4 : IntKind.i64.wrap (4 + 1) = 5 := by decide
  have l1 : decide ((1 : Int) ≤ 4) = true := by decide
  have l2 : decide ((2 : Int) ≤ 4) = true := by decide
  have l3 : decide ((3 : Int) ≤ 4) = true := by decide
  have l4 : decide ((4 : Int) ≤ 4) = true := by decide
  have l5 : decide ((5 : Int) ≤ 4) = false := by decide
  have n7 : decide ((7 : Int) < 0) = false := by decide
  have n6 : decide ((6 : Int) < 0) = false := by decide
  have n5 : decide ((5 : Int) < 0) = false := by decide
  have n4 : decide ((4 : Int) < 0) = false := by decide
  refine .suc (.suc (.suc (.suc (.suc (.all fun k R K => ?_)))))
  simp only [f63, f63_l2, w1, w2, w3, w4, s1, s2, s3, s4, l1, l2, l3, l4, l5, n7, n6, n5, n4, cond_true, cond_false, q1]
  by_cases h1 : 128 ≤ n
  · simp [h1, idLen]; rw [if_pos (by omega)]; rfl
  · rw [q2 (by omega)]
    by_cases h2 : 64 ≤ n
    · simp [h1, h2, idLen]; rw [if_neg (by omega), if_pos (by omega)]; rfl
    · rw [q3 (by omega)]
      by_cases h3 : 32 ≤ n
      · simp [h1, h2, h3, idLen]; rw [if_neg (by omega), if_neg (by omega), if_pos (by omega)]; rfl
      · rw [q4 (by omega)]
        by_cases h4 : 16 ≤ n
        · simp [h1, h2, h3, h4, idLen]; rw [if_neg (by omega), if_neg (by omega), if_neg (by omega), if_pos (by omega)]; rfl
        · simp [h1, h2, h3, h4, idLen]; rw [if_neg (by omega), if_neg (by omega), if_neg (by omega), if_neg (by omega)]; rfl
theorem f64_loop (l : List Int) (hl : okBy l) (h8 : l.length ≤ 8) : ∀ i, i ≤ l.length → Ev fun k => ∀ (R : Type) (v : Int) (X : Int → Option R), 0 ≤ v → v < 256 ^ i → f64_l7 k v l (l.length : Int) (i : Int) X = X (valF (l.drop i) v) := by
  refine Ev.down l.length ?_ ?_
  · exact Ev.suc (.all fun k R v X _ _ => by simp [f64_l7, valF])
  · intro i hi h
    refine Ev.suc (h.imp fun k hk R v X h0 h1 => ?_)
    have hc := hl.get hi
    have hp : (256 : Int) ^ i ≤ 72057594037927936 := by
      have h2 : (256 : Nat) ^ i ≤ 72057594037927936 := Nat.le_trans (Nat.pow_le_pow_right (by decide) (show i ≤ 7 by omega)) (by decide)
      have e : ((256 ^ i : Nat) : Int) = (256 : Int) ^ i := Int.natCast_pow 256 i
      omega
    have ho := or_byteU h0 (by omega) hc.1 hc.2
    rw [f64_l7, lt_nat, inb_nat, wrapSuc (by omega)]
    simp only [hi, decide_true, cond_true, Int.toNat_natCast, getD_get hi, ho]
    have hv : v * 256 + l[i] < 256 ^ (i + 1) := by
      rw [Int.pow_succ]; omega
    rw [hk R _ X (by omega) hv, List.drop_eq_getElem_cons hi, valF_cons]
/-- The number of so many bytes at a place. -/
def numB (b : List Int) (at_ n : Nat) : Int := valF ((b.drop at_).take n) 0
theorem numB_bound {b : List Int} (hb : okBy b) {at_ n : Nat} (h : at_ + n ≤ b.length) : 0 ≤ numB b at_ n ∧ numB b at_ n < 256 ^ n := by
  have := valF_bound ((hb.drop at_).take n) 0
  have e : ((b.drop at_).take n).length = n := by simp; omega
  rw [e] at this
  unfold numB
  omega
theorem f64_v (b : List Int) (hb : okBy b) (hl : b.length ≤ reachBytes) {at_ n : Nat} (h1 : 1 ≤ n) (h8 : n ≤ 8) (h : at_ + n ≤ b.length) : Ev fun k => ∀ (R : Type) (K : Int → Int → Option R),
    f64 k b (at_ : Int) (n : Int) K = if 9223372036854775807 < numB b at_ n then K 0 1 else K (numB b at_ n) 0 := by
  rw [reachV] at hl
  have e : (b.take (at_ + n)).drop at_ = (b.drop at_).take n := by rw [List.drop_take]; congr 1; omega
  have el : ((b.drop at_).take n).length = n := by simp; omega
  refine (f64_loop ((b.drop at_).take n) ((hb.drop at_).take n) (by omega) 0 (by omega)).imp fun k hk R K => ?_
  have t1 : decide ((n : Int) < 1) = false := decide_eq_false (by omega)
  have t2 : decide ((n : Int) > 8) = false := decide_eq_false (by omega)
  have t3 : decide ((at_ : Int) < 0) = false := decide_eq_false (by omega)
  have t4 : decide ((at_ : Int) > (b.length : Int)) = false := decide_eq_false (by omega)
  have w1 : IntKind.i64.wrap ((b.length : Int) - (at_ : Int)) = ((b.length - at_ : Nat) : Int) := by rw [wrap64 (by omega) (by omega)]; omega
  have w2 : IntKind.i64.wrap ((at_ : Int) + (n : Int)) = ((at_ + n : Nat) : Int) := by rw [wrap64 (by omega) (by omega)]; omega
  have t5 : decide (((b.length - at_ : Nat) : Int) < (n : Int)) = false := decide_eq_false (by omega)
  have t6 : decide ((0 : Int) ≤ (at_ : Int)) = true := decide_eq_true (by omega)
  have t7 : decide ((at_ : Int) ≤ ((at_ + n : Nat) : Int)) = true := decide_eq_true (by omega)
  simp only [Int.natCast_zero, List.drop_zero] at hk
  simp only [f64, t1, t2, t3, t4, w1, w2, t5, t6, t7, cond_false, upto_nat, h, decide_true, Bool.and_self, cond_true, Int.toNat_natCast, e]
  rw [hk R 0 _ (by omega) (by decide)]
  have hbd := numB_bound hb h
  show (bif decide (numB b at_ n > 9223372036854775807) then K 0 1 else K (IntKind.i64.wrap (numB b at_ n)) 0) = _
  by_cases hx : 9223372036854775807 < numB b at_ n
  · rw [if_pos hx, decide_eq_true (show numB b at_ n > 9223372036854775807 from hx)]; rfl
  · rw [if_neg hx, decide_eq_false (show ¬ numB b at_ n > 9223372036854775807 from hx), wrap64 (by omega) (by omega)]; rfl
theorem idLen_range (c : Int) : idLen c ≤ 4 := by unfold idLen; split; omega; split; omega; split; omega; split <;> omega
/-- By its first byte. -/
theorem idLen_first {c : Int} (h' : c < 256) {n : Nat} (hn : idLen c = n) (h1 : 1 ≤ n) : (2 : Int) ^ (8 - n) ≤ c ∧ c < 2 ^ (9 - n) := by
  unfold idLen at hn
  split at hn
  · subst hn; exact ⟨by simpa using ‹128 ≤ c›, by simpa using h'⟩
  · split at hn
    · subst hn; exact ⟨by simpa using ‹64 ≤ c›, by simp; omega⟩
    · split at hn
      · subst hn; exact ⟨by simpa using ‹32 ≤ c›, by simp; omega⟩
      · split at hn
        · subst hn; exact ⟨by simpa using ‹16 ≤ c›, by simp; omega⟩
        · omega
/-- A number with the mark of so many bytes. -/
def Marked (v : Int) (n : Nat) : Prop := (2 : Int) ^ (7 * n) ≤ v ∧ v < 2 * 2 ^ (7 * n)
theorem marked_id {b : List Int} (hb : okBy b) {at_ n : Nat} (hat : at_ < b.length) (hn : idLen b[at_] = n) (h1 : 1 ≤ n) (h : at_ + n ≤ b.length) : Marked (numB b at_ n) n := by
  have hc := hb.get hat
  obtain ⟨l1, l2⟩ := idLen_first hc.2 hn h1
  have h4 : n ≤ 4 := by rw [← hn]; exact idLen_range _
  have e : (b.drop at_).take n = b[at_] :: (b.drop (at_ + 1)).take (n - 1) := by
    rw [List.drop_eq_getElem_cons hat]
    obtain ⟨m, rfl⟩ : ∃ m, n = m + 1 := ⟨n - 1, by omega⟩
    rw [List.take_succ_cons]; rfl
  have hv := valF_bound ((hb.drop (at_ + 1)).take (n - 1)) (0 * 256 + b[at_])
  have el : ((b.drop (at_ + 1)).take (n - 1)).length = n - 1 := by simp; omega
  have ev : numB b at_ n = valF ((b.drop (at_ + 1)).take (n - 1)) (0 * 256 + b[at_]) := by unfold numB; rw [e, valF_cons]
  rw [el, ← ev] at hv
  have : n = 1 ∨ n = 2 ∨ n = 3 ∨ n = 4 := by omega
  unfold Marked
  rcases this with rfl | rfl | rfl | rfl <;> simp at l1 l2 hv ⊢ <;> omega
def isIdB (v : Int) (n : Nat) : Bool := decide (2 ^ (7 * n) < v ∧ v < 2 * 2 ^ (7 * n) - 1)
theorem f60_v {v : Int} {n : Nat} (h1 : 1 ≤ n) (h4 : n ≤ 4) (h : Marked v n) (k : Nat) (R : Type) (K : Bool → Option R) : f60 k v (n : Int) K = K (isIdB v n) := by
  obtain ⟨l1, l2⟩ := h
  obtain ⟨m, rfl⟩ : ∃ m : Nat, v = m := ⟨v.toNat, by
    have : (0 : Int) < 2 ^ (7 * n) := Int.pow_pos (by decide)
    omega⟩
  have main : ∀ (p : Nat), p ≤ 28 → (2 : Nat) ^ p ≤ m → m < 2 * 2 ^ p → andI .i64 (m : Int) ((2 ^ p - 1 : Nat) : Int) = ((m - 2 ^ p : Nat) : Int) := by
    intro p hp a1 a2
    have hb : (2 : Nat) ^ p ≤ 2 ^ 28 := Nat.pow_le_pow_right (by decide) hp
    have e28 : (2 : Nat) ^ 28 = 268435456 := by decide
    rw [and_mask (by omega) (by omega)]
    congr 1
    rw [Nat.mod_eq_sub_mod (by omega), Nat.mod_eq_of_lt (by omega)]
  have fin : ∀ (p : Nat) (x : Int), p ≤ 28 → (2 : Nat) ^ p ≤ m → m < 2 * 2 ^ p → x = ((2 ^ p - 1 : Nat) : Int) → 2 ≤ p → (bif (andI .i64 (m : Int) x != 0) then K (andI .i64 (m : Int) x != x) else K false) = K (decide ((2 : Int) ^ p < m ∧ (m : Int) < 2 * 2 ^ p - 1)) := by
    intro p x hp a1 a2 hx h2
    have e0 : ((2 ^ p : Nat) : Int) = (2 : Int) ^ p := Int.natCast_pow 2 p
    have hb : (2 : Nat) ^ 2 ≤ 2 ^ p := Nat.pow_le_pow_right (by decide) h2
    subst hx
    rw [main p hp a1 a2, bne_dec, bne_dec]
    by_cases z : m = 2 ^ p
    · rw [decide_eq_true (show ((m - 2 ^ p : Nat) : Int) = 0 by omega), decide_eq_false (show ¬ ((2 : Int) ^ p < m ∧ (m : Int) < 2 * 2 ^ p - 1) by omega)]; rfl
    · rw [decide_eq_false (show ¬ ((m - 2 ^ p : Nat) : Int) = 0 by omega)]
      simp only [Bool.not_false, cond_true]
      by_cases y : m = 2 * 2 ^ p - 1
      · rw [decide_eq_true (show ((m - 2 ^ p : Nat) : Int) = ((2 ^ p - 1 : Nat) : Int) by omega), decide_eq_false (show ¬ ((2 : Int) ^ p < m ∧ (m : Int) < 2 * 2 ^ p - 1) by omega)]; rfl
      · rw [decide_eq_false (show ¬ ((m - 2 ^ p : Nat) : Int) = ((2 ^ p - 1 : Nat) : Int) by omega), decide_eq_true (show ((2 : Int) ^ p < m ∧ (m : Int) < 2 * 2 ^ p - 1) by omega)]; rfl
  have nat : ∀ p : Nat, (2 : Int) ^ p ≤ (m : Int) → (m : Int) < 2 * 2 ^ p → (2 : Nat) ^ p ≤ m ∧ m < 2 * 2 ^ p := by
    intro p a b
    have e0 : ((2 ^ p : Nat) : Int) = (2 : Int) ^ p := Int.natCast_pow 2 p
    omega
  obtain ⟨b1, b2⟩ := nat _ l1 l2
  have : n = 1 ∨ n = 2 ∨ n = 3 ∨ n = 4 := by omega
  unfold isIdB
  rcases this with rfl | rfl | rfl | rfl
  · exact fin 7 _ (by decide) b1 b2 (by decide) (by decide)
  · exact fin 14 _ (by decide) b1 b2 (by decide) (by decide)
  · exact fin 21 _ (by decide) b1 b2 (by decide) (by decide)
  · exact fin 28 _ (by decide) b1 b2 (by decide) (by decide)
/-- How many bytes a number has that begins with c. -/
def vsz (c : Nat) : Nat := if 128 ≤ c then 1 else if 64 ≤ c then 2 else if 32 ≤ c then 3 else if 16 ≤ c then 4 else if 8 ≤ c then 5 else if 4 ≤ c then 6 else if 2 ≤ c then 7 else 8
theorem vsz_range (c : Nat) : 1 ≤ vsz c ∧ vsz c ≤ 8 := by
  unfold vsz
  repeat' split
  all_goals omega
def chkC (c : Nat) : Bool :=
  c == 0 || (decide (inb (c : Int) lit2.size = true ∧ IntKind.i64.wrap (IntKind.i64.wrap (8 - IntKind.i64.wrap (((lit2.data.toList.getD (c : Int).toNat 0).toNat : Int))) + 1) = (vsz c : Int) ∧
    andI .i64 (IntKind.i64.wrap (c : Int)) (shrI .i64 255 (vsz c : Int)) = (c : Int) - 2 ^ (8 - vsz c) ∧ IntKind.i64.wrap (IntKind.i64.wrap (c : Int) - shlI .i64 1 (IntKind.u64.wrap (IntKind.i64.wrap (8 - (vsz c : Int))))) = (c : Int) - 2 ^ (8 - vsz c) ∧
    (c : Int) < 2 ^ (9 - vsz c) ∧ (2 : Int) ^ (8 - vsz c) ≤ c))
theorem chk_all : (List.range 256).all chkC = true := by kernel_rfl
theorem chk_of {c : Nat} (h : 0 < c) (h' : c < 256) : inb (c : Int) lit2.size = true ∧ IntKind.i64.wrap (IntKind.i64.wrap (8 - IntKind.i64.wrap (((lit2.data.toList.getD (c : Int).toNat 0).toNat : Int))) + 1) = (vsz c : Int) ∧
    andI .i64 (IntKind.i64.wrap (c : Int)) (shrI .i64 255 (vsz c : Int)) = (c : Int) - 2 ^ (8 - vsz c) ∧ IntKind.i64.wrap (IntKind.i64.wrap (c : Int) - shlI .i64 1 (IntKind.u64.wrap (IntKind.i64.wrap (8 - (vsz c : Int))))) = (c : Int) - 2 ^ (8 - vsz c) ∧
    (c : Int) < 2 ^ (9 - vsz c) ∧ (2 : Int) ^ (8 - vsz c) ≤ c := by
  have := List.all_eq_true.1 chk_all c (by simpa using h')
  unfold chkC at this
  simp only [Bool.or_eq_true] at this
  rcases this with h1 | h1
  · simp at h1; omega
  · exact of_decide_eq_true h1
/-- Bytes. -/
theorem or_byte {a c : Int} (h : 0 ≤ a) (h' : a < 36028797018963968) (hc : 0 ≤ c) (hc' : c < 256) : orI .i64 (shlI .i64 a 8) (IntKind.i64.wrap c) = a * 256 + c := by
  obtain ⟨n, rfl⟩ : ∃ n : Nat, a = n := ⟨a.toNat, by omega⟩
  obtain ⟨m, rfl⟩ : ∃ n : Nat, c = n := ⟨c.toNat, by omega⟩
  have s : shlI .i64 (n : Int) 8 = ((256 * n : Nat) : Int) := by
    have : (min (8 : Int).toNat IntKind.i64.bits) = 8 := rfl
    unfold shlI
    rw [this]
    have e : (n : Int) * 2 ^ 8 = ((256 * n : Nat) : Int) := by
      have : (2 : Int) ^ 8 = 256 := by decide
      rw [this]; omega
    rw [e, wrap64 (by omega) (by omega)]
  have w : IntKind.i64.wrap (m : Int) = m := wrap64 (by omega) (by omega)
  rw [w, s]
  have e1 : (BitVec.ofInt IntKind.i64.bits ((256 * n : Nat) : Int)).toNat = 256 * n := ofInt_nat (by omega)
  have e2 : (BitVec.ofInt IntKind.i64.bits (m : Int)).toNat = m := ofInt_nat (by omega)
  unfold orI
  rw [BitVec.toNat_or, e1, e2]
  have e3 : 256 * n = 2 ^ 8 * n := rfl
  rw [e3, ← Nat.two_pow_add_eq_or_of_lt (i := 8) (by omega) n]
  have e4 : 2 ^ 8 * n + m = 256 * n + m := rfl
  rw [e4, wrap64 (by omega) (by omega)]
  omega
/-- What a number of m bytes more is below, behind i of them. -/
def capN (m i : Nat) : Nat := 2 ^ (7 - m) * 256 ^ i
theorem cap_small : ∀ m, m < 8 → ∀ i, i < m → capN m i ≤ 281474976710656 := by decide
theorem cap_step {m i : Nat} {v c : Int} (h : v < capN m i) (hc' : c < 256) : v * 256 + c < capN m (i + 1) := by
  have e : capN m (i + 1) = capN m i * 256 := by unfold capN; rw [Nat.pow_succ, Nat.mul_assoc]
  rw [e]; omega
theorem f107_loop (n : Int) (l : List Int) (hl : okBy l) (h7 : l.length ≤ 7) : ∀ i, i ≤ l.length → Ev fun k => ∀ (R : Type) (v : Int) (X : Int → Int → Option R), 0 ≤ v → v < capN l.length i →
    f107_l12 k v n l (l.length : Int) (i : Int) X = X (valF (l.drop i) v) n := by
  refine Ev.down l.length ?_ ?_
  · exact Ev.suc (.all fun k R v X _ _ => by simp [f107_l12, valF])
  · intro i hi h
    refine Ev.suc (h.imp fun k h R v X h0 hb => ?_)
    have hc := hl _ (List.getElem_mem hi)
    have hs := cap_small l.length (by omega) i hi
    rw [f107_l12, lt_nat, inb_nat, wrapSuc (by omega)]
    simp only [hi, decide_true, cond_true, Int.toNat_natCast, getD_get hi]
    rw [or_byte h0 (by omega) hc.1 hc.2, h R _ X (by omega) (cap_step hb hc.2), List.drop_eq_getElem_cons hi]
    rfl
theorem al1 (k : Nat) (R : Type) (K : Int → Option R) : f82 k ((1 : Nat) : Int) K = K (2 ^ (7 * 1) - 1) := by kernel_rfl
theorem al2 (k : Nat) (R : Type) (K : Int → Option R) : f82 k ((2 : Nat) : Int) K = K (2 ^ (7 * 2) - 1) := by kernel_rfl
theorem al3 (k : Nat) (R : Type) (K : Int → Option R) : f82 k ((3 : Nat) : Int) K = K (2 ^ (7 * 3) - 1) := by kernel_rfl
theorem al4 (k : Nat) (R : Type) (K : Int → Option R) : f82 k ((4 : Nat) : Int) K = K (2 ^ (7 * 4) - 1) := by kernel_rfl
theorem al5 (k : Nat) (R : Type) (K : Int → Option R) : f82 k ((5 : Nat) : Int) K = K (2 ^ (7 * 5) - 1) := by kernel_rfl
theorem al6 (k : Nat) (R : Type) (K : Int → Option R) : f82 k ((6 : Nat) : Int) K = K (2 ^ (7 * 6) - 1) := by kernel_rfl
theorem al7 (k : Nat) (R : Type) (K : Int → Option R) : f82 k ((7 : Nat) : Int) K = K (2 ^ (7 * 7) - 1) := by kernel_rfl
theorem al8 (k : Nat) (R : Type) (K : Int → Option R) : f82 k ((8 : Nat) : Int) K = K (2 ^ (7 * 8) - 1) := by kernel_rfl
theorem allN (n : Nat) (h : 1 ≤ n) (h' : n ≤ 8) (k : Nat) (R : Type) (K : Int → Option R) : f82 k (n : Int) K = K (2 ^ (7 * n) - 1) := by
  have : n = 1 ∨ n = 2 ∨ n = 3 ∨ n = 4 ∨ n = 5 ∨ n = 6 ∨ n = 7 ∨ n = 8 := by omega
  rcases this with rfl | rfl | rfl | rfl | rfl | rfl | rfl | rfl
  · exact al1 k R K
  · exact al2 k R K
  · exact al3 k R K
  · exact al4 k R K
  · exact al5 k R K
  · exact al6 k R K
  · exact al7 k R K
  · exact al8 k R K
/-- What a number of variable length is, that is read at a place: value, bytes, unknown, error. -/
def readV (b : List Int) (at_ : Nat) : Int × Int × Bool × Int :=
  if h : at_ < b.length then
    if b[at_] = 0 then (0, 0, false, 4)
    else if b.length - at_ < vsz b[at_].toNat then (0, 0, false, 3)
    else
      let v := valF ((b.drop (at_ + 1)).take (vsz b[at_].toNat - 1)) (b[at_] - 2 ^ (8 - vsz b[at_].toNat))
      if v = 2 ^ (7 * vsz b[at_].toNat) - 1 then (0, vsz b[at_].toNat, true, 0) else (v, vsz b[at_].toNat, false, 0)
  else (0, 0, false, 3)
theorem wrapAdd {a b : Nat} (h : a + b < 9223372036854775808) : IntKind.i64.wrap ((a : Int) + (b : Int)) = ((a + b : Nat) : Int) := by
  rw [wrap64 (by omega) (by omega)]; omega
theorem wrapSub {a b : Nat} (h : b ≤ a) (h' : a < 9223372036854775808) : IntKind.i64.wrap ((a : Int) - (b : Int)) = ((a - b : Nat) : Int) := by
  rw [wrap64 (by omega) (by omega)]; omega
theorem readV_zero {b : List Int} {at_ : Nat} (h : at_ < b.length) (hz : b[at_] = 0) : readV b at_ = (0, 0, false, 4) := by
  unfold readV; rw [dif_pos h, if_pos hz]
theorem readV_short {b : List Int} {at_ c : Nat} (h : at_ < b.length) (hce : b[at_] = (c : Int)) (hz : c ≠ 0) (hs : b.length - at_ < vsz c) : readV b at_ = (0, 0, false, 3) := by
  have tn : b[at_].toNat = c := by omega
  unfold readV; rw [dif_pos h, if_neg (by omega), tn, if_pos hs]
theorem readV_val {b : List Int} {at_ c : Nat} (h : at_ < b.length) (hce : b[at_] = (c : Int)) (hz : c ≠ 0) (hs : ¬ b.length - at_ < vsz c) :
    readV b at_ = if valF ((b.drop (at_ + 1)).take (vsz c - 1)) ((c : Int) - 2 ^ (8 - vsz c)) = 2 ^ (7 * vsz c) - 1 then (0, (vsz c : Int), true, 0) else (valF ((b.drop (at_ + 1)).take (vsz c - 1)) ((c : Int) - 2 ^ (8 - vsz c)), (vsz c : Int), false, 0) := by
  have tn : b[at_].toNat = c := by omega
  unfold readV; rw [dif_pos h, if_neg (by omega), tn, if_neg hs, hce]
theorem readV_end {b : List Int} {at_ : Nat} (h : ¬ at_ < b.length) : readV b at_ = (0, 0, false, 3) := by
  unfold readV; rw [dif_neg h]
theorem cap_first {c : Nat} (h : 0 < c) (h' : c < 256) : 0 ≤ (c : Int) - 2 ^ (8 - vsz c) ∧ (c : Int) - 2 ^ (8 - vsz c) < capN (vsz c - 1) 0 := by
  obtain ⟨_, _, _, _, q5, q6⟩ := chk_of h h'
  have hv := vsz_range c
  have e : capN (vsz c - 1) 0 = 2 ^ (8 - vsz c) := by
    have : 7 - (vsz c - 1) = 8 - vsz c := by omega
    unfold capN; rw [Nat.pow_zero, Nat.mul_one, this]
  have e2 : (2 : Int) ^ (9 - vsz c) = 2 ^ (8 - vsz c) * 2 := by
    have : 9 - vsz c = (8 - vsz c) + 1 := by omega
    rw [this, Int.pow_succ]
  rw [e2] at q5
  rw [e]
  have e3 : (((2 : Nat) ^ (8 - vsz c) : Nat) : Int) = 2 ^ (8 - vsz c) := by simp
  rw [e3]
  generalize (2 : Int) ^ (8 - vsz c) = p at *
  omega
theorem f107_v (b : List Int) (hb : okBy b) (hl : b.length ≤ reachBytes) (at_ : Nat) (hat : at_ ≤ reachBytes) : Ev fun k => ∀ (R : Type) (K : Int → Int → Bool → Int → Option R), f107 k b (at_ : Int) K = K (readV b at_).1 (readV b at_).2.1 (readV b at_).2.2.1 (readV b at_).2.2.2 := by
  rw [reachV] at hl hat
  have n0 : decide ((at_ : Int) < 0) = false := by simp
  by_cases h : at_ < b.length
  · have g0 : decide ((at_ : Int) ≥ (b.length : Int)) = false := by simp; omega
    have hc := hb _ (List.getElem_mem h)
    obtain ⟨c, hce⟩ : ∃ c : Nat, b[at_] = (c : Int) := ⟨b[at_].toNat, by omega⟩
    have hc' : c < 256 := by omega
    by_cases hz : c = 0
    · refine .all fun k R K => ?_
      have hz : b[at_] = 0 := by omega
      have e0 : ((b[at_] == 0) = true) := by simp [hz]
      simp only [f107, n0, g0, inb_nat, h, decide_true, cond_true, cond_false, Int.toNat_natCast, getD_get h, e0]
      rw [readV_zero h hz]
    · have e0c : (((c : Nat) : Int) == 0) = false := by simp; exact hz
      obtain ⟨q1, q2, q3, _, _, _⟩ := chk_of (c := c) (by omega) hc'
      rw [inb_nat] at q1
      simp only [Int.toNat_natCast] at q2
      have hv := vsz_range c
      have wl := wrapSub (a := b.length) (b := at_) (by omega) (by omega)
      by_cases hs : b.length - at_ < vsz c
      · refine .all fun k R K => ?_
        have t1 : decide (((b.length - at_ : Nat) : Int) < (vsz c : Int)) = true := by rw [lt_nat]; simp [hs]
        simp only [f107, f111, f112, n0, g0, inb_nat, h, decide_true, cond_true, cond_false, Int.toNat_natCast, getD_get h, hce, e0c, q1]
        rw [q2, wl, t1, readV_short h hce hz hs]; rfl
      · have hll : ((b.take (at_ + vsz c)).drop (at_ + 1)).length = vsz c - 1 := by simp; omega
        have heq : (b.take (at_ + vsz c)).drop (at_ + 1) = (b.drop (at_ + 1)).take (vsz c - 1) := by
          have : at_ + vsz c - (at_ + 1) = vsz c - 1 := by omega
          rw [List.drop_take, this]
        have cp := cap_first (c := c) (by omega) hc'
        refine (f107_loop (vsz c : Int) ((b.take (at_ + vsz c)).drop (at_ + 1)) ((hb.take _).drop _) (by omega) 0 (by omega)).imp fun k hk R K => ?_
        simp only [Int.natCast_zero, List.drop_zero] at hk
        have t1 : decide (((b.length - at_ : Nat) : Int) < (vsz c : Int)) = false := by rw [lt_nat]; simp; omega
        have t2 : decide ((vsz c : Int) < 0) = false := by simp
        have wa := wrapAdd (a := at_) (b := vsz c) (by omega)
        have ws := wrapSuc (n := at_) (by omega)
        have t3 : decide (0 ≤ ((at_ + 1 : Nat) : Int)) = true := by simp; omega
        have t4 : decide (((at_ + 1 : Nat) : Int) ≤ ((at_ + vsz c : Nat) : Int)) = true := by simp; omega
        simp only [f107, f111, f112, n0, g0, inb_nat, h, decide_true, cond_true, cond_false, Int.toNat_natCast, getD_get h, hce, e0c, q1]
        simp only [q2, q3, wl, t1, t2, wa, ws, upto_nat, show at_ + vsz c ≤ b.length by omega, t3, t4, decide_true, Bool.and_self, cond_true, cond_false, Int.toNat_natCast]
        rw [hll] at hk ⊢
        rw [hk R _ _ cp.1 cp.2, allN _ hv.1 hv.2, heq, beq_dec, readV_val h hce hz hs]
        by_cases hu : valF ((b.drop (at_ + 1)).take (vsz c - 1)) ((c : Int) - 2 ^ (8 - vsz c)) = 2 ^ (7 * vsz c) - 1
        · rw [if_pos hu, decide_eq_true hu]; rfl
        · rw [if_neg hu, decide_eq_false hu]; rfl
  · refine .all fun k R K => ?_
    have g0 : decide ((at_ : Int) ≥ (b.length : Int)) = true := by simp; omega
    simp only [f107, n0, g0, cond_true, cond_false]
    rw [readV_end h]
theorem valF_nn {l : List Int} (hl : okBy l) : ∀ {v : Int}, 0 ≤ v → 0 ≤ valF l v := by
  induction l with
  | nil => exact fun h => h
  | cons c l ih =>
    intro v h
    have := hl c (by simp)
    exact ih (fun n hn => hl n (by simp [hn])) (v := v * 256 + c) (by omega)
theorem valF_lt {m : Nat} : ∀ {l : List Int}, okBy l → ∀ {i : Nat} {v : Int}, v < capN m i → valF l v < capN m (i + l.length)
  | [], _, i, v, h => h
  | c :: l, hl, i, v, h => by
    have := cap_step h (hl c (by simp)).2
    have := valF_lt (l := l) (fun n hn => hl n (by simp [hn])) this
    have e : i + 1 + l.length = i + (c :: l).length := by simp; omega
    rw [e] at this
    exact this
theorem cap_big : ∀ m, m < 8 → capN m m ≤ 72057594037927936 := by decide
/-- What is known of a number that has been read. -/
theorem readV_ok {b : List Int} (hb : okBy b) {at_ : Nat} : 0 ≤ (readV b at_).1 ∧ (readV b at_).1 < 72057594037927936 ∧
    ((readV b at_).2.2.2 = 0 → ∃ n : Nat, (readV b at_).2.1 = n ∧ 1 ≤ n ∧ n ≤ 8 ∧ at_ + n ≤ b.length) ∧ ((readV b at_).2.2.2 = 0 ∨ (readV b at_).2.2.2 = 3 ∨ (readV b at_).2.2.2 = 4) := by
  by_cases h : at_ < b.length
  · have hc := hb _ (List.getElem_mem h)
    obtain ⟨c, hce⟩ : ∃ c : Nat, b[at_] = (c : Int) := ⟨b[at_].toNat, by omega⟩
    by_cases hz : c = 0
    · rw [readV_zero h (by omega)]; simp
    · by_cases hs : b.length - at_ < vsz c
      · rw [readV_short h hce hz hs]; simp
      · rw [readV_val h hce hz hs]
        have hv := vsz_range c
        have cp := cap_first (c := c) (by omega) (by omega)
        have n1 := valF_nn (((hb.drop (at_ + 1)).take (vsz c - 1))) cp.1
        have n2 := valF_lt (((hb.drop (at_ + 1)).take (vsz c - 1))) cp.2
        have hl : ((b.drop (at_ + 1)).take (vsz c - 1)).length = vsz c - 1 := by simp; omega
        rw [hl, Nat.zero_add] at n2
        have n3 := cap_big (vsz c - 1) (by omega)
        split
        · exact ⟨by simp, by simp, fun _ => ⟨vsz c, rfl, hv.1, hv.2, by omega⟩, .inl rfl⟩
        · exact ⟨n1, by simp only; omega, fun _ => ⟨vsz c, rfl, hv.1, hv.2, by omega⟩, .inl rfl⟩
  · rw [readV_end h]; simp
noncomputable def tabP : List D0 := (f58 (R := List D0) 0 some).getD []
theorem f58_v (k : Nat) (R : Type) (K : List D0 → Option R) : f58 k K = K tabP := by kernel_rfl
theorem tabP_len : tabP.length = 65 := by kernel_rfl
def rowAt (l : List D0) (id : Int) : Option D0 := l.find? fun s => s.1 == id
theorem rowAt_some {l : List D0} {id : Int} {s : D0} (h : rowAt l id = some s) : s ∈ l ∧ s.1 = id :=
  ⟨List.mem_of_find?_eq_some h, by simpa using List.find?_some h⟩
theorem f25_loop (l : List D0) (hl : l.length = 65) (id : Int) (R : Type) : ∀ i, i ≤ l.length → Ev fun k => ∀ (a : Int) (b : ByteArray) (c : Int) (d e : Bool) (X0 : Int → ByteArray → Int → Bool → Bool → Option R) (X1 : Bool → Int → ByteArray → Int → Bool → Bool → Option R),
    f25_l2 k id l (i : Int) a b c d e X0 X1 = match rowAt (l.drop i) id with
      | some s => X1 true s.1 s.2.1 s.2.2.1 s.2.2.2.1 s.2.2.2.2
      | none => X0 a b c d e := by
  refine Ev.down l.length ?_ ?_
  · refine Ev.suc (.all fun k a b c d e X0 X1 => ?_)
    rw [List.drop_length, f25_l2, hl]; rfl
  · intro i hi h
    refine Ev.suc (h.imp fun k hk a b c d e X0 X1 => ?_)
    rw [List.drop_eq_getElem_cons hi, f25_l2, wrapSuc (by omega)]
    simp (disch := omega) only [deT, inT, inb_nat, hi, cond_true, Bool.and_self, Int.toNat_natCast, getD_get hi, decide_true]
    unfold rowAt
    rw [List.find?_cons]
    cases hb : (l[i].1 == id) with
    | true => rfl
    | false => simp only [cond_false]; exact hk a b c d e X0 X1
/-- The row of an id; zero if there is none. -/
noncomputable def rowOf (id : Int) : D0 := (rowAt tabP id).getD zero0
noncomputable def known (id : Int) : Bool := (rowAt tabP id).isSome
theorem f25_v (id : Int) (R : Type) : Ev fun k => ∀ (K : Int → ByteArray → Int → Bool → Bool → Bool → Option R), f25 k id K = K (rowOf id).1 (rowOf id).2.1 (rowOf id).2.2.1 (rowOf id).2.2.2.1 (rowOf id).2.2.2.2 (known id) :=
  (f25_loop tabP tabP_len id R 0 (by omega)).imp fun k hk K => by
    rw [Int.natCast_zero, List.drop_zero] at hk
    simp only [f25, f58_v, hk]
    unfold rowOf known
    cases rowAt tabP id <;> rfl
/-- Every row of the schema, and the row of no id. -/
theorem row_all (p : D0 → Bool) (h : tabP.all p = true) (h0 : p zero0 = true) (id : Int) : p (rowOf id) = true := by
  unfold rowOf
  cases h1 : rowAt tabP id with
  | none => exact h0
  | some s => exact List.all_eq_true.1 h s (rowAt_some h1).1
theorem row_id {id : Int} (h : known id = true) : (rowOf id).1 = id := by
  unfold known at h; unfold rowOf
  cases h1 : rowAt tabP id with
  | none => rw [h1] at h; simp at h
  | some s => exact (rowAt_some h1).2
theorem row_none {id : Int} (h : known id = false) : rowOf id = zero0 := by
  unfold known at h; unfold rowOf
  cases h1 : rowAt tabP id with
  | none => rfl
  | some s => rw [h1] at h; simp at h
/-- May it stand there? -/
def within (s : D0) (p : Int) : Bool := s.2.2.1 == p || (s.1 == 227 && p == 227)
theorem f68_v (s : D0) (p : Int) (k : Nat) (R : Type) (K : Bool → Option R) : f68 k s.1 s.2.1 s.2.2.1 s.2.2.2.1 s.2.2.2.2 p K = K (within s p) := by
  simp only [f68, within]
  cases s.2.2.1 == p <;> cases s.1 == 227 <;> rfl
/-- What is passed over: an id that nobody knows, and those without a parent. -/
noncomputable def free (id : Int) : Bool := !known id || decide ((rowOf id).2.2.1 < 0)
theorem free_chk : (tabP.all fun s => (decide (s.2.2.1 < 0) == (s.1 == 236 || s.1 == 237)) && (!s.2.2.2.2 || s.2.2.2.1)) = true := by kernel_rfl
theorem free_known {id : Int} (h : known id = true) : free id = (id == 236 || id == 237) := by
  unfold free
  have h1 := row_id h
  have h2 := row_all (fun s => (s.1 == 0) || ((decide (s.2.2.1 < 0) == (s.1 == 236 || s.1 == 237)) && (!s.2.2.2.2 || s.2.2.2.1))) (by
    refine List.all_eq_true.2 fun s hs => ?_
    rw [List.all_eq_true.1 free_chk s hs]; simp) (by kernel_rfl) id
  rw [h]
  unfold known at h
  cases h3 : rowAt tabP id with
  | none => rw [h3] at h; simp at h
  | some s =>
    have h4 := List.all_eq_true.1 free_chk s (rowAt_some h3).1
    have h5 : rowOf id = s := by unfold rowOf; rw [h3]; rfl
    rw [h5] at h1 ⊢
    rw [Bool.and_eq_true] at h4
    rw [eq_of_beq h4.1, h1]; rfl
theorem known_sum : known 237 = true ∧ rowOf 237 = (237, (⟨#[83, 117, 109]⟩ : ByteArray), -1, false, false) := ⟨by kernel_rfl, by kernel_rfl⟩
def crc1 (s : Int) : Int := bif (andI .u32 s 1) == 1 then xorI .u32 (shrI .u32 s 1) 3558460437 else shrI .u32 s 1
def crcN : Nat → Int → Int
  | 0, s => s
  | n + 1, s => crcN n (crc1 s)
def crcF (l : List Int) (s : Int) : Int := l.foldl (fun s c => crcN 8 (xorI .u32 s (IntKind.u32.wrap c))) s
theorem crcF_cons (c : Int) (l : List Int) (s : Int) : crcF (c :: l) s = crcF l (crcN 8 (xorI .u32 s (IntKind.u32.wrap c))) := rfl
def sumB (l : List Int) : Int := xorI .u32 4294967295 (crcF l 4294967295)
theorem f108_bits (l : List Int) (a b : Int) (R : Type) : ∀ i : Nat, i ≤ 8 → Ev fun k => ∀ (s : Int) (X : Int → List Int → Int → Int → Option R), f108_l7 k s l a b (i : Int) X = X (crcN (8 - i) s) l a b := by
  refine Ev.down 8 ?_ ?_
  · exact Ev.suc (.all fun k s X => by simp [f108_l7, crcN])
  · intro i hi h
    refine Ev.suc (h.imp fun k hk s X => ?_)
    rw [f108_l7, wrapSuc (by omega), ifT (by omega), show 8 - i = (8 - (i + 1)) + 1 by omega, crcN, crc1]
    cases (andI .u32 s 1) == 1 <;> simp only [cond_true, cond_false, hk]
theorem f108_loop (l : List Int) (hl : l.length ≤ reachBytes) (R : Type) : ∀ i, i ≤ l.length → Ev fun k => ∀ (s : Int) (X : Int → Option R), f108_l3 k s l (l.length : Int) (i : Int) X = X (crcF (l.drop i) s) := by
  rw [reachV] at hl
  refine Ev.down l.length ?_ ?_
  · exact Ev.suc (.all fun k s X => by simp [f108_l3, crcF])
  · intro i hi h
    refine Ev.suc (h.imp2 (f108_bits l (l.length : Int) (i : Int) R 0 (by omega)) fun k hk hb s X => ?_)
    rw [List.drop_eq_getElem_cons hi, crcF_cons, f108_l3]
    simp only [lt_nat, hi, decide_true, cond_true, inb_nat, Int.toNat_natCast, getD_get hi]
    rw [Int.natCast_zero] at hb
    rw [hb, wrapSuc (by omega), hk]
theorem f108_v (l : List Int) (hl : l.length ≤ reachBytes) (R : Type) : Ev fun k => ∀ (K : Int → Option R), f108 k l K = K (sumB l) :=
  (f108_loop l hl R 0 (by omega)).imp fun k hk K => by
    rw [Int.natCast_zero, List.drop_zero] at hk
    simp only [f108, hk, sumB]
inductive HR | bad (c : Int) | ok (id : Int) (hb sz : Nat) (unk : Bool)
def headR (b : List Int) (at_ : Nat) : HR :=
  if idLen (b.getD at_ 0) = 0 then .bad 40
  else if b.length ≤ at_ + idLen (b.getD at_ 0) then .bad 3
  else if isIdB (numB b at_ (idLen (b.getD at_ 0))) (idLen (b.getD at_ 0)) = false then .bad 40
  else if (readV b (at_ + idLen (b.getD at_ 0))).2.2.2 ≠ 0 then .bad (readV b (at_ + idLen (b.getD at_ 0))).2.2.2
  else .ok (numB b at_ (idLen (b.getD at_ 0))) (idLen (b.getD at_ 0) + (readV b (at_ + idLen (b.getD at_ 0))).2.1.toNat) (readV b (at_ + idLen (b.getD at_ 0))).1.toNat (readV b (at_ + idLen (b.getD at_ 0))).2.2.1
theorem readV_unk {b : List Int} {at_ : Nat} (h : (readV b at_).2.2.1 = true) : (readV b at_).1 = 0 := by
  by_cases h1 : at_ < b.length
  · unfold readV at h ⊢
    simp only [dif_pos h1] at h ⊢
    by_cases a : b[at_] = 0
    · rw [if_pos a]
    · rw [if_neg a] at h ⊢
      by_cases c : b.length - at_ < vsz b[at_].toNat
      · rw [if_pos c]
      · rw [if_neg c] at h ⊢
        by_cases d : valF (List.take (vsz b[at_].toNat - 1) (List.drop (at_ + 1) b)) (b[at_] - 2 ^ (8 - vsz b[at_].toNat)) = 2 ^ (7 * vsz b[at_].toNat) - 1
        · rw [if_pos d]
        · rw [if_neg d] at h; simp at h
  · rw [readV_end h1]
/-- What is known of a head. -/
theorem head_ok {b : List Int} (hb : okBy b) {at_ : Nat} {id : Int} {h sz : Nat} {unk : Bool} (e : headR b at_ = .ok id h sz unk) :
    2 ≤ h ∧ h ≤ 12 ∧ at_ + h ≤ b.length ∧ sz < 72057594037927936 ∧ (unk = true → sz = 0) ∧ 0 < id := by
  unfold headR at e
  split at e; · simp at e
  split at e; · simp at e
  split at e; · simp at e
  split at e; · simp at e
  have hl := idLen_range (b.getD at_ 0)
  simp only [HR.ok.injEq] at e
  obtain ⟨rfl, rfl, rfl, rfl⟩ := e
  obtain ⟨r1, r2, r3, r4⟩ := readV_ok hb (at_ := at_ + idLen (b.getD at_ 0))
  obtain ⟨n, e1, e2, e3, e4⟩ := r3 (by simpa using ‹¬ _ ≠ _›)
  have hi : isIdB (numB b at_ (idLen (b.getD at_ 0))) (idLen (b.getD at_ 0)) = true := by simpa using ‹¬ isIdB _ _ = false›
  unfold isIdB at hi
  have hi := of_decide_eq_true hi
  have hp : (0 : Int) < 2 ^ (7 * idLen (b.getD at_ 0)) := Int.pow_pos (by decide)
  refine ⟨by omega, by omega, by omega, by omega, fun hu => ?_, by omega⟩
  rw [readV_unk hu]; rfl
theorem head_bad {b : List Int} (hb : okBy b) {at_ : Nat} {c : Int} (e : headR b at_ = .bad c) : c = 40 ∨ c = 3 ∨ c = 4 := by
  unfold headR at e
  split at e; · simp at e; omega
  split at e; · simp at e; omega
  split at e; · simp at e; omega
  split at e
  · simp only [HR.bad.injEq] at e
    have := (readV_ok hb (at_ := at_ + idLen (b.getD at_ 0))).2.2.2
    omega
  · simp at e
theorem f99_2_v (b : List Int) (hb : okBy b) (hl : b.length ≤ 1048576) (at_ : Nat) (hat : at_ < b.length) (R : Type) : Ev fun k => ∀ (nd ba : Int) (pl : List D1),
    match headR b at_ with
    | .bad c => ∃ g1 g2 g3 g4, ∀ (K : Int → Int → Int → Bool → List Int → Int → Int → Int → Int → List D1 → Option R), f99_2 k b (at_ : Int) nd 0 ba pl K = K g1 g2 g3 g4 b (at_ : Int) nd c (at_ : Int) pl
    | .ok id h sz unk => ∀ (K : Int → Int → Int → Bool → List Int → Int → Int → Int → Int → List D1 → Option R), f99_2 k b (at_ : Int) nd 0 ba pl K = K id (h : Int) (sz : Int) unk b (at_ : Int) nd 0 ba pl := by
  have hc := hb.get hat
  have hgd : b.getD at_ 0 = b[at_] := getD_get hat
  have hlr : b.length ≤ reachBytes := by rw [reachV]; omega
  unfold headR
  rw [hgd]
  generalize hn : idLen b[at_] = n
  have h63 := f63_v hc.1 hc.2
  rw [hn] at h63
  have h4 : n ≤ 4 := by rw [← hn]; exact idLen_range _
  by_cases z : n = 0
  · refine h63.imp fun k h63 nd ba pl => ?_
    rw [if_pos z]; subst z
    refine ⟨0, 0, 0, false, fun K => ?_⟩
    simp (disch := omega) only [f99_2, inb_nat, hat, decide_true, cond_true, Int.toNat_natCast, getD_get hat, h63, beT, f87_2, f56_2]
  · rw [if_neg z]
    by_cases sh : b.length ≤ at_ + n
    · refine h63.imp fun k h63 nd ba pl => ?_
      rw [if_pos sh]
      refine ⟨0, 0, 0, false, fun K => ?_⟩
      simp (disch := omega) only [f99_2, inb_nat, hat, decide_true, cond_true, cond_false, Int.toNat_natCast, getD_get hat, h63, beT, beF, wr, ifT, f87_2, f56_2]
    · rw [if_neg sh]
      have mk := marked_id hb hat hn (by omega) (by omega)
      have nb := numB_bound hb (at_ := at_) (n := n) (by omega)
      have big : ¬ 9223372036854775807 < numB b at_ n := by
        have := mk.2
        have e : n = 1 ∨ n = 2 ∨ n = 3 ∨ n = 4 := by omega
        rcases e with rfl | rfl | rfl | rfl <;> simp at this <;> omega
      refine h63.imp3 (f64_v b hb hlr (show 1 ≤ n by omega) (show n ≤ 8 by omega) (show at_ + n ≤ b.length by omega)) (f107_v b hb hlr (at_ + n) (by rw [reachV]; omega)) fun k h63 h64 h107 nd ba pl => ?_
      simp only [if_neg big] at h64
      have w : IntKind.i64.wrap ((at_ : Int) + (n : Int)) = ((at_ + n : Nat) : Int) := wrapAdd (by omega)
      by_cases hi : isIdB (numB b at_ n) n = false
      · rw [if_pos hi]
        refine ⟨numB b at_ n, IntKind.i64.wrap ((n : Int) + (readV b (at_ + n)).2.1), (readV b (at_ + n)).1, (readV b (at_ + n)).2.2.1, fun K => ?_⟩
        simp (disch := omega) only [f99_2, inb_nat, hat, decide_true, cond_true, cond_false, Int.toNat_natCast, getD_get hat, h63, beT, beF, w, ifF, h64, h107, f60_v (show 1 ≤ n by omega) h4 mk, hi, Bool.not_false, f87_2, f56_2]
      · rw [if_neg hi]
        have hi : isIdB (numB b at_ n) n = true := by simpa using hi
        by_cases he : (readV b (at_ + n)).2.2.2 ≠ 0
        · rw [if_pos he]
          refine ⟨numB b at_ n, IntKind.i64.wrap ((n : Int) + (readV b (at_ + n)).2.1), (readV b (at_ + n)).1, (readV b (at_ + n)).2.2.1, fun K => ?_⟩
          simp (disch := omega) only [f99_2, inb_nat, hat, decide_true, cond_true, cond_false, Int.toNat_natCast, getD_get hat, h63, beT, beF, w, ifF, h64, h107, f60_v (show 1 ≤ n by omega) h4 mk, hi, Bool.not_true, bnT, f87_2, f56_2]
        · rw [if_neg he]
          have he : (readV b (at_ + n)).2.2.2 = 0 := by simpa using he
          obtain ⟨m, e1, e2, e3, e4⟩ := (readV_ok hb (at_ := at_ + n)).2.2.1 he
          have r1 := (readV_ok hb (at_ := at_ + n)).1
          have w2 : IntKind.i64.wrap ((n : Int) + (m : Int)) = ((n + m : Nat) : Int) := wrapAdd (by omega)
          have w3 : (readV b (at_ + n)).1 = ((readV b (at_ + n)).1.toNat : Int) := by omega
          intro K
          rw [← w3, e1, Int.toNat_natCast]
          simp (disch := omega) only [f99_2, inb_nat, hat, decide_true, cond_true, cond_false, Int.toNat_natCast, getD_get hat, h63, beT, beF, w, ifF, h64, h107, f60_v (show 1 ≤ n by omega) h4 mk, hi, Bool.not_true, bnF, he, e1, w2]
theorem j18_bad {R : Type} {g : Nat → f101_3_T R} {k : Nat} {free : Bool} {b : List Int} {at_ nd ba : Int} {pl : List D1} {hid en : Int} {fm op : Bool} {dp : Int} {acc : List D2} {id hb sz : Int} {unk : Bool} {s1 : Int} {s2 : ByteArray} {s3 : Int} {s4 s5 : Bool} {X : Bool → List Int → Int → Int → Int → Int → List D1 → Int → Int → Bool → Bool → Int → List D2 → Int → Int → Int → Bool → Int → ByteArray → Int → Bool → Bool → Option R} :
    f88_2_j18 g k free true b at_ nd 0 ba pl hid en fm op dp acc id hb sz unk s1 s2 s3 s4 s5 X =
    X free b at_ nd 42 at_ pl hid en fm op dp acc id hb sz unk s1 s2 s3 s4 s5 := by
  simp only [f88_2_j18, f87_2, f56_2, beq_self_eq_true, cond_true, cond_false]
theorem j18_deep {R : Type} {g : Nat → f101_3_T R} {k : Nat} {free : Bool} {b : List Int} {at_ nd ba : Int} {pl : List D1} {hid en : Int} {fm op : Bool} {dp : Int} {acc : List D2} {id hb sz : Int} {unk : Bool} {s1 : Int} {s2 : ByteArray} {s3 : Int} {s4 s5 : Bool} {X : Bool → List Int → Int → Int → Int → Int → List D1 → Int → Int → Bool → Bool → Int → List D2 → Int → Int → Int → Bool → Int → ByteArray → Int → Bool → Bool → Option R} (h : dp > 8) :
    f88_2_j18 g k free false b at_ nd 0 ba pl hid en fm op dp acc id hb sz unk s1 s2 s3 s4 s5 X =
    X free b at_ nd 43 at_ pl hid en fm op dp acc id hb sz unk s1 s2 s3 s4 s5 := by
  simp only [f88_2_j18, deT h, f87_2, f56_2, beq_self_eq_true, cond_true, cond_false]
theorem j18_sum {R : Type} {g : Nat → f101_3_T R} {k : Nat} {free : Bool} {b : List Int} {at_ nd ba : Int} {pl : List D1} {hid en : Int} {fm op : Bool} {dp : Int} {acc : List D2} {id hb sz : Int} {unk : Bool} {s1 : Int} {s2 : ByteArray} {s3 : Int} {s4 s5 : Bool} {X : Bool → List Int → Int → Int → Int → Int → List D1 → Int → Int → Bool → Bool → Int → List D2 → Int → Int → Int → Bool → Int → ByteArray → Int → Bool → Bool → Option R} (h : ¬ dp > 8) (hs : (s1 == 237) = true) :
    f88_2_j18 g k free false b at_ nd 0 ba pl hid en fm op dp acc id hb sz unk s1 s2 s3 s4 s5 X =
    f100 k id hb sz unk hid en fm op dp b at_ nd 0 ba pl (fun b at_ nd bd ba pl => X free b at_ nd bd ba pl hid en fm op dp acc id hb sz unk s1 s2 s3 s4 s5) := by
  simp only [f88_2_j18, deF h, hs, cond_true, cond_false]
theorem j18_ok {R : Type} {g : Nat → f101_3_T R} {k : Nat} {free : Bool} {b : List Int} {at_ nd ba : Int} {pl : List D1} {hid en : Int} {fm op : Bool} {dp : Int} {acc : List D2} {id hb sz : Int} {unk : Bool} {s1 : Int} {s2 : ByteArray} {s3 : Int} {s4 s5 : Bool} {X : Bool → List Int → Int → Int → Int → Int → List D1 → Int → Int → Bool → Bool → Int → List D2 → Int → Int → Int → Bool → Int → ByteArray → Int → Bool → Bool → Option R} (h : ¬ dp > 8) (hs : (s1 == 237) = false) :
    f88_2_j18 g k free false b at_ nd 0 ba pl hid en fm op dp acc id hb sz unk s1 s2 s3 s4 s5 X =
    X free b at_ nd 0 ba pl hid en fm op dp acc id hb sz unk s1 s2 s3 s4 s5 := by
  simp only [f88_2_j18, deF h, hs, cond_true, cond_false]
theorem j17_v {R : Type} {g : Nat → f101_3_T R} {k : Nat} {first free q : Bool} {b : List Int} {at_ nd bd ba : Int} {pl : List D1} {hid en : Int} {fm op : Bool} {dp : Int} {acc : List D2} {id hb sz : Int} {unk : Bool} {s1 : Int} {s2 : ByteArray} {s3 : Int} {s4 s5 : Bool} {X : Bool → Bool → List Int → Int → Int → Int → Int → List D1 → Int → Int → Bool → Bool → Int → List D2 → Int → Int → Int → Bool → Int → ByteArray → Int → Bool → Bool → Option R} :
    f88_2_j17 g k first free q b at_ nd bd ba pl hid en fm op dp acc id hb sz unk s1 s2 s3 s4 s5 X =
    X free (q || (s1 == 237 && (hid == 0 || !first))) b at_ nd bd ba pl hid en fm op dp acc id hb sz unk s1 s2 s3 s4 s5 := by
  simp only [f88_2_j17]
  cases q <;> cases s1 == 237 <;> cases hid == 0 <;> rfl
theorem j15_bad {R : Type} {g : Nat → f101_3_T R} {k : Nat} {first free : Bool} {b : List Int} {at_ nd ba : Int} {pl : List D1} {hid en : Int} {fm op : Bool} {dp : Int} {acc : List D2} {id hb sz : Int} {unk : Bool} {s1 : Int} {s2 : ByteArray} {s3 : Int} {s4 s5 : Bool} {X : Bool → List Int → Int → Int → Int → Int → List D1 → Int → Int → Bool → Bool → Int → List D2 → Int → Int → Int → Bool → Int → ByteArray → Int → Bool → Bool → Option R} :
    f88_2_j15 g k first free true b at_ nd 0 ba pl hid en fm op dp acc id hb sz unk s1 s2 s3 s4 s5 X =
    X free b at_ nd 3 at_ pl hid en fm op dp acc id hb sz unk s1 s2 s3 s4 s5 := by
  simp only [f88_2_j15, f87_2, f56_2, beq_self_eq_true, cond_true, cond_false]
theorem j15_ok {R : Type} {g : Nat → f101_3_T R} {k : Nat} {first free : Bool} {b : List Int} {at_ nd ba : Int} {pl : List D1} {hid en : Int} {fm op : Bool} {dp : Int} {acc : List D2} {id hb sz : Int} {unk : Bool} {s : D0} {X : Bool → List Int → Int → Int → Int → Int → List D1 → Int → Int → Bool → Bool → Int → List D2 → Int → Int → Int → Bool → Int → ByteArray → Int → Bool → Bool → Option R} :
    f88_2_j15 g k first free false b at_ nd 0 ba pl hid en fm op dp acc id hb sz unk s.1 s.2.1 s.2.2.1 s.2.2.2.1 s.2.2.2.2 X =
    f88_2_j18 g k free ((!free && !within s hid) || (s.1 == 237 && (hid == 0 || !first))) b at_ nd 0 ba pl hid en fm op dp acc id hb sz unk s.1 s.2.1 s.2.2.1 s.2.2.2.1 s.2.2.2.2 X := by
  simp only [f88_2_j15, f68_v, cond_false, j17_v]
  cases free <;> simp only [Bool.not_true, Bool.not_false, Bool.true_and, Bool.false_and, Bool.false_or, cond_true, cond_false]
theorem j13_bad {R : Type} {g : Nat → f101_3_T R} {k : Nat} {first free : Bool} {e : Int} {b : List Int} {at_ nd ba : Int} {pl : List D1} {hid en : Int} {fm op : Bool} {dp : Int} {acc : List D2} {id hb sz : Int} {unk : Bool} {s1 : Int} {s2 : ByteArray} {s3 : Int} {s4 s5 : Bool} {X : Bool → List Int → Int → Int → Int → Int → List D1 → Int → Int → Bool → Bool → Int → List D2 → Int → Int → Int → Bool → Int → ByteArray → Int → Bool → Bool → Option R} :
    f88_2_j13 g k first free e true b at_ nd 0 ba pl hid en fm op dp acc id hb sz unk s1 s2 s3 s4 s5 X =
    X free b at_ nd 41 at_ pl hid en fm op dp acc id hb sz unk s1 s2 s3 s4 s5 := by
  simp only [f88_2_j13, f87_2, f56_2, beq_self_eq_true, cond_true, cond_false]
theorem j13_ok {R : Type} {g : Nat → f101_3_T R} {k : Nat} {first free : Bool} {e : Int} {b : List Int} {at_ nd ba : Int} {pl : List D1} {hid en : Int} {fm op : Bool} {dp : Int} {acc : List D2} {id hb sz : Int} {unk : Bool} {s1 : Int} {s2 : ByteArray} {s3 : Int} {s4 s5 : Bool} {X : Bool → List Int → Int → Int → Int → Int → List D1 → Int → Int → Bool → Bool → Int → List D2 → Int → Int → Int → Bool → Int → ByteArray → Int → Bool → Bool → Option R} (hz : sz ≤ e) :
    f88_2_j13 g k first free e false b at_ nd 0 ba pl hid en fm op dp acc id hb sz unk s1 s2 s3 s4 s5 X =
    f88_2_j15 g k first free (decide (e > (b.length : Int))) b at_ nd 0 ba pl hid en fm op dp acc id hb sz unk s1 s2 s3 s4 s5 X := by
  simp only [f88_2_j13, cond_false]
  by_cases h : e > (b.length : Int)
  · simp only [deT h, cond_true]
  · simp only [deF h, cond_false, deF (show ¬ sz > (b.length : Int) by omega)]
theorem j12_v {R : Type} {g : Nat → f101_3_T R} {k : Nat} {first free : Bool} {e : Int} {q : Bool} {b : List Int} {at_ nd bd ba : Int} {pl : List D1} {hid en : Int} {fm op : Bool} {dp : Int} {acc : List D2} {id hb sz : Int} {unk : Bool} {s1 : Int} {s2 : ByteArray} {s3 : Int} {s4 s5 : Bool} {X : Bool → Bool → Int → Bool → List Int → Int → Int → Int → Int → List D1 → Int → Int → Bool → Bool → Int → List D2 → Int → Int → Int → Bool → Int → ByteArray → Int → Bool → Bool → Option R} (hz : sz ≤ e) :
    f88_2_j12 g k first free e q b at_ nd bd ba pl hid en fm op dp acc id hb sz unk s1 s2 s3 s4 s5 X =
    X first free e (q || (fm && decide (e > en))) b at_ nd bd ba pl hid en fm op dp acc id hb sz unk s1 s2 s3 s4 s5 := by
  simp only [f88_2_j12]
  cases q
  · cases fm
    · rfl
    · by_cases h : e > en
      · simp only [deT h, cond_true, cond_false]; rfl
      · simp only [deF h, cond_true, cond_false, deF (show ¬ sz > en by omega)]; rfl
  · rfl
theorem j10_v {R : Type} {g : Nat → f101_3_T R} {k : Nat} {first free : Bool} {e : Int} {b : List Int} {at_ nd bd ba : Int} {pl : List D1} {hid en : Int} {fm op : Bool} {dp : Int} {acc : List D2} {id hb sz : Int} {unk : Bool} {s1 : Int} {s2 : ByteArray} {s3 : Int} {s4 s5 : Bool} {X0 : List D2 → List Int → Int → Int → Int → Int → List D1 → Option R} {X1 : List Int → Int → Int → Int → Int → List D1 → Int → Int → Bool → Bool → Int → List D2 → Option R} (hz : sz ≤ e) (he : IntKind.i64.wrap (IntKind.i64.wrap (at_ + hb) + sz) = e) :
    f88_2_j10 g k first free b at_ nd bd ba pl hid en fm op dp acc id hb sz unk s1 s2 s3 s4 s5 X0 X1 =
    f88_2_j13 g k first free e ((unk && !s5) || (fm && decide (e > en))) b at_ nd bd ba pl hid en fm op dp acc id hb sz unk s1 s2 s3 s4 s5 (fun free b at_ nd bd ba pl hid en fm op dp acc id hb sz unk s1 s2 s3 s4 s5 => f88_2_j23 g k free b at_ nd bd ba pl hid en fm op dp acc id hb sz unk s1 s2 s3 s4 s5 X0 X1) := by
  simp only [f88_2_j10, he]
  cases unk
  · simp only [cond_false, j12_v hz, Bool.false_and]
  · simp only [cond_true, j12_v hz, Bool.true_and]
theorem j9_stop {R : Type} {g : Nat → f101_3_T R} {k : Nat} {first : Bool} {b : List Int} {at_ nd ba : Int} {pl : List D1} {hid en : Int} {fm op : Bool} {dp : Int} {acc : List D2} {id hb sz : Int} {unk : Bool} {s : D0} {X0 : List D2 → List Int → Int → Int → Int → Int → List D1 → Option R} {X1 : List Int → Int → Int → Int → Int → List D1 → Int → Int → Bool → Bool → Int → List D2 → Option R} (h : op = true) (hw : within s hid = false) :
    f88_2_j9 g k first false b at_ nd 0 ba pl hid en fm op dp acc id hb sz unk s.1 s.2.1 s.2.2.1 s.2.2.2.1 s.2.2.2.2 X0 X1 =
    X0 acc b at_ nd 0 ba pl := by
  simp only [f88_2_j9, h, f68_v, hw, Bool.not_false, cond_true]
theorem j9_go {R : Type} {g : Nat → f101_3_T R} {k : Nat} {first free : Bool} {b : List Int} {at_ nd ba : Int} {pl : List D1} {hid en : Int} {fm op : Bool} {dp : Int} {acc : List D2} {id hb sz : Int} {unk : Bool} {s : D0} {X0 : List D2 → List Int → Int → Int → Int → Int → List D1 → Option R} {X1 : List Int → Int → Int → Int → Int → List D1 → Int → Int → Bool → Bool → Int → List D2 → Option R} (h : (op && (!free && !within s hid)) = false) :
    f88_2_j9 g k first free b at_ nd 0 ba pl hid en fm op dp acc id hb sz unk s.1 s.2.1 s.2.2.1 s.2.2.2.1 s.2.2.2.2 X0 X1 =
    f88_2_j10 g k first free b at_ nd 0 ba pl hid en fm op dp acc id hb sz unk s.1 s.2.1 s.2.2.1 s.2.2.2.1 s.2.2.2.2 X0 X1 := by
  simp only [f88_2_j9, f68_v]
  cases op
  · rfl
  · cases free
    · cases hw : within s hid
      · rw [hw] at h; exact absurd h (by decide)
      · rfl
    · rfl
theorem j23_bad {R : Type} {g : Nat → f101_3_T R} {k : Nat} {free : Bool} {b : List Int} {at_ nd bd ba : Int} {pl : List D1} {hid en : Int} {fm op : Bool} {dp : Int} {acc : List D2} {id hb sz : Int} {unk : Bool} {s1 : Int} {s2 : ByteArray} {s3 : Int} {s4 s5 : Bool} {X0 : List D2 → List Int → Int → Int → Int → Int → List D1 → Option R} {X1 : List Int → Int → Int → Int → Int → List D1 → Int → Int → Bool → Bool → Int → List D2 → Option R} (h : (bd == 0) = false) :
    f88_2_j23 g k free b at_ nd bd ba pl hid en fm op dp acc id hb sz unk s1 s2 s3 s4 s5 X0 X1 =
    X0 acc b at_ nd bd ba pl := by
  simp only [f88_2_j23, f56_2, h, Bool.not_false, cond_true]
theorem j23_ok {R : Type} {g : Nat → f101_3_T R} {k : Nat} {free : Bool} {b : List Int} {at_ nd ba : Int} {pl : List D1} {hid en : Int} {fm op : Bool} {dp : Int} {acc : List D2} {id hb sz : Int} {unk : Bool} {s1 : Int} {s2 : ByteArray} {s3 : Int} {s4 s5 : Bool} {X0 : List D2 → List Int → Int → Int → Int → Int → List D1 → Option R} {X1 : List Int → Int → Int → Int → Int → List D1 → Int → Int → Bool → Bool → Int → List D2 → Option R} :
    f88_2_j23 g k free b at_ nd 0 ba pl hid en fm op dp acc id hb sz unk s1 s2 s3 s4 s5 X0 X1 =
    g k id hb sz unk s1 s2 s3 s4 s5 free hid en fm op dp b at_ nd 0 ba pl (fun i gr keep b at_ nd bd ba dat kids pl => bif keep then bif room 64 (acc.length + [D2.mk i dat kids gr].length) then X1 b at_ nd bd ba pl hid en fm op dp (acc ++ [D2.mk i dat kids gr]) else none else X1 b at_ nd bd ba pl hid en fm op dp acc) := by
  simp only [f88_2_j23, f56_2, beq_self_eq_true, Bool.not_true, cond_false]
/-- The loop over the elements of a holder, as the program does it. -/
noncomputable def lvP {R : Type} (g : Nat → f101_3_T R) (k : Nat) (first : Bool) (b : List Int) (at_ nd bd ba : Int) (pl : List D1) (hid en : Int) (fm op : Bool) (dp : Int) (acc : List D2) (X : List D2 → List Int → Int → Int → Int → Int → List D1 → Option R) : Option R :=
  f88_2_l3 g k first b at_ nd bd ba pl hid en fm op dp acc X
/-- What elements stand in. -/
structure Ho where
  id : Int
  en : Nat
  fm : Bool
  op : Bool
  dp : Nat
def Ho.Ok (b : List Int) (h : Ho) : Prop := h.en ≤ b.length ∧ (h.fm = false → h.en = b.length) ∧ h.dp ≤ 9
/-- The first error of an element whose head has been read; 0: none. -/
noncomputable def chkE (b : List Int) (h : Ho) (first : Bool) (at_ hb sz : Nat) (unk : Bool) (id : Int) : Int :=
  if ((unk && !(rowOf id).2.2.2.2) || (h.fm && decide (h.en < at_ + hb + sz))) = true then 41
  else if b.length < at_ + hb + sz then 3
  else if ((!free id && !within (rowOf id) h.id) || ((rowOf id).1 == 237 && (h.id == 0 || !first))) = true then 42
  else if 8 < h.dp then 43
  else if ((rowOf id).1 == 237) = true then
    if sz ≠ 4 ∨ h.op = true then 4 else if numB b (at_ + hb) 4 ≠ IntKind.i64.wrap (sumB ((b.take h.en).drop (at_ + hb + 4))) then 6 else 0
  else 0
theorem chk_ok {b : List Int} {h : Ho} (hh : h.Ok b) {first : Bool} {at_ hb sz : Nat} {unk : Bool} {id : Int} (e : chkE b h first at_ hb sz unk id = 0) :
    at_ + hb + sz ≤ h.en ∧ h.dp ≤ 8 ∧ (unk = true → (rowOf id).2.2.2.2 = true) ∧ (free id = true ∨ within (rowOf id) h.id = true) := by
  unfold chkE at e
  split at e; · simp at e
  split at e; · simp at e
  split at e; · simp at e
  split at e; · simp at e
  rename_i h1 h2 h3 h4
  simp only [Bool.or_eq_true, Bool.and_eq_true, not_or, not_and, decide_eq_true_eq, Bool.not_eq_true'] at h1 h3
  refine ⟨?_, by omega, fun hu => by simpa using h1.1 hu, ?_⟩
  · cases hf : h.fm with
    | true => have := h1.2 hf; omega
    | false => have := hh.2.1 hf; omega
  · cases hf : free id with
    | true => exact .inl rfl
    | false => right; simpa using h3.1 hf
theorem f100_v (b : List Int) (hb : okBy b) (hl : b.length ≤ 1048576) {at_ h sz en : Nat} (h1 : at_ + h + sz ≤ en) (he : en ≤ b.length) (R : Type) : Ev fun k => ∀ (id : Int) (unk : Bool) (hid : Int) (fm op : Bool) (dp nd ba : Int) (pl : List D1) (K : List Int → Int → Int → Int → Int → List D1 → Option R),
    f100 k id (h : Int) (sz : Int) unk hid (en : Int) fm op dp b (at_ : Int) nd 0 ba pl K =
    if sz ≠ 4 ∨ op = true then K b (at_ : Int) nd 4 (at_ : Int) pl else if numB b (at_ + h) 4 ≠ IntKind.i64.wrap (sumB ((b.take en).drop (at_ + h + 4))) then K b (at_ : Int) nd 6 (at_ : Int) pl else K b (at_ : Int) nd 0 ba pl := by
  have hlr : b.length ≤ reachBytes := by rw [reachV]; omega
  by_cases c : sz = 4
  · subst c
    have h64 := f64_v b hb hlr (at_ := at_ + h) (n := 4) (by omega) (by omega) (by omega)
    have nb := numB_bound hb (at_ := at_ + h) (n := 4) (by omega)
    have big : ¬ 9223372036854775807 < numB b (at_ + h) 4 := by simp at nb; omega
    refine h64.imp2 (f108_v ((b.take en).drop (at_ + h + 4)) (by rw [reachV]; simp; omega) R) fun k h64 h108 id unk hid fm op dp nd ba pl K => ?_
    simp only [if_neg big] at h64
    have e4 : ((4 : Nat) : Int) = 4 := rfl
    rw [e4] at h64 ⊢
    have w : IntKind.i64.wrap ((at_ : Int) + (h : Int)) = ((at_ + h : Nat) : Int) := wrapAdd (by omega)
    have w4 : IntKind.i64.wrap (((at_ + h : Nat) : Int) + 4) = ((at_ + h + 4 : Nat) : Int) := by rw [wr (by omega)]; omega
    cases op with
    | true => simp (disch := omega) only [f100, bnF, bnT, cond_true, cond_false, f87_2, f56_2, beT, or_true, if_true]
    | false =>
      have no : ¬ (4 ≠ 4 ∨ false = true) := by simp
      rw [if_neg no]
      simp (disch := omega) only [f100, bnF, bnT, cond_true, cond_false, f87_2, f56_2, beT, w, w4, h64, upT, deT, Bool.and_self, Int.toNat_natCast, h108]
      by_cases d : numB b (at_ + h) 4 = IntKind.i64.wrap (sumB ((b.take en).drop (at_ + h + 4)))
      · rw [if_neg (by simpa using d), bnF d]; rfl
      · rw [if_pos d, bnT d]; rfl
  · refine .all fun k id unk hid fm op dp nd ba pl K => ?_
    rw [if_pos (.inl c)]
    simp (disch := omega) only [f100, bnT, cond_true, f87_2, f56_2, beT]
/-- What comes behind an element. -/
noncomputable def contP {R : Type} (g : Nat → f101_3_T R) (k : Nat) (h : Ho) (acc : List D2) (X : List D2 → List Int → Int → Int → Int → Int → List D1 → Option R) (i : Int) (gr keep : Bool) (b : List Int) (at_ nd bd ba : Int) (dat : List Int) (kids : List D2) (pl : List D1) : Option R :=
  bif keep then bif room 64 (acc.length + [D2.mk i dat kids gr].length) then lvP g k false b at_ nd bd ba pl h.id (h.en : Int) h.fm h.op (h.dp : Int) (acc ++ [D2.mk i dat kids gr]) X else none
  else lvP g k false b at_ nd bd ba pl h.id (h.en : Int) h.fm h.op (h.dp : Int) acc X
theorem rnd_v (b : List Int) (hb : okBy b) (hl : b.length ≤ 1048576) (h : Ho) (hh : h.Ok b) (first : Bool) (at_ : Nat) (hat : at_ < h.en) (R : Type) : Ev fun k => ∀ (g : Nat → f101_3_T R) (nd ba : Int) (pl : List D1) (acc : List D2) (X : List D2 → List Int → Int → Int → Int → Int → List D1 → Option R),
    lvP g (k + 1) first b (at_ : Int) nd 0 ba pl h.id (h.en : Int) h.fm h.op (h.dp : Int) acc X = match headR b at_ with
    | .bad c => X acc b (at_ : Int) nd c (at_ : Int) pl
    | .ok id hb sz unk =>
      if (h.op && (!free id && !within (rowOf id) h.id)) = true then X acc b (at_ : Int) nd 0 ba pl
      else if chkE b h first at_ hb sz unk id ≠ 0 then X acc b (at_ : Int) nd (chkE b h first at_ hb sz unk id) (at_ : Int) pl
      else g k id (hb : Int) (sz : Int) unk (rowOf id).1 (rowOf id).2.1 (rowOf id).2.2.1 (rowOf id).2.2.2.1 (rowOf id).2.2.2.2 (free id) h.id (h.en : Int) h.fm h.op (h.dp : Int) b (at_ : Int) nd 0 ba pl (contP g k h acc X) := by
  obtain ⟨hh1, hh2, hh3⟩ := hh
  have h99 := f99_2_v b hb hl at_ (by omega) R
  have lt : (at_ : Int) < (h.en : Int) := by omega
  cases hd : headR b at_ with
  | bad c =>
    have c0 : (c == 0) = false := by have := head_bad hb hd; rw [beq_dec]; exact decide_eq_false (by omega)
    rw [hd] at h99
    refine h99.imp fun k h99 g nd ba pl acc X => ?_
    obtain ⟨g1, g2, g3, g4, h99⟩ := h99 nd ba pl
    rw [lvP, f88_2_l3]
    simp only [deT lt, cond_true, f56_2, beq_self_eq_true, f88_2_j5, h99, c0, Bool.not_false]
  | ok id h1 sz unk =>
    obtain ⟨p1, p2, p3, p4, p5, p6⟩ := head_ok hb hd
    rw [hd] at h99
    dsimp only at h99 ⊢
    have he : IntKind.i64.wrap (IntKind.i64.wrap ((at_ : Int) + (h1 : Int)) + (sz : Int)) = ((at_ + h1 + sz : Nat) : Int) := by rw [wrapAdd (by omega), wrapAdd (by omega)]
    have hz : (sz : Int) ≤ ((at_ + h1 + sz : Nat) : Int) := by omega
    -- up to the checks
    have start : ∀ (k : Nat), (∀ (nd ba : Int) (pl : List D1) (K : Int → Int → Int → Bool → List Int → Int → Int → Int → Int → List D1 → Option R), f99_2 k b (at_ : Int) nd 0 ba pl K = K id (h1 : Int) (sz : Int) unk b (at_ : Int) nd 0 ba pl) →
        (∀ (K : Int → ByteArray → Int → Bool → Bool → Bool → Option R), f25 k id K = K (rowOf id).1 (rowOf id).2.1 (rowOf id).2.2.1 (rowOf id).2.2.2.1 (rowOf id).2.2.2.2 (known id)) →
        ∀ (g : Nat → f101_3_T R) (nd ba : Int) (pl : List D1) (acc : List D2) (X : List D2 → List Int → Int → Int → Int → Int → List D1 → Option R),
        lvP g (k + 1) first b (at_ : Int) nd 0 ba pl h.id (h.en : Int) h.fm h.op (h.dp : Int) acc X =
        f88_2_j9 g k first (free id) b (at_ : Int) nd 0 ba pl h.id (h.en : Int) h.fm h.op (h.dp : Int) acc id (h1 : Int) (sz : Int) unk (rowOf id).1 (rowOf id).2.1 (rowOf id).2.2.1 (rowOf id).2.2.2.1 (rowOf id).2.2.2.2 X
          (fun b at_ nd bd ba pl hid en fm op dp acc => lvP g k false b at_ nd bd ba pl hid en fm op dp acc X) := by
      intro k h99 h25 g nd ba pl acc X
      rw [lvP, f88_2_l3]
      simp only [deT lt, cond_true, f56_2, beq_self_eq_true, f88_2_j5, h99, Bool.not_true, cond_false, h25, free]
      cases known id <;> rfl
    by_cases st : (h.op && (!free id && !within (rowOf id) h.id)) = true
    · have stp := st
      simp only [Bool.and_eq_true, Bool.not_eq_true'] at st
      refine h99.imp2 (f25_v id R) fun k h99 h25 g nd ba pl acc X => ?_
      rw [if_pos stp, start k h99 h25, st.2.1, j9_stop st.1 st.2.2]
    · have stn := st
      have st : (h.op && (!free id && !within (rowOf id) h.id)) = false := by simpa using st
      by_cases c1 : ((unk && !(rowOf id).2.2.2.2) || (h.fm && decide (h.en < at_ + h1 + sz))) = true
      · have ce : chkE b h first at_ h1 sz unk id = 41 := by unfold chkE; rw [if_pos c1]
        have c1' : ((unk && !(rowOf id).2.2.2.2) || (h.fm && decide (((at_ + h1 + sz : Nat) : Int) > (h.en : Int)))) = true := by
          rw [← c1]; congr 2; simp; omega
        refine h99.imp2 (f25_v id R) fun k h99 h25 g nd ba pl acc X => ?_
        rw [if_neg stn, start k h99 h25, j9_go st, j10_v hz he, c1', j13_bad, j23_bad (by decide), ce, if_pos (by decide)]
      · have c1' : ((unk && !(rowOf id).2.2.2.2) || (h.fm && decide (((at_ + h1 + sz : Nat) : Int) > (h.en : Int)))) = false := by
          have c1 : ((unk && !(rowOf id).2.2.2.2) || (h.fm && decide (h.en < at_ + h1 + sz))) = false := by simpa using c1
          rw [← c1]; congr 2; simp; omega
        by_cases c2 : b.length < at_ + h1 + sz
        · have ce : chkE b h first at_ h1 sz unk id = 3 := by unfold chkE; rw [if_neg c1, if_pos c2]
          refine h99.imp2 (f25_v id R) fun k h99 h25 g nd ba pl acc X => ?_
          rw [if_neg stn, start k h99 h25, j9_go st, j10_v hz he, c1', j13_ok hz, deT (show ((at_ + h1 + sz : Nat) : Int) > (b.length : Int) by omega), j15_bad, j23_bad (by decide), ce, if_pos (by decide)]
        · by_cases c3 : ((!free id && !within (rowOf id) h.id) || ((rowOf id).1 == 237 && (h.id == 0 || !first))) = true
          · have ce : chkE b h first at_ h1 sz unk id = 42 := by unfold chkE; rw [if_neg c1, if_neg c2, if_pos c3]
            refine h99.imp2 (f25_v id R) fun k h99 h25 g nd ba pl acc X => ?_
            rw [if_neg stn, start k h99 h25, j9_go st, j10_v hz he, c1', j13_ok hz, deF (show ¬ ((at_ + h1 + sz : Nat) : Int) > (b.length : Int) by omega), j15_ok, c3, j18_bad, j23_bad (by decide), ce, if_pos (by decide)]
          · have c3' : ((!free id && !within (rowOf id) h.id) || ((rowOf id).1 == 237 && (h.id == 0 || !first))) = false := by simpa using c3
            by_cases c4 : 8 < h.dp
            · have ce : chkE b h first at_ h1 sz unk id = 43 := by unfold chkE; rw [if_neg c1, if_neg c2, if_neg c3, if_pos c4]
              refine h99.imp2 (f25_v id R) fun k h99 h25 g nd ba pl acc X => ?_
              rw [if_neg stn, start k h99 h25, j9_go st, j10_v hz he, c1', j13_ok hz, deF (show ¬ ((at_ + h1 + sz : Nat) : Int) > (b.length : Int) by omega), j15_ok, c3', j18_deep (by omega), j23_bad (by decide), ce, if_pos (by decide)]
            · have inn : at_ + h1 + sz ≤ h.en := by
                cases hf : h.fm with
                | true => rw [hf] at c1'; simp at c1'; omega
                | false => have := hh2 hf; omega
              by_cases c5 : ((rowOf id).1 == 237) = true
              · have ce : chkE b h first at_ h1 sz unk id = if sz ≠ 4 ∨ h.op = true then 4 else if numB b (at_ + h1) 4 ≠ IntKind.i64.wrap (sumB ((b.take h.en).drop (at_ + h1 + 4))) then 6 else 0 := by
                  unfold chkE; rw [if_neg c1, if_neg c2, if_neg c3, if_neg c4, if_pos c5]
                refine h99.imp3 (f25_v id R) (f100_v b hb hl inn hh1 R) fun k h99 h25 h100 g nd ba pl acc X => ?_
                rw [if_neg stn, start k h99 h25, j9_go st, j10_v hz he, c1', j13_ok hz, deF (show ¬ ((at_ + h1 + sz : Nat) : Int) > (b.length : Int) by omega), j15_ok, c3', j18_sum (by omega) c5, h100, ce]
                by_cases c6 : sz ≠ 4 ∨ h.op = true
                · rw [if_pos c6, if_pos c6, j23_bad (by decide), if_pos (by decide)]
                · rw [if_neg c6, if_neg c6]
                  by_cases c7 : numB b (at_ + h1) 4 ≠ IntKind.i64.wrap (sumB ((b.take h.en).drop (at_ + h1 + 4)))
                  · rw [if_pos c7, if_pos c7, j23_bad (by decide), if_pos (by decide)]
                  · rw [if_neg c7, if_neg c7, j23_ok, if_neg (by decide)]; rfl
              · have ce : chkE b h first at_ h1 sz unk id = 0 := by unfold chkE; rw [if_neg c1, if_neg c2, if_neg c3, if_neg c4, if_neg c5]
                refine h99.imp2 (f25_v id R) fun k h99 h25 g nd ba pl acc X => ?_
                rw [if_neg stn, start k h99 h25, j9_go st, j10_v hz he, c1', j13_ok hz, deF (show ¬ ((at_ + h1 + sz : Nat) : Int) > (b.length : Int) by omega), j15_ok, c3', j18_ok (by omega) (by simpa using c5), j23_ok, ce, if_neg (by decide)]; rfl
inductive Res | bad (c : Int) (at_ : Nat) | fine (kids : List D2) (at_ nd : Nat) (pl : List D1)
def Ho.inner (h : Ho) (id : Int) (e : Nat) (unk : Bool) : Ho := if unk = true then ⟨id, h.en, h.fm, true, h.dp + 1⟩ else ⟨id, e, true, false, h.dp + 1⟩
noncomputable def setSz (pl : List D1) (i : Nat) (n : Int) : List D1 := pl.set i ((pl.getD i zero1).1, (pl.getD i zero1).2.1, (pl.getD i zero1).2.2.1, n, (pl.getD i zero1).2.2.2.2.1, (pl.getD i zero1).2.2.2.2.2)
def plc (id : Int) (at_ hb sz dp : Nat) (unk : Bool) : D1 := (id, (at_ : Int), (hb : Int), (sz : Int), (dp : Int), unk)
noncomputable def lev (b : List Int) : Nat → Ho → Bool → Nat → Nat → List D1 → List D2 → Option Res
  | 0, _, _, _, _, _, _ => none
  | n + 1, h, first, at_, nd, pl, acc =>
    if at_ < h.en then
      match headR b at_ with
      | .bad c => some (.bad c at_)
      | .ok id hb sz unk =>
        if (h.op && (!free id && !within (rowOf id) h.id)) = true then some (.fine acc at_ nd pl)
        else if chkE b h first at_ hb sz unk id ≠ 0 then some (.bad (chkE b h first at_ hb sz unk id) at_)
        else if free id = true then lev b n h false (at_ + hb + sz) nd (pl ++ [plc id at_ hb sz h.dp unk]) acc
        else if 4000 < nd + 1 then some (.bad 2 at_)
        else if (rowOf id).2.2.2.1 = false then lev b n h false (at_ + hb + sz) (nd + 1) (pl ++ [plc id at_ hb sz h.dp unk]) (acc ++ [D2.mk id ((b.drop (at_ + hb)).take sz) [] false])
        else match lev b n (h.inner id (at_ + hb + sz) unk) true (at_ + hb) (nd + 1) (pl ++ [plc id at_ hb sz h.dp unk]) [] with
          | some (.fine kids a nd' pl') => lev b n h false a nd' (setSz pl' pl.length ((a : Int) - ((at_ + hb : Nat) : Int))) (acc ++ [D2.mk id [] kids true])
          | r => r
    else some (.fine acc at_ nd pl)
theorem inner_ok {b : List Int} {h : Ho} (hh : h.Ok b) {id : Int} {e : Nat} {unk : Bool} (he : e ≤ h.en) (hd : h.dp ≤ 8) : (h.inner id e unk).Ok b := by
  obtain ⟨h1, h2, h3⟩ := hh
  unfold Ho.inner
  split
  · exact ⟨h1, h2, by show h.dp + 1 ≤ 9; omega⟩
  · exact ⟨by show e ≤ b.length; omega, fun h => by simp at h, by show h.dp + 1 ≤ 9; omega⟩
theorem setSz_len (pl : List D1) (i : Nat) (n : Int) : (setSz pl i n).length = pl.length := by unfold setSz; rw [List.length_set]
/-- Where a reading ends, and how much it has read. -/
theorem lev_inv {b : List Int} (hb : okBy b) : ∀ (n : Nat) {h : Ho} {first : Bool} {at_ nd : Nat} {pl : List D1} {acc : List D2} {r : Res}, h.Ok b → at_ ≤ b.length → lev b n h first at_ nd pl acc = some r →
    match r with
    | .bad c a => c ≠ 0 ∧ a < b.length
    | .fine kids a nd' pl' => at_ ≤ a ∧ a ≤ b.length ∧ nd ≤ nd' ∧ (nd ≤ 4000 → nd' ≤ 4000) ∧ pl.length ≤ pl'.length ∧ pl'.length + at_ ≤ pl.length + a ∧ kids.length + at_ ≤ acc.length + a ∧ acc.length ≤ kids.length := by
  intro n
  induction n with
  | zero => intro h first at_ nd pl acc r _ _ e; simp [lev] at e
  | succ n ih =>
    intro h first at_ nd pl acc r hh hat e
    rw [lev] at e
    split at e
    · rename_i lt
      obtain ⟨hh1, hh2, hh3⟩ := hh
      split at e
      · rename_i c hd
        obtain rfl := Option.some.inj e
        have := head_bad hb hd
        exact ⟨by omega, by omega⟩
      · rename_i id h1 sz unk hd
        obtain ⟨p1, p2, p3, p4, p5, p6⟩ := head_ok hb hd
        split at e
        · obtain rfl := Option.some.inj e
          exact ⟨Nat.le_refl _, hat, Nat.le_refl _, fun x => x, Nat.le_refl _, Nat.le_refl _, Nat.le_refl _, Nat.le_refl _⟩
        · split at e
          · obtain rfl := Option.some.inj e
            exact ⟨by assumption, by omega⟩
          · rename_i hc
            have hc : chkE b h first at_ h1 sz unk id = 0 := by simpa using hc
            obtain ⟨q1, q2, q3, q4⟩ := chk_ok ⟨hh1, hh2, hh3⟩ hc
            split at e
            · have := ih ⟨hh1, hh2, hh3⟩ (by omega) e
              cases r with
              | bad c a => exact this
              | fine kids a nd' pl' =>
                simp only [List.length_append, List.length_cons, List.length_nil] at this
                exact ⟨by omega, by omega, by omega, by omega, by omega, by omega, by omega, by omega⟩
            · split at e
              · obtain rfl := Option.some.inj e
                exact ⟨by decide, by omega⟩
              · split at e
                · have := ih ⟨hh1, hh2, hh3⟩ (by omega) e
                  cases r with
                  | bad c a => exact this
                  | fine kids a nd' pl' =>
                    simp only [List.length_append, List.length_cons, List.length_nil] at this
                    exact ⟨by omega, by omega, by omega, by omega, by omega, by omega, by omega, by omega⟩
                · split at e
                  · rename_i kids a nd' pl' he
                    have t1 := ih (inner_ok ⟨hh1, hh2, hh3⟩ q1 q2) (by omega) he
                    simp only [List.length_append, List.length_cons, List.length_nil] at t1
                    have t2 := ih ⟨hh1, hh2, hh3⟩ t1.2.1 e
                    cases r with
                    | bad c a => exact t2
                    | fine kids2 a2 nd2 pl2 =>
                      simp only [List.length_append, List.length_cons, List.length_nil, setSz_len] at t2
                      exact ⟨by omega, by omega, by omega, by omega, by omega, by omega, by omega, by omega⟩
                  · rename_i r' hr'
                    cases r with
                    | bad c a => exact ih (inner_ok ⟨hh1, hh2, hh3⟩ q1 q2) (by omega) e
                    | fine kids a nd' pl' => exact absurd e (hr' kids a nd' pl')
    · obtain rfl := Option.some.inj e
      exact ⟨Nat.le_refl _, hat, Nat.le_refl _, fun x => x, Nat.le_refl _, Nat.le_refl _, Nat.le_refl _, Nat.le_refl _⟩
/-- It ends. -/
theorem lev_some {b : List Int} (hb : okBy b) : ∀ (n : Nat) {h : Ho} (first : Bool) {at_ : Nat} (nd : Nat) (pl : List D1) (acc : List D2), h.Ok b → at_ ≤ b.length → b.length - at_ < n → ∃ r, lev b n h first at_ nd pl acc = some r := by
  intro n
  induction n with
  | zero => intro h first at_ nd pl acc _ _ e; omega
  | succ n ih =>
    intro h first at_ nd pl acc hh hat e
    rw [lev]
    by_cases lt : at_ < h.en
    · rw [if_pos lt]
      cases hd : headR b at_ with
      | bad c => exact ⟨_, rfl⟩
      | ok id h1 sz unk =>
        obtain ⟨p1, p2, p3, p4, p5, p6⟩ := head_ok hb hd
        dsimp only
        split
        · exact ⟨_, rfl⟩
        · split
          · exact ⟨_, rfl⟩
          · rename_i hc
            have hc : chkE b h first at_ h1 sz unk id = 0 := by simpa using hc
            obtain ⟨q1, q2, q3, q4⟩ := chk_ok hh hc
            have := hh.1
            split
            · exact ih _ _ _ _ hh (by omega) (by omega)
            · split
              · exact ⟨_, rfl⟩
              · split
                · exact ih _ _ _ _ hh (by omega) (by omega)
                · obtain ⟨r, hr⟩ := ih true (nd + 1) (pl ++ [plc id at_ h1 sz h.dp unk]) [] (inner_ok hh (id := id) (unk := unk) q1 q2) (at_ := at_ + h1) (by omega) (by omega)
                  rw [hr]
                  cases r with
                  | bad c a => exact ⟨_, rfl⟩
                  | fine kids a nd' pl' =>
                    have := lev_inv hb n (inner_ok hh (id := id) (unk := unk) q1 q2) (by omega) hr
                    exact ih _ _ _ _ hh this.2.1 (by omega)
    · rw [if_neg lt]; exact ⟨_, rfl⟩
section
variable {R : Type} {gg : Nat → f88_2_T R} {k : Nat} {id : Int} {at_ hb sz dp nd : Nat} {unk : Bool} {s1 : Int} {s2 : ByteArray} {s3 : Int} {s4 s5 : Bool} {hid en : Int} {fm op : Bool} {b : List Int} {ba : Int} {pl : List D1}
  {K : Int → Bool → Bool → List Int → Int → Int → Int → Int → List Int → List D2 → List D1 → Option R}
theorem el_free (hl : b.length ≤ 1048576) (hp : pl.length ≤ 1048576) (h : at_ + hb + sz ≤ b.length) :
    f101_3_s gg k id (hb : Int) (sz : Int) unk s1 s2 s3 s4 s5 true hid en fm op (dp : Int) b (at_ : Int) (nd : Int) 0 ba pl K =
    K 0 false false b ((at_ + hb + sz : Nat) : Int) (nd : Int) 0 ba [] [] (pl ++ [plc id at_ hb sz dp unk]) := by
  have w : IntKind.i64.wrap ((at_ : Int) + IntKind.i64.wrap ((hb : Int) + (sz : Int))) = ((at_ + hb + sz : Nat) : Int) := by rw [wrapAdd (by omega), wrapAdd (by omega)]; congr 1; omega
  simp only [f101_3_s, cond_true, w]
  rw [roT (by simp only [List.length_cons, List.length_nil]; omega)]; rfl
theorem el_limit (hl : b.length ≤ 1048576) (hp : pl.length ≤ 1048576) (hn : 4000 < nd + 1) (hn' : nd ≤ 4000) :
    f101_3_s gg k id (hb : Int) (sz : Int) unk s1 s2 s3 s4 s5 false hid en fm op (dp : Int) b (at_ : Int) (nd : Int) 0 ba pl K =
    K 0 false false b (at_ : Int) ((nd + 1 : Nat) : Int) 2 (at_ : Int) [] [] (pl ++ [plc id at_ hb sz dp unk]) := by
  simp (disch := omega) only [f101_3_s, cond_false, wrapSuc, deT, cond_true, f87_2, f56_2, beq_self_eq_true]
  rw [roT (by simp only [List.length_cons, List.length_nil]; omega)]; rfl
theorem el_leaf (hl : b.length ≤ 1048576) (hp : pl.length ≤ 1048576) (hn : ¬ 4000 < nd + 1) (h : at_ + hb + sz ≤ b.length) :
    f101_3_s gg k id (hb : Int) (sz : Int) unk s1 s2 s3 false s5 false hid en fm op (dp : Int) b (at_ : Int) (nd : Int) 0 ba pl K =
    K id false true b ((at_ + hb + sz : Nat) : Int) ((nd + 1 : Nat) : Int) 0 ba ((b.drop (at_ + hb)).take sz) [] (pl ++ [plc id at_ hb sz dp unk]) := by
  have w1 : IntKind.i64.wrap ((at_ : Int) + (hb : Int)) = ((at_ + hb : Nat) : Int) := wrapAdd (by omega)
  have w2 : IntKind.i64.wrap (((at_ + hb : Nat) : Int) + (sz : Int)) = ((at_ + hb + sz : Nat) : Int) := wrapAdd (by omega)
  have e : (b.take (at_ + hb + sz)).drop (at_ + hb) = (b.drop (at_ + hb)).take sz := by rw [List.drop_take]; congr 1; omega
  simp (disch := omega) only [f101_3_s, cond_false, wrapSuc, deF, cond_true, Bool.not_false, w1, w2, upT, deT, Bool.and_self, Int.toNat_natCast, e, f95_2, List.length_nil]
  rw [roT (by simp only [List.length_cons, List.length_nil]; omega), roT (by simp; omega)]; rfl
theorem el_group (hl : b.length ≤ 1048576) (hp : pl.length ≤ 1048576) (hn : ¬ 4000 < nd + 1) {h : Ho} (hd : h.dp ≤ 8) (hle : at_ + hb + sz ≤ b.length) :
    f101_3_s gg k id (hb : Int) (sz : Int) unk s1 s2 s3 true s5 false h.id (h.en : Int) h.fm h.op (h.dp : Int) b (at_ : Int) (nd : Int) 0 ba pl K =
    gg k (h.inner id (at_ + hb + sz) unk).id ((h.inner id (at_ + hb + sz) unk).en : Int) (h.inner id (at_ + hb + sz) unk).fm (h.inner id (at_ + hb + sz) unk).op ((h.inner id (at_ + hb + sz) unk).dp : Int) b ((at_ + hb : Nat) : Int) ((nd + 1 : Nat) : Int) 0 ba (pl ++ [plc id at_ hb sz h.dp unk])
      (fun b' a nd' bd ba' kids pl' => bif inb (pl.length : Int) pl'.length then K id true true b' a nd' bd ba' [] kids (setSz pl' pl.length (IntKind.i64.wrap (a - ((at_ + hb : Nat) : Int)))) else none) := by
  have w1 : IntKind.i64.wrap ((at_ : Int) + (hb : Int)) = ((at_ + hb : Nat) : Int) := wrapAdd (by omega)
  have w2 : IntKind.i64.wrap (((at_ + hb : Nat) : Int) + (sz : Int)) = ((at_ + hb + sz : Nat) : Int) := wrapAdd (by omega)
  have w3 : IntKind.i64.wrap ((h.dp : Int) + 1) = ((h.dp + 1 : Nat) : Int) := wrapSuc (by omega)
  simp (disch := omega) only [f101_3_s, cond_false, wrapSuc, deF, cond_true, Bool.not_true, w1, w2, w3, Int.toNat_natCast]
  rw [roT (by simp only [List.length_cons, List.length_nil]; omega)]
  cases unk <;> rfl
end
/-- The calls within a level are those of the level, with much fuel. -/
def Good {R : Type} (g : Nat → f101_3_T R) (m : Nat) : Prop := ∀ j, m ≤ j → ∃ k, m ≤ k ∧ g j = f101_3 k
theorem lvP_end {R : Type} (g : Nat → f101_3_T R) (j : Nat) (first : Bool) (b : List Int) (at_ nd ba : Int) (pl : List D1) (hid en : Int) (fm op : Bool) (dp : Int) (acc : List D2) (X : List D2 → List Int → Int → Int → Int → Int → List D1 → Option R) {c : Int} (hc : c ≠ 0 ∨ ¬ at_ < en) :
    lvP g (j + 1) first b at_ nd c ba pl hid en fm op dp acc X = X acc b at_ nd c ba pl := by
  rw [lvP, f88_2_l3]
  by_cases lt : at_ < en
  · have c0 : (c == 0) = false := by rw [beq_dec]; exact decide_eq_false (hc.resolve_right (fun h => h lt))
    simp only [deT lt, cond_true, f56_2, c0, cond_false]
  · simp only [deF lt, cond_false]
/-- What the program reads in a holder. -/
def RdP {R : Type} (b : List Int) (h : Ho) (first : Bool) (at_ nd : Nat) (pl : List D1) (acc : List D2) (r : Res) (g : Nat → f101_3_T R) (j : Nat) : Prop :=
  ∀ (ba : Int) (X : List D2 → List Int → Int → Int → Int → Int → List D1 → Option R),
    match r with
    | .fine kids a nd' pl' => lvP g j first b (at_ : Int) (nd : Int) 0 ba pl h.id (h.en : Int) h.fm h.op (h.dp : Int) acc X = X kids b (a : Int) (nd' : Int) 0 ba pl'
    | .bad c a => ∃ (ks : List D2) (a' nd' : Int) (pl' : List D1), pl.length ≤ pl'.length ∧ lvP g j first b (at_ : Int) (nd : Int) 0 ba pl h.id (h.en : Int) h.fm h.op (h.dp : Int) acc X = X ks b a' nd' c (a : Int) pl'
theorem prog_lev (b : List Int) (hb : okBy b) (hl : b.length ≤ 1048576) (R : Type) : ∀ (n : Nat) {h : Ho} {first : Bool} {at_ nd : Nat} {pl : List D1} {acc : List D2} {r : Res}, h.Ok b → at_ ≤ b.length → nd ≤ 4000 → pl.length ≤ at_ → acc.length ≤ at_ → lev b n h first at_ nd pl acc = some r →
    ∃ k0, ∀ m, k0 ≤ m → ∀ g : Nat → f101_3_T R, Good g m → ∀ j, m + k0 ≤ j → RdP b h first at_ nd pl acc r g j := by
  intro n
  induction n with
  | zero => intro h first at_ nd pl acc r _ _ _ _ _ e; simp [lev] at e
  | succ n ih =>
    intro h first at_ nd pl acc r hh hat hnd hpl hac e
    rw [lev] at e
    by_cases lt : at_ < h.en
    · rw [if_pos lt] at e
      obtain ⟨k1, rn⟩ := rnd_v b hb hl h hh first at_ lt R
      have hh1 := hh.1
      cases hd : headR b at_ with
      | bad c =>
        rw [hd] at e rn
        obtain rfl := Option.some.inj e
        refine ⟨k1 + 1, fun m hm g hg j hj ba X => ?_⟩
        obtain ⟨j, rfl⟩ : ∃ i, j = i + 1 := ⟨j - 1, by omega⟩
        exact ⟨acc, at_, nd, pl, Nat.le_refl _, rn j (by omega) g nd ba pl acc X⟩
      | ok id h1 sz unk =>
        rw [hd] at e rn
        obtain ⟨p1, p2, p3, p4, p5, p6⟩ := head_ok hb hd
        dsimp only at e rn
        by_cases st : (h.op && (!free id && !within (rowOf id) h.id)) = true
        · rw [if_pos st] at e
          obtain rfl := Option.some.inj e
          refine ⟨k1 + 1, fun m hm g hg j hj ba X => ?_⟩
          obtain ⟨j, rfl⟩ : ∃ i, j = i + 1 := ⟨j - 1, by omega⟩
          have := rn j (by omega) g nd ba pl acc X
          rw [if_pos st] at this
          exact this
        · rw [if_neg st] at e
          by_cases hc : chkE b h first at_ h1 sz unk id ≠ 0
          · rw [if_pos hc] at e
            obtain rfl := Option.some.inj e
            refine ⟨k1 + 1, fun m hm g hg j hj ba X => ?_⟩
            obtain ⟨j, rfl⟩ : ∃ i, j = i + 1 := ⟨j - 1, by omega⟩
            have := rn j (by omega) g nd ba pl acc X
            rw [if_neg st, if_pos hc] at this
            exact ⟨acc, at_, nd, pl, Nat.le_refl _, this⟩
          · rw [if_neg hc] at e
            have hc0 : chkE b h first at_ h1 sz unk id = 0 := by simpa using hc
            obtain ⟨q1, q2, q3, q4⟩ := chk_ok hh hc0
            have pl1 : (pl ++ [plc id at_ h1 sz h.dp unk]).length = pl.length + 1 := by simp
            -- the element, by the program
            have st1 : ∀ m g, Good g m → ∀ j, m + k1 + 1 ≤ j → 1 ≤ m → ∀ (ba : Int) (X : List D2 → List Int → Int → Int → Int → Int → List D1 → Option R), ∃ i k, j = i + 1 ∧ m ≤ k + 1 ∧
                lvP g j first b (at_ : Int) (nd : Int) 0 ba pl h.id (h.en : Int) h.fm h.op (h.dp : Int) acc X = f101_3_s (fun _ => f88_2 k) k id (h1 : Int) (sz : Int) unk (rowOf id).1 (rowOf id).2.1 (rowOf id).2.2.1 (rowOf id).2.2.2.1 (rowOf id).2.2.2.2 (free id) h.id (h.en : Int) h.fm h.op (h.dp : Int) b (at_ : Int) nd 0 ba pl (contP g i h acc X) := by
              intro m g hg j hj hm ba X
              obtain ⟨i, rfl⟩ : ∃ i, j = i + 1 := ⟨j - 1, by omega⟩
              obtain ⟨k, hk, hgk⟩ := hg i (by omega)
              obtain ⟨k, rfl⟩ : ∃ q, k = q + 1 := ⟨k - 1, by omega⟩
              have := rn i (by omega) g nd ba pl acc X
              rw [if_neg st, if_neg hc, hgk, f101_3_step] at this
              exact ⟨i, k, rfl, hk, this⟩
            by_cases hf : free id = true
            · rw [if_pos hf] at e
              obtain ⟨k2, h2⟩ := ih hh (by omega) hnd (by rw [pl1]; omega) (by omega) e
              refine ⟨k1 + k2 + 2, fun m hm g hg j hj ba X => ?_⟩
              obtain ⟨i, k, rfl, hk, he⟩ := st1 m g hg j (by omega) (by omega) ba X
              rw [hf, el_free hl (by omega) (by omega)] at he
              have h3 := h2 m (by omega) g hg i (by omega) ba X
              cases r with
              | fine kids a nd' pl' => exact he.trans h3
              | bad c a =>
                obtain ⟨ks, a', nd', pl', l1, l2⟩ := h3
                exact ⟨ks, a', nd', pl', by omega, he.trans l2⟩
            · rw [if_neg hf] at e
              have hf : free id = false := by simpa using hf
              by_cases hn : 4000 < nd + 1
              · rw [if_pos hn] at e
                obtain rfl := Option.some.inj e
                refine ⟨k1 + 2, fun m hm g hg j hj ba X => ?_⟩
                obtain ⟨i, k, rfl, hk, he⟩ := st1 m g hg j (by omega) (by omega) ba X
                obtain ⟨i, rfl⟩ : ∃ q, i = q + 1 := ⟨i - 1, by omega⟩
                rw [hf, el_limit hl (by omega) hn hnd] at he
                exact ⟨acc, _, _, pl ++ [plc id at_ h1 sz h.dp unk], by omega, he.trans (lvP_end g i false b _ _ _ _ _ _ _ _ _ acc X (.inl (by decide)))⟩
              · rw [if_neg hn] at e
                have ac1 : ∀ x : D2, (acc ++ [x]).length = acc.length + 1 := fun x => by simp
                have rm : ∀ x : D2, room 64 (acc.length + [x].length) = true := fun x => roT (by simp only [List.length_cons, List.length_nil]; omega)
                by_cases hg4 : (rowOf id).2.2.2.1 = false
                · rw [if_pos hg4] at e
                  obtain ⟨k2, h2⟩ := ih hh (by omega) (by omega) (by rw [pl1]; omega) (by rw [ac1]; omega) e
                  refine ⟨k1 + k2 + 2, fun m hm g hg j hj ba X => ?_⟩
                  obtain ⟨i, k, rfl, hk, he⟩ := st1 m g hg j (by omega) (by omega) ba X
                  rw [hf, hg4, el_leaf hl (by omega) hn (by omega), contP, cond_true, rm, cond_true] at he
                  have h3 := h2 m (by omega) g hg i (by omega) ba X
                  cases r with
                  | fine kids a nd' pl' => exact he.trans h3
                  | bad c a =>
                    obtain ⟨ks, a', nd', pl', l1, l2⟩ := h3
                    exact ⟨ks, a', nd', pl', by omega, he.trans l2⟩
                · rw [if_neg hg4] at e
                  have hg4 : (rowOf id).2.2.2.1 = true := by simpa using hg4
                  have hin := inner_ok hh (id := id) (unk := unk) q1 q2
                  -- what is in the group
                  have grp : ∀ rn', lev b n (h.inner id (at_ + h1 + sz) unk) true (at_ + h1) (nd + 1) (pl ++ [plc id at_ h1 sz h.dp unk]) [] = some rn' → ∃ k3, ∀ k, k3 ≤ k → ∀ (ba : Int) (X : List Int → Int → Int → Int → Int → List D2 → List D1 → Option R),
                      match rn' with
                      | .fine kids a nd' pl' => f88_2 k (h.inner id (at_ + h1 + sz) unk).id ((h.inner id (at_ + h1 + sz) unk).en : Int) (h.inner id (at_ + h1 + sz) unk).fm (h.inner id (at_ + h1 + sz) unk).op ((h.inner id (at_ + h1 + sz) unk).dp : Int) b ((at_ + h1 : Nat) : Int) ((nd + 1 : Nat) : Int) 0 ba (pl ++ [plc id at_ h1 sz h.dp unk]) X = X b (a : Int) (nd' : Int) 0 ba kids pl'
                      | .bad c a => ∃ (ks : List D2) (a' nd' : Int) (pl' : List D1), pl.length + 1 ≤ pl'.length ∧ f88_2 k (h.inner id (at_ + h1 + sz) unk).id ((h.inner id (at_ + h1 + sz) unk).en : Int) (h.inner id (at_ + h1 + sz) unk).fm (h.inner id (at_ + h1 + sz) unk).op ((h.inner id (at_ + h1 + sz) unk).dp : Int) b ((at_ + h1 : Nat) : Int) ((nd + 1 : Nat) : Int) 0 ba (pl ++ [plc id at_ h1 sz h.dp unk]) X = X b a' nd' c (a : Int) ks pl' := by
                    intro rn' hrn
                    obtain ⟨k0, h0⟩ := ih hin (by omega) (by omega) (by rw [pl1]; omega) (by simp) hrn
                    refine ⟨2 * k0 + 1, fun k hk ba X => ?_⟩
                    obtain ⟨k, rfl⟩ : ∃ q, k = q + 1 := ⟨k - 1, by omega⟩
                    have h3 := h0 k0 (Nat.le_refl _) (fun _ => f101_3 k) (fun j hj => ⟨k, by omega, rfl⟩) k (by omega) ba (fun ks b' a nd' bd ba' pl' => X b' a nd' bd ba' ks pl')
                    cases rn' with
                    | fine kids a nd' pl' => dsimp only; rw [f88_2_step]; exact h3
                    | bad c a =>
                      obtain ⟨ks, a', nd', pl', l1, l2⟩ := h3
                      rw [pl1] at l1
                      refine ⟨ks, a', nd', pl', l1, ?_⟩
                      rw [f88_2_step]; exact l2
                  cases hn' : lev b n (h.inner id (at_ + h1 + sz) unk) true (at_ + h1) (nd + 1) (pl ++ [plc id at_ h1 sz h.dp unk]) [] with
                  | none => rw [hn'] at e; simp at e
                  | some rn' =>
                    obtain ⟨k3, h3⟩ := grp rn' hn'
                    have iv := lev_inv hb n hin (by omega) hn'
                    rw [hn'] at e
                    cases rn' with
                    | bad c a =>
                      dsimp only at e
                      obtain rfl := Option.some.inj e
                      refine ⟨k1 + k3 + 3, fun m hm g hg j hj ba X => ?_⟩
                      obtain ⟨i, k, rfl, hk, he⟩ := st1 m g hg j (by omega) (by omega) ba X
                      obtain ⟨i, rfl⟩ : ∃ q, i = q + 1 := ⟨i - 1, by omega⟩
                      rw [hf, hg4, el_group hl (by omega) hn q2 (by omega)] at he
                      obtain ⟨ks, a', nd', pl', l1, l2⟩ := h3 k (by omega) ba _
                      rw [l2, inT (by omega), cond_true, contP, cond_true, rm, cond_true, lvP_end _ _ _ _ _ _ _ _ _ _ _ _ _ _ _ (.inl iv.1)] at he
                      exact ⟨_, a', nd', _, by rw [setSz_len]; omega, he⟩
                    | fine kids a nd' pl' =>
                      dsimp only at e iv
                      rw [pl1] at iv
                      obtain ⟨k2, h2⟩ := ih hh iv.2.1 (by omega) (by rw [setSz_len]; omega) (by rw [ac1]; omega) e
                      refine ⟨k1 + k2 + k3 + 3, fun m hm g hg j hj ba X => ?_⟩
                      obtain ⟨i, k, rfl, hk, he⟩ := st1 m g hg j (by omega) (by omega) ba X
                      have wr1 : IntKind.i64.wrap ((a : Int) - ((at_ + h1 : Nat) : Int)) = (a : Int) - ((at_ + h1 : Nat) : Int) := wr (by omega)
                      have h4 := h3 k (by omega) ba
                      dsimp only at h4
                      rw [hf, hg4, el_group hl (by omega) hn q2 (by omega), h4, inT (by omega), cond_true, contP, cond_true, rm, cond_true, wr1] at he
                      have h5 := h2 m (by omega) g hg i (by omega) ba X
                      cases r with
                      | fine kids a nd' pl' => exact he.trans h5
                      | bad c a =>
                        obtain ⟨ks, a', nd', pl', l1, l2⟩ := h5
                        rw [setSz_len] at l1
                        exact ⟨ks, a', nd', pl', by omega, he.trans l2⟩
    · rw [if_neg lt] at e
      obtain rfl := Option.some.inj e
      refine ⟨1, fun m hm g hg j hj ba X => ?_⟩
      obtain ⟨j, rfl⟩ : ∃ i, j = i + 1 := ⟨j - 1, by omega⟩
      exact lvP_end _ _ _ _ _ _ _ _ _ _ _ _ _ _ _ (.inr (by omega))
/-- The loop over the elements of a holder, as the document does it. -/
noncomputable def lvR {R : Type} (g : Nat → f89_2_T R) (k : Nat) (at_ cnt : Int) (b : List Int) (nd er ea : Int) (pl : List D1) (hid en kn dp : Int) (op : Bool) (acc : List D2) (X : Int → List D2 → List Int → Int → Int → Int → List D1 → Option R) : Option R :=
  f89_2_l3 g k at_ cnt b nd er ea pl hid en kn dp op acc X X
/-- The nearest end that is known. -/
def Ho.kn (h : Ho) : Int := if h.fm = true then (h.en : Int) else -1
/-- More ahead of what was read. -/
def Res.add (ks : List D2) (ps : List D1) : Res → Res
  | .bad c a => .bad c a
  | .fine kids a nd pl => .fine (ks ++ kids) a nd (ps ++ pl)
/-- The plain reading, with what it adds alone. -/
noncomputable def lev2 (b : List Int) : Nat → Ho → Bool → Nat → Nat → Option Res
  | 0, _, _, _, _ => none
  | n + 1, h, first, at_, nd =>
    if at_ < h.en then
      match headR b at_ with
      | .bad c => some (.bad c at_)
      | .ok id hb sz unk =>
        if (h.op && (!free id && !within (rowOf id) h.id)) = true then some (.fine [] at_ nd [])
        else if chkE b h first at_ hb sz unk id ≠ 0 then some (.bad (chkE b h first at_ hb sz unk id) at_)
        else if free id = true then (lev2 b n h false (at_ + hb + sz) nd).map (Res.add [] [plc id at_ hb sz h.dp unk])
        else if 4000 < nd + 1 then some (.bad 2 at_)
        else if (rowOf id).2.2.2.1 = false then (lev2 b n h false (at_ + hb + sz) (nd + 1)).map (Res.add [D2.mk id ((b.drop (at_ + hb)).take sz) [] false] [plc id at_ hb sz h.dp unk])
        else match lev2 b n (h.inner id (at_ + hb + sz) unk) true (at_ + hb) (nd + 1) with
          | some (.fine kids a nd' ps) => (lev2 b n h false a nd').map (Res.add [D2.mk id [] kids true] (plc id at_ hb (a - (at_ + hb)) h.dp unk :: ps))
          | r => r
    else some (.fine [] at_ nd [])
theorem add_add (k1 k2 : List D2) (p1 p2 : List D1) (r : Res) : (r.add k2 p2).add k1 p1 = r.add (k1 ++ k2) (p1 ++ p2) := by
  cases r <;> simp [Res.add]
theorem setSz_mid (pl ps : List D1) (id : Int) (at_ h1 x dp : Nat) (unk : Bool) (n : Nat) : setSz ((pl ++ [plc id at_ h1 x dp unk]) ++ ps) pl.length (n : Int) = pl ++ (plc id at_ h1 n dp unk :: ps) := by
  unfold setSz
  have e : ((pl ++ [plc id at_ h1 x dp unk]) ++ ps).getD pl.length zero1 = plc id at_ h1 x dp unk := by simp [List.getD]
  rw [e]; simp [plc]
theorem lev_rel {b : List Int} (hb : okBy b) : ∀ (n : Nat) {h : Ho} (first : Bool) {at_ : Nat} (nd : Nat) (pl : List D1) (acc : List D2), h.Ok b → at_ ≤ b.length → lev b n h first at_ nd pl acc = (lev2 b n h first at_ nd).map (Res.add acc pl) := by
  intro n
  induction n with
  | zero => intros; rfl
  | succ n ih =>
    intro h first at_ nd pl acc hh hat
    rw [lev, lev2]
    by_cases lt : at_ < h.en
    · rw [if_pos lt, if_pos lt]
      cases hd : headR b at_ with
      | bad c => rfl
      | ok id h1 sz unk =>
        obtain ⟨p1, p2, p3, p4, p5, p6⟩ := head_ok hb hd
        dsimp only
        by_cases st : (h.op && (!free id && !within (rowOf id) h.id)) = true
        · rw [if_pos st, if_pos st]; simp [Res.add]
        · rw [if_neg st, if_neg st]
          by_cases hc : chkE b h first at_ h1 sz unk id ≠ 0
          · rw [if_pos hc, if_pos hc]; rfl
          · rw [if_neg hc, if_neg hc]
            have hc0 : chkE b h first at_ h1 sz unk id = 0 := by simpa using hc
            obtain ⟨q1, q2, q3, q4⟩ := chk_ok hh hc0
            have := hh.1
            have ff : ∀ (k2 : List D2) (p2 : List D1), (Res.add acc pl ∘ Res.add k2 p2) = Res.add (acc ++ k2) (pl ++ p2) := fun k2 p2 => by funext r; exact add_add acc k2 pl p2 r
            by_cases hf : free id = true
            · rw [if_pos hf, if_pos hf, ih _ _ _ _ hh (by omega), Option.map_map, ff, List.append_nil]
            · rw [if_neg hf, if_neg hf]
              by_cases hn : 4000 < nd + 1
              · rw [if_pos hn, if_pos hn]; rfl
              · rw [if_neg hn, if_neg hn]
                by_cases hg : (rowOf id).2.2.2.1 = false
                · rw [if_pos hg, if_pos hg, ih _ _ _ _ hh (by omega), Option.map_map, ff]
                · rw [if_neg hg, if_neg hg]
                  have hin := inner_ok hh (id := id) (unk := unk) q1 q2
                  have hi := ih true (nd + 1) (pl ++ [plc id at_ h1 sz h.dp unk]) [] hin (at_ := at_ + h1) (by omega)
                  rw [hi]
                  cases hr : lev2 b n (h.inner id (at_ + h1 + sz) unk) true (at_ + h1) (nd + 1) with
                  | none => rfl
                  | some r =>
                    rw [hr] at hi
                    cases r with
                    | bad c a => rfl
                    | fine kids a nd' ps =>
                      have iv := lev_inv hb n hin (by omega) hi
                      have wd : ((a : Int) - ((at_ + h1 : Nat) : Int)) = ((a - (at_ + h1) : Nat) : Int) := by
                        have := iv.1; omega
                      dsimp only [Option.map_some, Res.add]
                      rw [ih _ _ _ _ hh iv.2.1, wd, setSz_mid, List.nil_append]
                      rw [Option.map_map, ff]
    · rw [if_neg lt, if_neg lt]; simp [Res.add]
theorem lev2_inv {b : List Int} (hb : okBy b) {n : Nat} {h : Ho} {first : Bool} {at_ nd : Nat} {r : Res} (hh : h.Ok b) (hat : at_ ≤ b.length) (e : lev2 b n h first at_ nd = some r) :
    match r with
    | .bad c a => c ≠ 0 ∧ a < b.length
    | .fine kids a nd' ps => at_ ≤ a ∧ a ≤ b.length ∧ nd ≤ nd' ∧ (nd ≤ 4000 → nd' ≤ 4000) ∧ ps.length + at_ ≤ a ∧ kids.length + at_ ≤ a := by
  have h1 := lev_rel hb n first nd [] [] hh hat
  rw [e] at h1
  have := lev_inv hb n hh hat h1
  cases r with
  | bad c a => exact this
  | fine kids a nd' ps =>
    simp only [Res.add, List.nil_append, List.length_nil] at this
    exact ⟨this.1, this.2.1, this.2.2.1, this.2.2.2.1, by omega, by omega⟩
theorem lev2_some {b : List Int} (hb : okBy b) (n : Nat) {h : Ho} (first : Bool) {at_ : Nat} (nd : Nat) (hh : h.Ok b) (hat : at_ ≤ b.length) (hn : b.length - at_ < n) : ∃ r, lev2 b n h first at_ nd = some r := by
  obtain ⟨r, hr⟩ := lev_some hb n first nd [] [] hh hat hn
  rw [lev_rel hb n first nd [] [] hh hat] at hr
  cases e : lev2 b n h first at_ nd with
  | none => rw [e] at hr; simp at hr
  | some r => exact ⟨r, rfl⟩
/-- What the document reads in a holder. -/
def RdR {R : Type} (b : List Int) (h : Ho) (cnt at_ nd : Nat) (pl : List D1) (acc : List D2) (r : Res) (g : Nat → f89_2_T R) (j : Nat) : Prop :=
  ∀ (ea : Int) (X : Int → List D2 → List Int → Int → Int → Int → List D1 → Option R),
    match r with
    | .fine kids a nd' ps => lvR g j (at_ : Int) (cnt : Int) b (nd : Int) 0 ea pl h.id (h.en : Int) h.kn (h.dp : Int) h.op acc X = X (a : Int) (acc ++ kids) b (nd' : Int) 0 ea (pl ++ ps)
    | .bad c a => (∃ (ks : List D2) (a' nd' : Int) (pl' : List D1), pl.length ≤ pl'.length ∧ lvR g j (at_ : Int) (cnt : Int) b (nd : Int) 0 ea pl h.id (h.en : Int) h.kn (h.dp : Int) h.op acc X = X a' ks b nd' c (a : Int) pl') ∨
      (h.op = true ∧ a < h.en ∧ headR b a = .bad c ∧ ∃ (ks : List D2) (nd' : Int) (pl' : List D1), pl.length ≤ pl'.length ∧ lvR g j (at_ : Int) (cnt : Int) b (nd : Int) 0 ea pl h.id (h.en : Int) h.kn (h.dp : Int) h.op acc X = X (a : Int) ks b nd' 0 ea pl')
theorem RdR.more {R : Type} {b : List Int} {h : Ho} {cnt cnt' at_ at2 nd nd2 : Nat} {pl p : List D1} {acc k : List D2} {r : Res} {g : Nat → f89_2_T R} {j i : Nat} (e : ∀ (ea : Int) (X : Int → List D2 → List Int → Int → Int → Int → List D1 → Option R), lvR g j (at_ : Int) (cnt : Int) b (nd : Int) 0 ea pl h.id (h.en : Int) h.kn (h.dp : Int) h.op acc X = lvR g i (at2 : Int) (cnt' : Int) b (nd2 : Int) 0 ea (pl ++ p) h.id (h.en : Int) h.kn (h.dp : Int) h.op (acc ++ k) X) (h2 : RdR b h cnt' at2 nd2 (pl ++ p) (acc ++ k) r g i) :
    RdR b h cnt at_ nd pl acc (r.add k p) g j := by
  intro ea X
  have h3 := h2 ea X
  cases r with
  | fine kids a nd' ps =>
    simp only [Res.add]
    rw [e, ← List.append_assoc, ← List.append_assoc]; exact h3
  | bad c a =>
    simp only [Res.add]
    rcases h3 with ⟨ks, a', nd', pl', l1, l2⟩ | ⟨o1, o2, o3, ks, nd', pl', l1, l2⟩
    · exact .inl ⟨ks, a', nd', pl', by simp at l1; omega, (e ea X).trans l2⟩
    · exact .inr ⟨o1, o2, o3, ks, nd', pl', by simp at l1; omega, (e ea X).trans l2⟩
/-- A tree as it lies in memory. -/
inductive OkN : D2 → Prop
  | mk {i : Int} {d : List Int} {ks : List D2} {g : Bool} : -9223372036854775808 ≤ i ∧ i < 9223372036854775808 → okBy d → d.length ≤ reachBytes → ks.length * 64 ≤ reachBytes → (∀ x ∈ ks, OkN x) → OkN (.mk i d ks g)
def OkL (l : List D2) : Prop := l.length * 64 ≤ reachBytes ∧ ∀ x ∈ l, OkN x
theorem OkN.id {n : D2} (h : OkN n) : -9223372036854775808 ≤ n.c0 ∧ n.c0 < 9223372036854775808 := by cases h; assumption
theorem OkN.by {n : D2} (h : OkN n) : okBy n.c1 := by cases h; assumption
theorem OkN.kids {n : D2} (h : OkN n) : OkL n.c2 := by cases h; exact ⟨by assumption, by assumption⟩
/-- Two fuels, both large. -/
def EvB (p : Nat → Nat → Prop) : Prop := ∃ k0, ∀ q, k0 ≤ q → ∀ j, k0 ≤ j → p q j
theorem EvB.suc {p : Nat → Nat → Prop} (h : EvB fun q j => p q (j + 1)) : EvB p := by
  obtain ⟨a, ha⟩ := h
  refine ⟨a + 1, fun q hq j hj => ?_⟩
  obtain ⟨j, rfl⟩ : ∃ i, j = i + 1 := ⟨j - 1, by omega⟩
  exact ha q (by omega) j (by omega)
theorem EvB.all {p : Nat → Nat → Prop} (h : ∀ q j, p q j) : EvB p := ⟨0, fun q _ j _ => h q j⟩
theorem EvB.imp {p p' : Nat → Nat → Prop} (h : EvB p) (f : ∀ q j, p q j → p' q j) : EvB p' := by
  obtain ⟨a, ha⟩ := h
  exact ⟨a, fun q hq j hj => f q j (ha q hq j hj)⟩
theorem EvB.and {p p' : Nat → Nat → Prop} (h : EvB p) (h' : EvB p') : EvB fun q j => p q j ∧ p' q j := by
  obtain ⟨a, ha⟩ := h
  obtain ⟨b, hb⟩ := h'
  exact ⟨max a b, fun q hq j hj => ⟨ha q (by omega) j (by omega), hb q (by omega) j (by omega)⟩⟩
theorem EvB.right {p : Nat → Prop} (h : Ev p) : EvB fun _ j => p j := by
  obtain ⟨a, ha⟩ := h
  exact ⟨a, fun q _ j hj => ha j hj⟩
theorem EvB.down {p : Nat → Nat → Nat → Prop} (n : Nat) (h0 : EvB (p n)) (hs : ∀ i, i < n → EvB (p (i + 1)) → EvB (p i)) : ∀ i, i ≤ n → EvB (p i) := by
  intro i hi
  obtain ⟨m, rfl⟩ : ∃ m, n = i + m := ⟨n - i, by omega⟩
  clear hi
  induction m generalizing i with
  | zero => exact h0
  | succ m ih => exact hs i (by omega) (ih (i + 1) (by rw [show i + 1 + m = i + (m + 1) by omega]; exact h0) (fun j hj => hs j (by omega)))
theorem lev2_ok {b : List Int} (hb : okBy b) (hl : b.length ≤ 1048576) : ∀ (n : Nat) {h : Ho} {first : Bool} {at_ nd : Nat} {kids : List D2} {a nd' : Nat} {ps : List D1}, h.Ok b → at_ ≤ b.length → lev2 b n h first at_ nd = some (.fine kids a nd' ps) → ∀ x ∈ kids, OkN x := by
  intro n
  induction n with
  | zero => intro h first at_ nd kids a nd' ps _ _ e; simp [lev2] at e
  | succ n ih =>
    intro h first at_ nd kids a nd' ps hh hat e
    rw [lev2] at e
    split at e
    · split at e
      · simp at e
      · rename_i id h1 sz unk hd
        obtain ⟨p1, p2, p3, p4, p5, p6⟩ := head_ok hb hd
        split at e
        · simp only [Option.some.injEq, Res.fine.injEq] at e; rw [← e.1]; simp
        · split at e
          · simp at e
          · rename_i hc
            have hc : chkE b h first at_ h1 sz unk id = 0 := by simpa using hc
            obtain ⟨q1, q2, q3, q4⟩ := chk_ok hh hc
            have hh1 := hh.1
            have idb : -9223372036854775808 ≤ id ∧ id < 9223372036854775808 := by
              have e2 := hd
              unfold headR at e2
              split at e2; · simp at e2
              split at e2; · simp at e2
              split at e2; · simp at e2
              split at e2; · simp at e2
              simp only [HR.ok.injEq] at e2
              have nb := numB_bound hb (at_ := at_) (n := idLen (b.getD at_ 0)) (by omega)
              have r4 := idLen_range (b.getD at_ 0)
              have hp : (256 : Int) ^ (idLen (b.getD at_ 0)) ≤ 4294967296 := by
                have h2 : (256 : Nat) ^ (idLen (b.getD at_ 0)) ≤ 4294967296 := Nat.le_trans (Nat.pow_le_pow_right (by decide) r4) (by decide)
                have e : ((256 ^ (idLen (b.getD at_ 0)) : Nat) : Int) = (256 : Int) ^ (idLen (b.getD at_ 0)) := Int.natCast_pow 256 _
                omega
              omega
            have add : ∀ {at2 nd2 : Nat} {x : D2} {q : List D1}, at2 ≤ b.length → OkN x → (lev2 b n h false at2 nd2).map (Res.add [x] q) = some (.fine kids a nd' ps) → ∀ y ∈ kids, OkN y := by
              intro at2 nd2 x q h2 hx e y hy
              cases hr : lev2 b n h false at2 nd2 with
              | none => rw [hr] at e; simp at e
              | some r =>
                rw [hr] at e
                cases r with
                | bad c a => simp [Res.add] at e
                | fine k2 a2 n2 p2 =>
                  simp only [Option.map_some, Res.add, Option.some.injEq, Res.fine.injEq] at e
                  rw [← e.1] at hy
                  rcases List.mem_append.1 hy with hy | hy
                  · simp at hy; rw [hy]; exact hx
                  · exact ih hh h2 hr y hy
            split at e
            · cases hr : lev2 b n h false (at_ + h1 + sz) nd with
              | none => rw [hr] at e; simp at e
              | some r =>
                rw [hr] at e
                cases r with
                | bad c a => simp [Res.add] at e
                | fine k2 a2 n2 p2 =>
                  simp only [Option.map_some, Res.add, Option.some.injEq, Res.fine.injEq, List.nil_append] at e
                  rw [← e.1]
                  exact ih hh (by omega) hr
            · split at e
              · simp at e
              · split at e
                · refine add (by omega) ?_ e
                  refine .mk idb (fun x hx => hb x (List.mem_of_mem_drop (List.mem_of_mem_take hx))) (by rw [reachV]; simp; omega) (by simp) (by simp)
                · cases hi : lev2 b n (h.inner id (at_ + h1 + sz) unk) true (at_ + h1) (nd + 1) with
                  | none => rw [hi] at e; simp at e
                  | some r =>
                    have hin := inner_ok hh (id := id) (unk := unk) q1 q2
                    rw [hi] at e
                    cases r with
                    | bad c a => simp at e
                    | fine k2 a2 n2 p2 =>
                      dsimp only at e
                      have iv := lev2_inv hb hin (by omega) hi
                      dsimp only at iv
                      refine add iv.2.1 ?_ e
                      exact .mk idb (by intro x hx; simp at hx) (by simp) (by rw [reachV]; omega) (ih hin (by omega) hi)
    · simp only [Option.some.injEq, Res.fine.injEq] at e; rw [← e.1]; simp
def top (b : List Int) : Ho := ⟨0, b.length, false, false, 1⟩
theorem top_ok (b : List Int) : (top b).Ok b := ⟨Nat.le_refl _, fun _ => rfl, by show 1 ≤ 9; decide⟩
/-- What any bytes are read as. -/
noncomputable def parseR (b : List Int) : Res := if 1048576 < b.length then .bad 2 0 else (lev2 b (b.length + 1) (top b) true 0 0).getD (.bad 2 0)
theorem parse_bad {b : List Int} (hb : okBy b) {c : Int} {a : Nat} (h : parseR b = .bad c a) : c ≠ 0 := by
  unfold parseR at h
  split at h
  · simp at h; omega
  · obtain ⟨r, hr⟩ := lev2_some hb (b.length + 1) true 0 (top_ok b) (Nat.zero_le _) (by omega)
    rw [hr] at h
    simp only [Option.getD_some] at h
    subst h
    exact (lev2_inv hb (top_ok b) (Nat.zero_le _) hr).1
theorem parse_fine {b : List Int} (hb : okBy b) {kids : List D2} {a nd : Nat} {ps : List D1} (h : parseR b = .fine kids a nd ps) : OkL kids ∧ ps.length ≤ 1048576 := by
  unfold parseR at h
  split at h
  · simp at h
  · rename_i hl
    obtain ⟨r, hr⟩ := lev2_some hb (b.length + 1) true 0 (top_ok b) (Nat.zero_le _) (by omega)
    rw [hr] at h
    simp only [Option.getD_some] at h
    subst h
    have iv := lev2_inv hb (top_ok b) (Nat.zero_le _) hr
    dsimp only at iv
    exact ⟨⟨by rw [reachV]; omega, lev2_ok hb (by omega) _ (top_ok b) (Nat.zero_le _) hr⟩, by omega⟩
theorem f88_eq {R : Type} (k : Nat) (hid en : Int) (fm op : Bool) (dp : Int) (b : List Int) (at_ nd bd ba : Int) (K : List Int → Int → Int → Int → Int → List D2 → List D1 → Option R) :
    f88 k hid en fm op dp b at_ nd bd ba K = lvP (f101_3 (R := R)) k true b at_ nd bd ba [] hid en fm op dp [] (fun ks b at_ nd bd ba pl => K b at_ nd bd ba ks pl) := by kernel_rfl
theorem f55_v (b : List Int) (hb : okBy b) (R : Type) : Ev fun k => ∀ (K : List Int → Int → Int → Int → Int → List D1 → List D2 → Option R), match parseR b with
    | .bad c a => ∃ (a' nd' : Int) (pl : List D1) (ks : List D2), f55 k b K = K b a' nd' c (a : Int) pl ks
    | .fine kids a nd ps => f55 k b K = K b (a : Int) (nd : Int) 0 0 ps kids := by
  unfold parseR
  by_cases h : 1048576 < b.length
  · rw [if_pos h]
    refine .all fun k K => ⟨0, 0, [], [], ?_⟩
    simp only [f55, deT (show (b.length : Int) > 1048576 by omega), cond_true, f87, f56, beq_self_eq_true]; rfl
  · rw [if_neg h]
    obtain ⟨r, hr⟩ := lev2_some hb (b.length + 1) true 0 (top_ok b) (Nat.zero_le _) (by omega)
    have h1 := lev_rel hb (b.length + 1) true 0 [] [] (top_ok b) (Nat.zero_le _)
    rw [hr] at h1 ⊢
    obtain ⟨k0, h0⟩ := prog_lev b hb (by omega) R (b.length + 1) (top_ok b) (Nat.zero_le _) (by omega) (Nat.zero_le _) (Nat.zero_le _) h1
    refine ⟨2 * k0, fun k hk K => ?_⟩
    have h2 := h0 k0 (Nat.le_refl _) f101_3 (fun j hj => ⟨j, hj, rfl⟩) k (by omega) 0 (fun ks b at_ nd bd ba pl => K b at_ nd bd ba pl ks)
    simp only [Option.getD_some]
    simp only [f55, deF (show ¬ (b.length : Int) > 1048576 by omega), cond_false, f88_eq]
    cases r with
    | bad c a =>
      obtain ⟨ks, a', nd', pl', _, l2⟩ := h2
      exact ⟨a', nd', pl', ks, l2⟩
    | fine kids a nd ps => exact h2
theorem f21_v (b : List Int) (hb : okBy b) (R : Type) : Ev fun k => ∀ (K : Int → Int → List D1 → Option R), f21 k b K = match parseR b with
    | .bad c a => K (a : Int) c []
    | .fine _ _ _ ps => K 0 0 ps := by
  refine (f55_v b hb R).imp fun k h K => ?_
  simp only [f21]
  have h := h fun v1 v2 v3 v4 v5 v6 _v7 => f56_2 k v1 v2 v3 v4 v5 v6 fun v8 _v9 _v10 _v11 v12 v13 v14 => bif !v8 then K v13 v12 [] else K 0 0 v14
  cases hp : parseR b with
  | bad c a =>
    rw [hp] at h
    obtain ⟨a', nd', pl, ks, h⟩ := h
    rw [h]
    simp only [f56_2, beF (parse_bad hb hp), Bool.not_false, cond_true]
  | fine kids a nd ps =>
    rw [hp] at h
    dsimp only at h
    rw [h]
    simp only [f56_2, beq_self_eq_true, Bool.not_true, cond_false]
instance (v : Int) (n : Nat) : Decidable (Marked v n) := inferInstanceAs (Decidable (_ ∧ _))
/-- Ends that have been come to are taken away (the innermost first). -/
def popR : List Int → Int → Int → Option (List Int)
  | [], _, _ => some []
  | e :: r, at_, d => if d ≤ ((e :: r).length : Int) then (if e = at_ then popR r at_ d else none) else some (e :: r)
noncomputable def covP : List D1 → List Int → Int → Option (List Int × Int)
  | [], r, at_ => some (r, at_)
  | q :: ps, r, at_ => match popR r at_ q.2.2.2.2.1 with
    | none => none
    | some r =>
      if q.2.1 = at_ ∧ (r.length : Int) = IntKind.i64.wrap (q.2.2.2.2.1 - 1) ∧ (r = [] ∨ IntKind.i64.wrap (IntKind.i64.wrap (q.2.1 + q.2.2.1) + q.2.2.2.1) ≤ r.headD 0) ∧ (q.2.2.2.2.2 = true → (rowOf q.1).2.2.2.2 = true) then
        if (rowOf q.1).2.2.2.1 = true then covP ps (IntKind.i64.wrap (IntKind.i64.wrap (q.2.1 + q.2.2.1) + q.2.2.2.1) :: r) (IntKind.i64.wrap (q.2.1 + q.2.2.1))
        else covP ps r (IntKind.i64.wrap (IntKind.i64.wrap (q.2.1 + q.2.2.1) + q.2.2.2.1))
      else none
theorem popR_all {r x : List Int} {at_ : Int} {d : Nat} (hx : ∀ e ∈ x, e = at_) (hr : r.length + 1 = d) : popR (x ++ r) at_ (d : Int) = some r := by
  induction x with
  | nil =>
    rw [List.nil_append]
    cases r with
    | nil => rw [popR]
    | cons e r => rw [popR, if_neg (by rw [← hr]; omega)]
  | cons y x ih =>
    rw [List.cons_append, popR, if_pos (by simp only [List.length_cons, List.length_append]; omega), if_pos (hx y (by simp))]
    exact ih fun e he => hx e (by simp [he])
theorem covP_app (ps qs : List D1) : ∀ (r : List Int) (at_ : Int), covP (ps ++ qs) r at_ = match covP ps r at_ with
    | none => none
    | some (r, at_) => covP qs r at_ := by
  induction ps with
  | nil => intro r at_; rfl
  | cons q ps ih =>
    intro r at_
    rw [List.cons_append, covP, covP]
    cases popR r at_ q.2.2.2.2.1 with
    | none => rfl
    | some r =>
      dsimp only
      split
      · split
        · exact ih _ _
        · exact ih _ _
      · rfl
theorem free_leaf {id : Int} (h : free id = true) : (rowOf id).2.2.2.1 = false := by
  cases hk : known id with
  | false => rw [row_none hk]; rfl
  | true =>
    rw [free_known hk] at h
    simp only [Bool.or_eq_true, beq_iff_eq] at h
    rcases h with rfl | rfl
    · kernel_rfl
    · rw [known_sum.2]
theorem cov_lev {b : List Int} (hb : okBy b) (hl : b.length ≤ 1048576) : ∀ (n : Nat) {h : Ho} {first : Bool} {at_ nd a nd' : Nat} {kids : List D2} {ps : List D1}, h.Ok b → 1 ≤ h.dp → at_ ≤ b.length → lev2 b n h first at_ nd = some (.fine kids a nd' ps) →
    ∀ (r x : List Int), r.length + 1 = h.dp → (∀ e ∈ x, e = (at_ : Int)) → (r = [] ∨ (a : Int) ≤ r.headD 0) → ∃ x', (∀ e ∈ x', e = (a : Int)) ∧ covP ps (x ++ r) (at_ : Int) = some (x' ++ r, (a : Int)) := by
  intro n
  induction n with
  | zero => intro h first at_ nd a nd' kids ps _ _ _ e; simp [lev2] at e
  | succ n ih =>
    intro h first at_ nd a nd' kids ps hh hd1 hat e r x hr hx htop
    have stop : some (Res.fine [] at_ nd []) = some (Res.fine kids a nd' ps) → ∃ x', (∀ e ∈ x', e = (a : Int)) ∧ covP ps (x ++ r) (at_ : Int) = some (x' ++ r, (a : Int)) := by
      intro e
      simp only [Option.some.injEq, Res.fine.injEq] at e
      obtain ⟨_, rfl, _, rfl⟩ := e
      exact ⟨x, hx, rfl⟩
    rw [lev2] at e
    split at e
    · split at e
      · simp at e
      · rename_i id h1 sz unk hd
        obtain ⟨p1, p2, p3, p4, p5, p6⟩ := head_ok hb hd
        split at e
        · exact stop e
        · split at e
          · simp at e
          · rename_i hc
            have hc : chkE b h first at_ h1 sz unk id = 0 := by simpa using hc
            obtain ⟨q1, q2, q3, q4⟩ := chk_ok hh hc
            have hh1 := hh.1
            -- one place
            have one : ∀ (s : Nat), at_ + h1 + s ≤ b.length → (r = [] ∨ ((at_ + h1 + s : Nat) : Int) ≤ r.headD 0) → ∀ rest, covP (plc id at_ h1 s h.dp unk :: rest) (x ++ r) (at_ : Int) =
                if (rowOf id).2.2.2.1 = true then covP rest (((at_ + h1 + s : Nat) : Int) :: r) ((at_ + h1 : Nat) : Int) else covP rest r ((at_ + h1 + s : Nat) : Int) := by
              intro s hs ht rest
              have w1 : IntKind.i64.wrap ((at_ : Int) + (h1 : Int)) = ((at_ + h1 : Nat) : Int) := wrapAdd (by omega)
              have w2 : IntKind.i64.wrap (((at_ + h1 : Nat) : Int) + (s : Int)) = ((at_ + h1 + s : Nat) : Int) := wrapAdd (by omega)
              have w3 : IntKind.i64.wrap ((h.dp : Int) - 1) = ((h.dp - 1 : Nat) : Int) := by rw [wr (by omega)]; omega
              have hp : popR (x ++ r) (at_ : Int) (plc id at_ h1 s h.dp unk).2.2.2.2.1 = some r := popR_all hx hr
              rw [covP, hp]
              have e0 : plc id at_ h1 s h.dp unk = (id, (at_ : Int), (h1 : Int), (s : Int), (h.dp : Int), unk) := rfl
              dsimp only
              rw [e0]
              dsimp only
              rw [w1, w2, w3, if_pos ⟨rfl, by omega, ht, q3⟩]
            -- what follows
            have foll : ∀ {at2 nd2 : Nat} {ks : List D2} {q : List D1}, at2 ≤ b.length → (lev2 b n h false at2 nd2).map (Res.add ks q) = some (.fine kids a nd' ps) → ∃ k2 p2, lev2 b n h false at2 nd2 = some (.fine k2 a nd' p2) ∧ ps = q ++ p2 ∧ at2 ≤ a := by
              intro at2 nd2 ks q h2 e
              cases hr2 : lev2 b n h false at2 nd2 with
              | none => rw [hr2] at e; simp at e
              | some res =>
                rw [hr2] at e
                cases res with
                | bad c a => simp [Res.add] at e
                | fine k2 a2 n2 p2 =>
                  simp only [Option.map_some, Res.add, Option.some.injEq, Res.fine.injEq] at e
                  obtain ⟨_, rfl, rfl, rfl⟩ := e
                  have iv := lev2_inv hb hh h2 hr2
                  exact ⟨k2, p2, rfl, rfl, iv.1⟩
            have leaf : ∀ {nd2 : Nat} {ks : List D2}, (rowOf id).2.2.2.1 = false → (lev2 b n h false (at_ + h1 + sz) nd2).map (Res.add ks [plc id at_ h1 sz h.dp unk]) = some (.fine kids a nd' ps) → ∃ x', (∀ e ∈ x', e = (a : Int)) ∧ covP ps (x ++ r) (at_ : Int) = some (x' ++ r, (a : Int)) := by
              intro nd2 ks hg e
              obtain ⟨k2, p2, hr2, rfl, ha⟩ := foll (by omega) e
              rw [List.singleton_append, one sz (by omega) (by rcases htop with ht | ht; exact .inl ht; exact .inr (by omega)), if_neg (by rw [hg]; simp)]
              exact ih hh hd1 (by omega) hr2 r [] hr (by simp) htop
            split at e
            · rename_i hf
              exact leaf (free_leaf hf) e
            · split at e
              · simp at e
              · split at e
                · rename_i hg
                  exact leaf hg e
                · rename_i hg
                  have hg : (rowOf id).2.2.2.1 = true := by simpa using hg
                  have hin := inner_ok hh (id := id) (unk := unk) q1 q2
                  have hdp : (h.inner id (at_ + h1 + sz) unk).dp = h.dp + 1 := by unfold Ho.inner; split <;> rfl
                  cases hi : lev2 b n (h.inner id (at_ + h1 + sz) unk) true (at_ + h1) (nd + 1) with
                  | none => rw [hi] at e; simp at e
                  | some res =>
                    rw [hi] at e
                    cases res with
                    | bad c a => simp at e
                    | fine k1 a1 n1 p1' =>
                      dsimp only at e
                      have iv := lev2_inv hb hin (by omega) hi
                      obtain ⟨iv1, iv2, _⟩ := iv
                      obtain ⟨k2, p2', hr2, rfl, ha⟩ := foll iv2 e
                      have ea : at_ + h1 + (a1 - (at_ + h1)) = a1 := by omega
                      rw [List.cons_append, one (a1 - (at_ + h1)) (by omega) (by rw [ea]; rcases htop with ht | ht; exact .inl ht; exact .inr (by omega)), if_pos hg, ea, covP_app]
                      obtain ⟨x1, hx1, c1⟩ := ih hin (by omega) (by omega) hi ((a1 : Int) :: r) [] (by rw [hdp, List.length_cons]; omega) (by simp) (.inr (by simp))
                      rw [List.nil_append] at c1
                      rw [c1]
                      dsimp only
                      have := ih hh hd1 iv2 hr2 r (x1 ++ [(a1 : Int)]) hr (by intro e he; rcases List.mem_append.1 he with he | he; exact hx1 e he; simpa using he) htop
                      simpa using this
    · exact stop e
theorem lev2_end {b : List Int} : ∀ (n : Nat) {h : Ho} {first : Bool} {at_ nd a nd' : Nat} {kids : List D2} {ps : List D1}, h.op = false → lev2 b n h first at_ nd = some (.fine kids a nd' ps) → h.en ≤ a := by
  intro n
  induction n with
  | zero => intro h first at_ nd a nd' kids ps _ e; simp [lev2] at e
  | succ n ih =>
    intro h first at_ nd a nd' kids ps ho e
    have mp : ∀ {at2 nd2 : Nat} {ks : List D2} {q : List D1}, (lev2 b n h false at2 nd2).map (Res.add ks q) = some (.fine kids a nd' ps) → h.en ≤ a := by
      intro at2 nd2 ks q e
      cases hr2 : lev2 b n h false at2 nd2 with
      | none => rw [hr2] at e; simp at e
      | some res =>
        rw [hr2] at e
        cases res with
        | bad c a => simp [Res.add] at e
        | fine k2 a2 n2 p2 =>
          simp only [Option.map_some, Res.add, Option.some.injEq, Res.fine.injEq] at e
          obtain ⟨_, rfl, _, _⟩ := e
          exact ih ho hr2
    rw [lev2] at e
    split at e
    · split at e
      · simp at e
      · split at e
        · rename_i st; rw [ho] at st; simp at st
        · split at e
          · simp at e
          · split at e
            · exact mp e
            · split at e
              · simp at e
              · split at e
                · exact mp e
                · rename_i id h1 sz unk _ _ _ _ _ _
                  cases hi : lev2 b n (h.inner id (at_ + h1 + sz) unk) true (at_ + h1) (nd + 1) with
                  | none => rw [hi] at e; simp at e
                  | some res =>
                    rw [hi] at e
                    cases res with
                    | bad c a => simp at e
                    | fine k1 a1 n1 p1' => exact mp e
    · simp only [Option.some.injEq, Res.fine.injEq] at e
      obtain ⟨_, rfl, _, _⟩ := e
      omega
theorem rev_get (e : Int) (r : List Int) : (e :: r).reverse.getD r.length 0 = e := by
  simp [List.getD]
theorem rev_take (e : Int) (r : List Int) : (e :: r).reverse.take r.length = r.reverse := by
  rw [List.reverse_cons, List.take_left' (by simp)]
theorem pop_loop (R : Type) (b : List Int) (p : List D1) (i : Nat) (hi : i < p.length) (at_ : Int) : ∀ (r : List Int), r.length ≤ 1048577 → Ev fun k => ∀ (r' : List Int) (x : Int) (y : ByteArray) (z : Int) (u v : Bool) (X0 : List Int → Int → Int → List D1 → List Int → Int → ByteArray → Int → Bool → Bool → Option R) (X1 : Bool → Option R),
    popR r at_ p[i].2.2.2.2.1 = some r' → f5_l10 k b at_ (i : Int) p r.reverse x y z u v X0 X1 = X0 b at_ (i : Int) p r'.reverse x y z u v
  | [], _ => .suc (.all fun k r' x y z u v X0 X1 h => by
    rw [popR] at h
    obtain rfl := Option.some.inj h
    rw [f5_l10, inb_nat]
    simp only [hi, decide_true, cond_true, Int.toNat_natCast, getD_get hi, List.reverse_nil, List.length_nil]
    cases decide (((0 : Nat) : Int) ≥ p[i].2.2.2.2.1) <;> rfl)
  | e :: r, hr => by
    rw [List.length_cons] at hr
    refine .suc ((pop_loop R b p i hi at_ r (by omega)).imp fun k hk r' x y z u v X0 X1 h => ?_)
    rw [popR] at h
    rw [f5_l10, inb_nat]
    have ln : (e :: r).reverse.length = r.length + 1 := by simp
    have w : IntKind.i64.wrap (((e :: r).reverse.length : Int) - 1) = (r.length : Int) := by rw [ln, wr (by omega)]; omega
    simp only [hi, decide_true, cond_true, Int.toNat_natCast, getD_get hi, w, rev_get, rev_take]
    by_cases c : p[i].2.2.2.2.1 ≤ ((e :: r).length : Int)
    · rw [if_pos c] at h
      by_cases d : e = at_
      · rw [if_pos d] at h
        rw [ln]
        simp only [List.length_cons] at c
        rw [ifT c, ifT (by omega), inT (by omega), cond_true, bnF d, cond_false, upT (by omega), cond_true]
        exact hk r' x y z u v X0 X1 h
      · rw [if_neg d] at h; simp at h
    · rw [if_neg c] at h
      obtain rfl := Option.some.inj h
      rw [ln]
      simp only [List.length_cons] at c
      rw [ifF c]
theorem cov_loop (R : Type) (b : List Int) (p : List D1) (hp : p.length ≤ 1048576) : ∀ i, i ≤ p.length → ∀ (r : List Int) (at_ : Int) (r' : List Int) (a' : Int), r.length ≤ i → covP (p.drop i) r at_ = some (r', a') → r'.length ≤ p.length ∧ Ev fun k => ∀ (X0 : List Int → Int → List Int → Option R) (X1 : Bool → Option R),
    f5_l7 k b at_ (i : Int) p r.reverse X0 X1 = X0 b a' r'.reverse := by
  intro i hi
  obtain ⟨m, hm⟩ : ∃ m, p.length = i + m := ⟨p.length - i, by omega⟩
  clear hi
  induction m generalizing i with
  | zero =>
    intro r at_ r' a' hr h
    rw [List.drop_eq_nil_of_le (by omega), covP] at h
    simp only [Option.some.injEq, Prod.mk.injEq] at h
    obtain ⟨rfl, rfl⟩ := h
    refine ⟨by omega, .suc (.all fun k X0 X1 => ?_)⟩
    rw [f5_l7, ifF (by omega)]
  | succ m ih =>
    intro r at_ r' a' hr h
    have hi : i < p.length := by omega
    rw [List.drop_eq_getElem_cons hi, covP] at h
    have hpop := pop_loop R b p i hi at_ r (by omega)
    cases hp2 : popR r at_ p[i].2.2.2.2.1 with
    | none => rw [hp2] at h; simp at h
    | some r2 =>
      rw [hp2] at h
      dsimp only at h
      have hr2 : r2.length ≤ r.length := by
        have : ∀ (r r2 : List Int) (d : Int), popR r at_ d = some r2 → r2.length ≤ r.length := by
          intro r
          induction r with
          | nil => intro r2 d h; rw [popR] at h; obtain rfl := Option.some.inj h; simp
          | cons e r ih =>
            intro r2 d h
            rw [popR] at h
            split at h
            · split at h
              · have := ih r2 d h; simp; omega
              · simp at h
            · obtain rfl := Option.some.inj h; simp
        exact this r r2 _ hp2
      split at h
      · rename_i cnd
        obtain ⟨c1, c2, c3, c4⟩ := cnd
        have ln : r2.reverse.length = r2.length := by simp
        -- the round, up to what is pushed
        have push : ∀ en : Int, r2.reverse ++ [en] = (en :: r2).reverse := fun en => by simp
        by_cases hg : (rowOf p[i].1).2.2.2.1 = true
        · rw [if_pos hg] at h
          obtain ⟨g1, g2⟩ := ih (i + 1) (by omega) _ _ r' a' (by simp; omega) h
          refine ⟨g1, .suc (g2.imp3 hpop (f25_v p[i].1 R) fun k hk hpk h25 X0 X1 => ?_)⟩
          rw [f5_l7, lt_nat, inb_nat]
          simp only [hi, decide_true, cond_true, Int.toNat_natCast, getD_get hi, h25]
          rw [hpk r2 _ _ _ _ _ _ _ hp2]
          simp only [hi, inb_nat, decide_true, cond_true, Int.toNat_natCast, getD_get hi, hg]
          rw [wrapSuc (by omega), bnF c1, cond_false, bnF (by rw [ln]; exact c2), cond_false, roT (by rw [ln]; simp only [List.length_cons, List.length_nil]; omega), push]
          have fin : ∀ o : Bool, p[i].2.2.2.2.2 = o → (bif o then bif !(rowOf p[i].1).2.2.2.2 then X1 false else bif true then f5_l7 k b (IntKind.i64.wrap (p[i].2.1 + p[i].2.2.1)) ((i + 1 : Nat) : Int) p (IntKind.i64.wrap (IntKind.i64.wrap (p[i].2.1 + p[i].2.2.1) + p[i].2.2.2.1) :: r2).reverse X0 X1 else none else bif true then f5_l7 k b (IntKind.i64.wrap (p[i].2.1 + p[i].2.2.1)) ((i + 1 : Nat) : Int) p (IntKind.i64.wrap (IntKind.i64.wrap (p[i].2.1 + p[i].2.2.1) + p[i].2.2.2.1) :: r2).reverse X0 X1 else none) = X0 b a' r'.reverse := by
            intro o ho
            cases o with
            | false => simp only [cond_false, cond_true]; exact hk X0 X1
            | true => rw [c4 ho]; simp only [cond_true, cond_false, Bool.not_true]; exact hk X0 X1
          cases r2 with
          | nil =>
            have d0 : decide ((([] : List Int).reverse.length : Int) > 0) = false := by simp
            rw [d0, cond_false]
            exact fin _ rfl
          | cons e r2 =>
            have c3 := c3.resolve_left (by simp)
            rw [List.headD_cons] at c3
            have ln2 : (e :: r2).reverse.length = r2.length + 1 := by simp
            have w : IntKind.i64.wrap (((e :: r2).reverse.length : Int) - 1) = (r2.length : Int) := by rw [ln2, wr (by simp at hr2; omega)]; omega
            rw [w, Int.toNat_natCast, rev_get, ln2, ifT (by omega), inT (by omega), cond_true, ifF (by omega)]
            exact fin _ rfl
        · have hgf : (rowOf p[i].1).2.2.2.1 = false := by simpa using hg
          rw [if_neg hg] at h
          obtain ⟨g1, g2⟩ := ih (i + 1) (by omega) _ _ r' a' (by omega) h
          refine ⟨g1, .suc (g2.imp3 hpop (f25_v p[i].1 R) fun k hk hpk h25 X0 X1 => ?_)⟩
          rw [f5_l7, lt_nat, inb_nat]
          simp only [hi, decide_true, cond_true, Int.toNat_natCast, getD_get hi, h25]
          rw [hpk r2 _ _ _ _ _ _ _ hp2]
          simp only [hi, inb_nat, decide_true, cond_true, Int.toNat_natCast, getD_get hi, hgf]
          rw [wrapSuc (by omega), bnF c1, cond_false, bnF (by rw [ln]; exact c2), cond_false]
          have fin : ∀ o : Bool, p[i].2.2.2.2.2 = o → (bif o then bif !(rowOf p[i].1).2.2.2.2 then X1 false else f5_l7 k b (IntKind.i64.wrap (IntKind.i64.wrap (p[i].2.1 + p[i].2.2.1) + p[i].2.2.2.1)) ((i + 1 : Nat) : Int) p r2.reverse X0 X1 else f5_l7 k b (IntKind.i64.wrap (IntKind.i64.wrap (p[i].2.1 + p[i].2.2.1) + p[i].2.2.2.1)) ((i + 1 : Nat) : Int) p r2.reverse X0 X1) = X0 b a' r'.reverse := by
            intro o ho
            cases o with
            | false => simp only [cond_false]; exact hk X0 X1
            | true => rw [c4 ho]; simp only [cond_true, cond_false, Bool.not_true]; exact hk X0 X1
          cases r2 with
          | nil =>
            have d0 : decide ((([] : List Int).reverse.length : Int) > 0) = false := by simp
            rw [d0, cond_false]
            simp only [cond_false]
            exact fin _ rfl
          | cons e r2 =>
            have c3 := c3.resolve_left (by simp)
            rw [List.headD_cons] at c3
            have ln2 : (e :: r2).reverse.length = r2.length + 1 := by simp
            have w : IntKind.i64.wrap (((e :: r2).reverse.length : Int) - 1) = (r2.length : Int) := by rw [ln2, wr (by simp at hr2; omega)]; omega
            rw [w, Int.toNat_natCast, rev_get, ln2, ifT (by omega), inT (by omega), cond_true, ifF (by omega)]
            simp only [cond_false]
            exact fin _ rfl
      · simp at h
theorem end_loop (R : Type) (b : List Int) (at_ : Int) (x : List Int) (hx : ∀ e ∈ x, e = at_) (hl : x.length ≤ 1048576) : ∀ n, n ≤ x.length → Ev fun k => ∀ (X0 : List Int → Int → Option R) (X1 : Bool → Option R), f5_l22 k b at_ ((n : Int) - 1) x X0 X1 = X0 b at_
  | 0, _ => .suc (.all fun k X0 X1 => by rw [f5_l22, ifF (by omega)])
  | n + 1, h => by
    refine .suc ((end_loop R b at_ x hx hl n (by omega)).imp fun k hk X0 X1 => ?_)
    have hn : n < x.length := by omega
    have e : ((n + 1 : Nat) : Int) - 1 = (n : Int) := by omega
    rw [e, f5_l22, ifT (by omega), inb_nat]
    simp only [hn, decide_true, cond_true, Int.toNat_natCast, getD_get hn]
    rw [bnF (hx _ (List.getElem_mem hn)), cond_false, wr (by omega), hk]
theorem elementCovers_plain (b : List Int) (hb : okBy b) : ∃ k, f5 (R := Bool) k b some = some true := by
  refine Ev.some ?_
  have h21 := f21_v b hb Bool
  cases hp : parseR b with
  | bad c a =>
    have hc := parse_bad hb hp
    rw [hp] at h21
    refine h21.imp2 awake_v fun k h1 h2 => ?_
    dsimp only at h1
    simp only [f5, h1, bnT hc, cond_true, h2]
  | fine kids a nd ps =>
    have hpl := (parse_fine hb hp).2
    rw [hp] at h21
    have hbl : ¬ 1048576 < b.length := by
      intro h; unfold parseR at hp; rw [if_pos h] at hp; simp at hp
    have hlev : lev2 b (b.length + 1) (top b) true 0 0 = some (.fine kids a nd ps) := by
      obtain ⟨r, hr⟩ := lev2_some hb (b.length + 1) true 0 (top_ok b) (Nat.zero_le _) (by omega)
      unfold parseR at hp
      rw [if_neg hbl, hr] at hp
      simp only [Option.getD_some] at hp
      rw [hr, hp]
    have e1 := lev2_end _ (show (top b).op = false from rfl) hlev
    have e1 : b.length ≤ a := e1
    have iv := lev2_inv hb (top_ok b) (Nat.zero_le _) hlev
    obtain ⟨_, iv2, _⟩ := iv
    have ea : a = b.length := by omega
    obtain ⟨x', hx', hc⟩ := cov_lev hb (by omega) _ (top_ok b) (Nat.le_refl _) (Nat.zero_le _) hlev [] [] rfl (by simp) (.inl rfl)
    rw [List.append_nil, List.append_nil] at hc
    obtain ⟨l1, l2⟩ := cov_loop Bool b ps hpl 0 (by omega) [] 0 x' (a : Int) (by simp) (by rw [List.drop_zero]; exact hc)
    have l3 := end_loop Bool b (a : Int) x'.reverse (by intro e he; exact hx' e (List.mem_reverse.1 he)) (by simp; omega) x'.reverse.length (Nat.le_refl _)
    refine (h21.and l2).imp3 l3 awake_v fun k h1 h2 h3 => ?_
    obtain ⟨h1, hl⟩ := h1
    dsimp only at h1
    rw [List.reverse_nil, Int.natCast_zero] at hl
    rw [f5, h1, bnF rfl, cond_false, hl]
    have w : IntKind.i64.wrap ((x'.reverse.length : Int) - 1) = (x'.reverse.length : Int) - 1 := wr (by simp; omega)
    rw [w, h2, beT (by rw [ea]), cond_true, h3]
theorem ownKn : ownKnob Try.prog.godebug = none := by kernel_rfl
theorem laidOut : laidOutB Try.prog = true := by kernel_rfl
noncomputable def naming : Naming cx where
  flds := flds
  toT := toT
  ofT := ofT
  plain := fun r => match r with
    | 0 => rfl
    | 1 => rfl
    | 2 => rfl
    | 3 => rfl
    | 4 => rfl
    | 5 => rfl
    | 6 => rfl
    | 7 => rfl
    | 8 => rfl
    | 9 => rfl
    | 10 => rfl
    | 11 => rfl
    | _n + 12 => rfl
  to_of := fun r x => match r, x with
    | 0, _ => rfl
    | 1, _ => rfl
    | 2, _ => rfl
    | 3, _ => rfl
    | 4, _ => rfl
    | 5, _ => rfl
    | 6, _ => rfl
    | 7, _ => rfl
    | 8, _ => rfl
    | 9, _ => rfl
    | 10, _ => rfl
    | 11, _ => rfl
    | _n + 12, _ => rfl
  deep := fun r v => match r, v with
    | 0, _ => rfl
    | 1, _ => rfl
    | 2, v => deep2_eq v
    | 3, _ => rfl
    | 4, _ => rfl
    | 5, _ => rfl
    | 6, _ => rfl
    | 7, _ => rfl
    | 8, _ => rfl
    | 9, _ => rfl
    | 10, _ => rfl
    | 11, _ => rfl
    | _n + 12, _ => rfl
theorem fit : Fit naming Try.prog := fit_of (tab := tab) rfl (by kernel_rfl)
theorem wf_bytes {z : Nat} {l : List Int} (h : WfIV (.list z (l.map fun y => [.int .u8 y]))) : l.length ≤ reachBytes ∧ ∀ n ∈ l, 0 ≤ n ∧ n < 256 := by
  cases h with
  | list h1 h2 _ =>
    refine ⟨by simpa using h1, fun n hn => ?_⟩
    have := h2 _ (List.mem_map.2 ⟨n, hn, rfl⟩) _ (List.mem_singleton.2 rfl)
    cases this with
    | int h3 => simp [Lit.wf, IntKind.min, IntKind.max, IntKind.signed, IntKind.bits] at h3; omega
end Go.Proofs.Ytklhjegfkpmdoaa
