/- Proved: a changed byte behind the Sum of an outermost group is an error. Conditions: the arguments are of bounded bulk. -/
import Derived.Test.YtklhjegfkpmdoaaElWalk2
import Derived.Test.YtklhjegfkpmdoaaRows
import Derived.JoinedOf

namespace Go.Proofs.Ytklhjegfkpmdoaa
open Go Go.Am
theorem awake_v : Ev fun k => ∀ (R : Type) (K : Bool → Option R), f18 k K = K true := by
  refine .plus 100 (.all fun k R K => ?_)
  kernel_rfl
theorem wrapU8 (x : Int) : IntKind.u8.wrap x = x % 256 := by
  simp [IntKind.wrap, IntKind.signed, IntKind.bits]
theorem wrapU64 {x : Int} (h : 0 ≤ x) (h' : x < 18446744073709551616) : IntKind.u64.wrap x = x := by
  simp [IntKind.wrap, IntKind.signed, IntKind.bits]; omega
theorem shr8 (w : Int) : shrI .u64 w 8 = w / 256 := by
  have : (min (8 : Int).toNat IntKind.u64.bits) = 8 := rfl
  unfold shrI
  rw [this, Int.fdiv_eq_ediv_of_nonneg _ (by decide)]
  rfl
theorem or_add {a : Int} {m : Nat} (h : 0 ≤ a) (h' : a < 2 ^ m) (hm : m < 60) : orI .u64 a (2 ^ m) = a + 2 ^ m := by
  obtain ⟨n, rfl⟩ : ∃ n : Nat, a = n := ⟨a.toNat, by omega⟩
  have h2 : n < 2 ^ m := by exact_mod_cast h'
  have h3 : 2 ^ m < 2 ^ 60 := Nat.pow_lt_pow_right (by decide) hm
  have e1 : (BitVec.ofInt IntKind.u64.bits (n : Int)).toNat = n := by
    show (BitVec.ofInt 64 (n : Int)).toNat = n
    rw [BitVec.toNat_ofInt]
    have : ((n : Int) % ((2 ^ 64 : Nat) : Int)) = n := by
      rw [Int.emod_eq_of_lt (by omega)]
      have : 2 ^ 60 < 2 ^ 64 := by decide
      omega
    rw [this]; rfl
  have e2 : (BitVec.ofInt IntKind.u64.bits ((2 : Int) ^ m)).toNat = 2 ^ m := by
    show (BitVec.ofInt 64 ((2 : Int) ^ m)).toNat = 2 ^ m
    have e : ((2 : Int) ^ m) = ((2 ^ m : Nat) : Int) := by simp
    rw [e, BitVec.toNat_ofInt]
    have : (((2 ^ m : Nat) : Int) % ((2 ^ 64 : Nat) : Int)) = ((2 ^ m : Nat) : Int) := by
      rw [Int.emod_eq_of_lt (by omega)]
      have : 2 ^ 60 < 2 ^ 64 := by decide
      omega
    rw [this]; rfl
  unfold orI
  rw [BitVec.toNat_or, e1, e2, Nat.or_comm]
  have := Nat.two_pow_add_eq_or_of_lt h2 1
  rw [Nat.mul_one] at this
  rw [← this, wrapU64 (by omega) (by omega)]
  simp; omega
def c1 (w : Int) : List Int := [w % 256]
def c2 (w : Int) : List Int := [w / 256 % 256, w % 256]
def c3 (w : Int) : List Int := [w / 256 / 256 % 256, w / 256 % 256, w % 256]
theorem _root_.Go.Am.Ev.up {p : Nat → Prop} (h : Ev p) : Ev fun k => p (k + 1) := by
  obtain ⟨a, ha⟩ := h
  exact ⟨a, fun k hk => ha (k + 1) (by omega)⟩
def sumL (l : List (List Int)) : Nat := (l.map List.length).sum
theorem sumL_cons (f : List Int) (l : List (List Int)) : sumL (f :: l) = f.length + sumL l := by simp [sumL]
theorem f53_sum (v : List (List Int)) (l : List (List Int)) (hl : l.length ≤ 1000) : ∀ i, i ≤ l.length → Ev fun k => ∀ (R : Type) (a : Nat) (X : List (List Int) → Int → Option R), a + sumL (l.drop i) ≤ 140737488355328 →
    f53_l3 k v (a : Int) l (l.length : Int) (i : Int) X = X v ((a + sumL (l.drop i) : Nat) : Int) := by
  refine Ev.down l.length ?_ ?_
  · exact Ev.suc (.all fun k R a X _ => by simp [f53_l3, sumL])
  · intro i hi h
    refine Ev.suc (h.imp fun k hk R a X ha => ?_)
    rw [List.drop_eq_getElem_cons hi, sumL_cons] at ha ⊢
    have w : IntKind.i64.wrap ((a : Int) + (l[i].length : Int)) = ((a + l[i].length : Nat) : Int) := by rw [wrap64 (by omega) (by omega)]; omega
    have t : decide (((a + l[i].length : Nat) : Int) < 0) = false := by simp; omega
    rw [f53_l3, lt_nat, inb_nat, wrapSuc (by omega)]
    simp only [hi, decide_true, cond_true, Int.toNat_natCast, getD_get hi, w, t, cond_false]
    rw [hk R _ X (by omega)]
    congr 2; omega
theorem f53_cat (l : List (List Int)) (hl : l.length ≤ 1000) : ∀ i, i ≤ l.length → Ev fun k => ∀ (R : Type) (acc : List Int) (X : List Int → Option R), acc.length + sumL (l.drop i) ≤ 140737488355328 →
    f53_l11 k l (l.length : Int) (i : Int) acc X = X (acc ++ (l.drop i).flatten) := by
  refine Ev.down l.length ?_ ?_
  · exact Ev.suc (.all fun k R a X _ => by simp [f53_l11])
  · intro i hi h
    refine Ev.suc (h.imp fun k hk R acc X ha => ?_)
    rw [List.drop_eq_getElem_cons hi] at ha ⊢
    rw [sumL_cons] at ha
    rw [f53_l11, lt_nat, inb_nat, wrapSuc (by omega)]
    simp only [hi, decide_true, cond_true, Int.toNat_natCast, getD_get hi]
    rw [room_ok (by omega), cond_true, hk R _ X (by rw [List.length_append]; omega), List.flatten_cons, List.append_assoc]
theorem f84_v {n : Nat} (h : n ≤ 140737488355328) (k : Nat) (R : Type) (K : List Int → Option R) : f84 k (n : Int) K = K [] := by
  have e0 : IntKind.i64.wrap (0 - 0) = 0 := by decide
  have e1 : IntKind.i64.wrap ((n : Int) - 0) = n := by rw [Int.sub_zero]; exact wrapNat (by omega)
  have t0 : decide ((n : Int) < 0) = false := decide_eq_false (by omega)
  simp only [f84, e0, e1, t0, cond_false]
  cases n with
  | zero => simp
  | succ n =>
    have t1 : decide (((n + 1 : Nat) : Int) > 0) = true := decide_eq_true (by omega)
    have t2 : decide ((0 : Int) ≤ ((n + 1 : Nat) : Int)) = true := decide_eq_true (by omega)
    have t3 : decide (((n + 1 : Nat) : Int) * (1 : Nat) ≤ 140737488355328) = true := by simp; omega
    simp only [t1, t2, t3, cond_true, Bool.and_true, Int.toNat_natCast, List.length_replicate]
    rw [room_ok (by omega), upto_int (by omega) (by omega)]
    simp
theorem f53_v (l : List (List Int)) (hl : l.length ≤ 1000) (hs : sumL l ≤ 140737488355328) : Ev fun k => ∀ (R : Type) (K : List Int → Option R), f53 k l K = K l.flatten := by
  refine (f53_sum l l hl 0 (by omega)).imp2 (f53_cat l hl 0 (by omega)) fun k h1 h2 R K => ?_
  simp only [Int.natCast_zero, List.drop_zero] at h1 h2
  have h1 := h1 R 0 (fun v6 v7 => f84 k v7 fun v8 => f53_l11 k v6 (v6.length : Int) 0 v8 fun v13 => K v13) (by omega)
  simp only [Int.natCast_zero, Nat.zero_add] at h1
  simp only [f53]
  rw [h1, f84_v hs, h2 R [] _ (by simpa using hs), List.nil_append]
theorem reachV : reachBytes = 140737488351232 := rfl
def okBy (b : List Int) : Prop := ∀ n ∈ b, 0 ≤ n ∧ n < 256
theorem okBy.drop {b : List Int} (h : okBy b) (i : Nat) : okBy (b.drop i) := fun n hn => h n (List.mem_of_mem_drop hn)
theorem okBy.take {b : List Int} (h : okBy b) (i : Nat) : okBy (b.take i) := fun n hn => h n (List.mem_of_mem_take hn)
theorem okBy.get {b : List Int} (h : okBy b) {i : Nat} (hi : i < b.length) : 0 ≤ b[i] ∧ b[i] < 256 := h _ (List.getElem_mem hi)
def valF (l : List Int) (v : Int) : Int := l.foldl (fun v c => v * 256 + c) v
theorem valF_cons (c : Int) (l : List Int) (v : Int) : valF (c :: l) v = valF l (v * 256 + c) := rfl
theorem pow_pos256 (n : Nat) : (0 : Int) < 256 ^ n := Int.pow_pos (by decide)
theorem valF_bound : ∀ {l : List Int}, okBy l → ∀ (v : Int), v * 256 ^ l.length ≤ valF l v ∧ valF l v < (v + 1) * 256 ^ l.length
  | [], _, v => by simp [valF]; omega
  | c :: l, h, v => by
    have hc := h c (by simp)
    obtain ⟨h1, h2⟩ := valF_bound (l := l) (fun n hn => h n (by simp [hn])) (v * 256 + c)
    have hp := pow_pos256 l.length
    rw [valF_cons, List.length_cons, Int.pow_succ, Int.mul_comm (256 ^ l.length) 256, ← Int.mul_assoc, ← Int.mul_assoc]
    constructor
    · refine Int.le_trans ?_ h1
      exact Int.mul_le_mul_of_nonneg_right (by omega) (Int.le_of_lt hp)
    · refine Int.lt_of_lt_of_le h2 ?_
      exact Int.mul_le_mul_of_nonneg_right (by omega) (Int.le_of_lt hp)
theorem ofInt_nat {n : Nat} (h : n < 18446744073709551616) : (BitVec.ofInt 64 (n : Int)).toNat = n := by
  rw [BitVec.toNat_ofInt]
  have e : (2 ^ 64 : Nat) = 18446744073709551616 := by decide
  rw [e, Int.emod_eq_of_lt (by omega) (by omega)]
  omega
theorem or_byteU {a c : Int} (h : 0 ≤ a) (h' : a < 72057594037927936) (hc : 0 ≤ c) (hc' : c < 256) : orI .u64 (shlI .u64 a 8) (IntKind.u64.wrap c) = a * 256 + c := by
  obtain ⟨n, rfl⟩ : ∃ n : Nat, a = n := ⟨a.toNat, by omega⟩
  obtain ⟨m, rfl⟩ : ∃ n : Nat, c = n := ⟨c.toNat, by omega⟩
  have s : shlI .u64 (n : Int) 8 = ((256 * n : Nat) : Int) := by
    have : (min (8 : Int).toNat IntKind.u64.bits) = 8 := rfl
    unfold shlI
    rw [this]
    have e : (n : Int) * 2 ^ 8 = ((256 * n : Nat) : Int) := by
      have : (2 : Int) ^ 8 = 256 := by decide
      rw [this]; omega
    rw [e, wrapU64 (by omega) (by omega)]
  rw [s, wrapU64 (by omega) (by omega)]
  have e1 : (BitVec.ofInt IntKind.u64.bits ((256 * n : Nat) : Int)).toNat = 256 * n := ofInt_nat (by omega)
  have e2 : (BitVec.ofInt IntKind.u64.bits (m : Int)).toNat = m := ofInt_nat (by omega)
  unfold orI
  rw [BitVec.toNat_or, e1, e2]
  have e3 : 256 * n = 2 ^ 8 * n := rfl
  rw [e3, ← Nat.two_pow_add_eq_or_of_lt (i := 8) (by omega) n, wrapU64 (by omega) (by omega)]
  omega
theorem and_mask {v : Nat} {m : Nat} (h : v < 9223372036854775808) (hm : m ≤ 60) : andI .i64 (v : Int) ((2 ^ m - 1 : Nat) : Int) = ((v % 2 ^ m : Nat) : Int) := by
  have h3 : 2 ^ m ≤ 2 ^ 60 := Nat.pow_le_pow_right (by decide) hm
  have h4 : (2 : Nat) ^ 60 = 1152921504606846976 := by decide
  have e1 : (BitVec.ofInt IntKind.i64.bits (v : Int)).toNat = v := ofInt_nat (by omega)
  have e2 : (BitVec.ofInt IntKind.i64.bits ((2 ^ m - 1 : Nat) : Int)).toNat = 2 ^ m - 1 := ofInt_nat (by omega)
  unfold andI
  rw [BitVec.toNat_and, e1, e2, Nat.and_two_pow_sub_one_eq_mod]
  have := Nat.mod_le v (2 ^ m)
  exact wrapNat (by omega)
def idLen (c : Int) : Nat := if 128 ≤ c then 1 else if 64 ≤ c then 2 else if 32 ≤ c then 3 else if 16 ≤ c then 4 else 0
def idC (c : Nat) : Bool := decide ((shrI .u8 (c : Int) 7 == 1) = decide (128 ≤ c) ∧ (c < 128 → (shrI .u8 (c : Int) 6 == 1) = decide (64 ≤ c)) ∧ (c < 64 → (shrI .u8 (c : Int) 5 == 1) = decide (32 ≤ c)) ∧ (c < 32 → (shrI .u8 (c : Int) 4 == 1) = decide (16 ≤ c)))
theorem idC_all : (List.range 256).all idC = true := by kernel_rfl
theorem f63_v {c : Int} (h : 0 ≤ c) (h' : c < 256) : Ev fun k => ∀ (R : Type) (K : Int → Option R), f63 k c K = K (idLen c : Int) := by
  obtain ⟨n, rfl⟩ : ∃ n : Nat, c = n := ⟨c.toNat, by omega⟩
  have hn := of_decide_eq_true (List.all_eq_true.1 idC_all n (by simp; omega))
  obtain ⟨q1, q2, q3, q4⟩ := hn
  have w1 : IntKind.i64.wrap (8 - 1) = 7 := by decide
  have w2 : IntKind.i64.wrap (8 - 2) = 6 := by decide
  have w3 : IntKind.i64.wrap (8 - 3) = 5 := by decide
  have w4 : IntKind.i64.wrap (8 - 4) = 4 := by decide
  have s1 : IntKind.i64.wrap (1 + 1) = 2 := by decide
  have s2 : IntKind.i64.wrap (2 + 1) = 3 := by decide
  have s3 : IntKind.i64.wrap (3 + 1) = 4 := by decide
  have s4 : IntKind.i64.wrap (4 + 1) = 5 := by decide
  have l1 : decide ((1 : Int) ≤ 4) = true := by decide
  have l2 : decide ((2 : Int) ≤ 4) = true := by decide
  have l3 : decide ((3 : Int) ≤ 4) = true := by decide
  have l4 : decide ((4 : Int) ≤ 4) = true := by decide
  have l5 : decide ((5 : Int) ≤ 4) = false := by decide
  have n7 : decide ((7 : Int) < 0) = false := by decide
  have n6 : decide ((6 : Int) < 0) = false := by decide
  have n5 : decide ((5 : Int) < 0) = false := by decide
  have n4 : decide ((4 : Int) < 0) = false := by decide
  refine .suc (.suc (.suc (.suc (.suc (.all fun k R K => ?_)))))
  simp only [f63, f63_l2, w1, w2, w3, w4, s1, s2, s3, s4, l1, l2, l3, l4, l5, n7, n6, n5, n4, cond_true, cond_false, q1]
  by_cases h1 : 128 ≤ n
  · simp [h1, idLen]; rw [if_pos (by omega)]; rfl
  · rw [q2 (by omega)]
    by_cases h2 : 64 ≤ n
    · simp [h1, h2, idLen]; rw [if_neg (by omega), if_pos (by omega)]; rfl
    · rw [q3 (by omega)]
      by_cases h3 : 32 ≤ n
      · simp [h1, h2, h3, idLen]; rw [if_neg (by omega), if_neg (by omega), if_pos (by omega)]; rfl
      · rw [q4 (by omega)]
        by_cases h4 : 16 ≤ n
        · simp [h1, h2, h3, h4, idLen]; rw [if_neg (by omega), if_neg (by omega), if_neg (by omega), if_pos (by omega)]; rfl
        · simp [h1, h2, h3, h4, idLen]; rw [if_neg (by omega), if_neg (by omega), if_neg (by omega), if_neg (by omega)]; rfl
theorem f64_loop (l : List Int) (hl : okBy l) (h8 : l.length ≤ 8) : ∀ i, i ≤ l.length → Ev fun k => ∀ (R : Type) (v : Int) (X : Int → Option R), 0 ≤ v → v < 256 ^ i → f64_l7 k v l (l.length : Int) (i : Int) X = X (valF (l.drop i) v) := by
  refine Ev.down l.length ?_ ?_
  · exact Ev.suc (.all fun k R v X _ _ => by simp [f64_l7, valF])
  · intro i hi h
    refine Ev.suc (h.imp fun k hk R v X h0 h1 => ?_)
    have hc := hl.get hi
    have hp : (256 : Int) ^ i ≤ 72057594037927936 := by
      have h2 : (256 : Nat) ^ i ≤ 72057594037927936 := Nat.le_trans (Nat.pow_le_pow_right (by decide) (show i ≤ 7 by omega)) (by decide)
      have e : ((256 ^ i : Nat) : Int) = (256 : Int) ^ i := Int.natCast_pow 256 i
      omega
    have ho := or_byteU h0 (by omega) hc.1 hc.2
    rw [f64_l7, lt_nat, inb_nat, wrapSuc (by omega)]
    simp only [hi, decide_true, cond_true, Int.toNat_natCast, getD_get hi, ho]
    have hv : v * 256 + l[i] < 256 ^ (i + 1) := by
      rw [Int.pow_succ]; omega
    rw [hk R _ X (by omega) hv, List.drop_eq_getElem_cons hi, valF_cons]
/-- The number of so many bytes at a place. -/
def numB (b : List Int) (at_ n : Nat) : Int := valF ((b.drop at_).take n) 0
theorem numB_bound {b : List Int} (hb : okBy b) {at_ n : Nat} (h : at_ + n ≤ b.length) : 0 ≤ numB b at_ n ∧ numB b at_ n < 256 ^ n := by
  have := valF_bound ((hb.drop at_).take n) 0
  have e : ((b.drop at_).take n).length = n := by simp; omega
  rw [e] at this
  unfold numB
  omega
theorem f64_v (b : List Int) (hb : okBy b) (hl : b.length ≤ reachBytes) {at_ n : Nat} (h1 : 1 ≤ n) (h8 : n ≤ 8) (h : at_ + n ≤ b.length) : Ev fun k => ∀ (R : Type) (K : Int → Int → Option R),
    f64 k b (at_ : Int) (n : Int) K = if 9223372036854775807 < numB b at_ n then K 0 1 else K (numB b at_ n) 0 := by
  rw [reachV] at hl
  have e : (b.take (at_ + n)).drop at_ = (b.drop at_).take n := by rw [List.drop_take]; congr 1; omega
  have el : ((b.drop at_).take n).length = n := by simp; omega
  refine (f64_loop ((b.drop at_).take n) ((hb.drop at_).take n) (by omega) 0 (by omega)).imp fun k hk R K => ?_
  have t1 : decide ((n : Int) < 1) = false := decide_eq_false (by omega)
  have t2 : decide ((n : Int) > 8) = false := decide_eq_false (by omega)
  have t3 : decide ((at_ : Int) < 0) = false := decide_eq_false (by omega)
  have t4 : decide ((at_ : Int) > (b.length : Int)) = false := decide_eq_false (by omega)
  have w1 : IntKind.i64.wrap ((b.length : Int) - (at_ : Int)) = ((b.length - at_ : Nat) : Int) := by rw [wrap64 (by omega) (by omega)]; omega
  have w2 : IntKind.i64.wrap ((at_ : Int) + (n : Int)) = ((at_ + n : Nat) : Int) := by rw [wrap64 (by omega) (by omega)]; omega
  have t5 : decide (((b.length - at_ : Nat) : Int) < (n : Int)) = false := decide_eq_false (by omega)
  have t6 : decide ((0 : Int) ≤ (at_ : Int)) = true := decide_eq_true (by omega)
  have t7 : decide ((at_ : Int) ≤ ((at_ + n : Nat) : Int)) = true := decide_eq_true (by omega)
  simp only [Int.natCast_zero, List.drop_zero] at hk
  simp only [f64, t1, t2, t3, t4, w1, w2, t5, t6, t7, cond_false, upto_nat, h, decide_true, Bool.and_self, cond_true, Int.toNat_natCast, e]
  rw [hk R 0 _ (by omega) (by decide)]
  have hbd := numB_bound hb h
  show (bif decide (numB b at_ n > 9223372036854775807) then K 0 1 else K (IntKind.i64.wrap (numB b at_ n)) 0) = _
  by_cases hx : 9223372036854775807 < numB b at_ n
  · rw [if_pos hx, decide_eq_true (show numB b at_ n > 9223372036854775807 from hx)]; rfl
  · rw [if_neg hx, decide_eq_false (show ¬ numB b at_ n > 9223372036854775807 from hx), wrap64 (by omega) (by omega)]; rfl
theorem idLen_range (c : Int) : idLen c ≤ 4 := by unfold idLen; split; omega; split; omega; split; omega; split <;> omega
/-- By its first byte. -/
theorem idLen_first {c : Int} (h' : c < 256) {n : Nat} (hn : idLen c = n) (h1 : 1 ≤ n) : (2 : Int) ^ (8 - n) ≤ c ∧ c < 2 ^ (9 - n) := by
  unfold idLen at hn
  split at hn
  · subst hn; exact ⟨by simpa using ‹128 ≤ c›, by simpa using h'⟩
  · split at hn
    · subst hn; exact ⟨by simpa using ‹64 ≤ c›, by simp; omega⟩
    · split at hn
      · subst hn; exact ⟨by simpa using ‹32 ≤ c›, by simp; omega⟩
      · split at hn
        · subst hn; exact ⟨by simpa using ‹16 ≤ c›, by simp; omega⟩
        · omega
/-- A number with the mark of so many bytes. -/
def Marked (v : Int) (n : Nat) : Prop := (2 : Int) ^ (7 * n) ≤ v ∧ v < 2 * 2 ^ (7 * n)
theorem marked_id {b : List Int} (hb : okBy b) {at_ n : Nat} (hat : at_ < b.length) (hn : idLen b[at_] = n) (h1 : 1 ≤ n) (h : at_ + n ≤ b.length) : Marked (numB b at_ n) n := by
  have hc := hb.get hat
  obtain ⟨l1, l2⟩ := idLen_first hc.2 hn h1
  have h4 : n ≤ 4 := by rw [← hn]; exact idLen_range _
  have e : (b.drop at_).take n = b[at_] :: (b.drop (at_ + 1)).take (n - 1) := by
    rw [List.drop_eq_getElem_cons hat]
    obtain ⟨m, rfl⟩ : ∃ m, n = m + 1 := ⟨n - 1, by omega⟩
    rw [List.take_succ_cons]; rfl
  have hv := valF_bound ((hb.drop (at_ + 1)).take (n - 1)) (0 * 256 + b[at_])
  have el : ((b.drop (at_ + 1)).take (n - 1)).length = n - 1 := by simp; omega
  have ev : numB b at_ n = valF ((b.drop (at_ + 1)).take (n - 1)) (0 * 256 + b[at_]) := by unfold numB; rw [e, valF_cons]
  rw [el, ← ev] at hv
  have : n = 1 ∨ n = 2 ∨ n = 3 ∨ n = 4 := by omega
  unfold Marked
  rcases this with rfl | rfl | rfl | rfl <;> simp at l1 l2 hv ⊢ <;> omega
def isIdB (v : Int) (n : Nat) : Bool := decide (2 ^ (7 * n) < v ∧ v < 2 * 2 ^ (7 * n) - 1)
theorem f60_v {v : Int} {n : Nat} (h1 : 1 ≤ n) (h4 : n ≤ 4) (h : Marked v n) (k : Nat) (R : Type) (K : Bool → Option R) : f60 k v (n : Int) K = K (isIdB v n) := by
  obtain ⟨l1, l2⟩ := h
  obtain ⟨m, rfl⟩ : ∃ m : Nat, v = m := ⟨v.toNat, by
    have : (0 : Int) < 2 ^ (7 * n) := Int.pow_pos (by decide)
    omega⟩
  have main : ∀ (p : Nat), p ≤ 28 → (2 : Nat) ^ p ≤ m → m < 2 * 2 ^ p → andI .i64 (m : Int) ((2 ^ p - 1 : Nat) : Int) = ((m - 2 ^ p : Nat) : Int) := by
    intro p hp a1 a2
    have hb : (2 : Nat) ^ p ≤ 2 ^ 28 := Nat.pow_le_pow_right (by decide) hp
    have e28 : (2 : Nat) ^ 28 = 268435456 := by decide
    rw [and_mask (by omega) (by omega)]
    congr 1
    rw [Nat.mod_eq_sub_mod (by omega), Nat.mod_eq_of_lt (by omega)]
  have fin : ∀ (p : Nat) (x : Int), p ≤ 28 → (2 : Nat) ^ p ≤ m → m < 2 * 2 ^ p → x = ((2 ^ p - 1 : Nat) : Int) → 2 ≤ p → (bif (andI .i64 (m : Int) x != 0) then K (andI .i64 (m : Int) x != x) else K false) = K (decide ((2 : Int) ^ p < m ∧ (m : Int) < 2 * 2 ^ p - 1)) := by
    intro p x hp a1 a2 hx h2
    have e0 : ((2 ^ p : Nat) : Int) = (2 : Int) ^ p := Int.natCast_pow 2 p
    have hb : (2 : Nat) ^ 2 ≤ 2 ^ p := Nat.pow_le_pow_right (by decide) h2
    subst hx
    rw [main p hp a1 a2, bne_dec, bne_dec]
    by_cases z : m = 2 ^ p
    · rw [decide_eq_true (show ((m - 2 ^ p : Nat) : Int) = 0 by omega), decide_eq_false (show ¬ ((2 : Int) ^ p < m ∧ (m : Int) < 2 * 2 ^ p - 1) by omega)]; rfl
    · rw [decide_eq_false (show ¬ ((m - 2 ^ p : Nat) : Int) = 0 by omega)]
      simp only [Bool.not_false, cond_true]
      by_cases y : m = 2 * 2 ^ p - 1
      · rw [decide_eq_true (show ((m - 2 ^ p : Nat) : Int) = ((2 ^ p - 1 : Nat) : Int) by omega), decide_eq_false (show ¬ ((2 : Int) ^ p < m ∧ (m : Int) < 2 * 2 ^ p - 1) by omega)]; rfl
      · rw [decide_eq_false (show ¬ ((m - 2 ^ p : Nat) : Int) = ((2 ^ p - 1 : Nat) : Int) by omega), decide_eq_true (show ((2 : Int) ^ p < m ∧ (m : Int) < 2 * 2 ^ p - 1) by omega)]; rfl
  have nat : ∀ p : Nat, (2 : Int) ^ p ≤ (m : Int) → (m : Int) < 2 * 2 ^ p → (2 : Nat) ^ p ≤ m ∧ m < 2 * 2 ^ p := by
    intro p a b
    have e0 : ((2 ^ p : Nat) : Int) = (2 : Int) ^ p := Int.natCast_pow 2 p
    omega
  obtain ⟨b1, b2⟩ := nat _ l1 l2
  have : n = 1 ∨ n = 2 ∨ n = 3 ∨ n = 4 := by omega
  unfold isIdB
  rcases this with rfl | rfl | rfl | rfl
  · exact fin 7 _ (by decide) b1 b2 (by decide) (by decide)
  · exact fin 14 _ (by decide) b1 b2 (by decide) (by decide)
  · exact fin 21 _ (by decide) b1 b2 (by decide) (by decide)
  · exact fin 28 _ (by decide) b1 b2 (by decide) (by decide)
/-- How many bytes a number has that begins with c. -/
def vsz (c : Nat) : Nat := if 128 ≤ c then 1 else if 64 ≤ c then 2 else if 32 ≤ c then 3 else if 16 ≤ c then 4 else if 8 ≤ c then 5 else if 4 ≤ c then 6 else if 2 ≤ c then 7 else 8
theorem vsz_range (c : Nat) : 1 ≤ vsz c ∧ vsz c ≤ 8 := by
  unfold vsz
  repeat' split
  all_goals omega
def chkC (c : Nat) : Bool :=
  c == 0 || (decide (inb (c : Int) lit2.size = true ∧ IntKind.i64.wrap (IntKind.i64.wrap (8 - IntKind.i64.wrap (((lit2.data.toList.getD (c : Int).toNat 0).toNat : Int))) + 1) = (vsz c : Int) ∧
    andI .i64 (IntKind.i64.wrap (c : Int)) (shrI .i64 255 (vsz c : Int)) = (c : Int) - 2 ^ (8 - vsz c) ∧ IntKind.i64.wrap (IntKind.i64.wrap (c : Int) - shlI .i64 1 (IntKind.u64.wrap (IntKind.i64.wrap (8 - (vsz c : Int))))) = (c : Int) - 2 ^ (8 - vsz c) ∧
    (c : Int) < 2 ^ (9 - vsz c) ∧ (2 : Int) ^ (8 - vsz c) ≤ c))
theorem chk_all : (List.range 256).all chkC = true := by kernel_rfl
theorem chk_of {c : Nat} (h : 0 < c) (h' : c < 256) : inb (c : Int) lit2.size = true ∧ IntKind.i64.wrap (IntKind.i64.wrap (8 - IntKind.i64.wrap (((lit2.data.toList.getD (c : Int).toNat 0).toNat : Int))) + 1) = (vsz c : Int) ∧
    andI .i64 (IntKind.i64.wrap (c : Int)) (shrI .i64 255 (vsz c : Int)) = (c : Int) - 2 ^ (8 - vsz c) ∧ IntKind.i64.wrap (IntKind.i64.wrap (c : Int) - shlI .i64 1 (IntKind.u64.wrap (IntKind.i64.wrap (8 - (vsz c : Int))))) = (c : Int) - 2 ^ (8 - vsz c) ∧
    (c : Int) < 2 ^ (9 - vsz c) ∧ (2 : Int) ^ (8 - vsz c) ≤ c := by
  have := List.all_eq_true.1 chk_all c (by simpa using h')
  unfold chkC at this
  simp only [Bool.or_eq_true] at this
  rcases this with h1 | h1
  · simp at h1; omega
  · exact of_decide_eq_true h1
/-- Bytes. -/
theorem or_byte {a c : Int} (h : 0 ≤ a) (h' : a < 36028797018963968) (hc : 0 ≤ c) (hc' : c < 256) : orI .i64 (shlI .i64 a 8) (IntKind.i64.wrap c) = a * 256 + c := by
  obtain ⟨n, rfl⟩ : ∃ n : Nat, a = n := ⟨a.toNat, by omega⟩
  obtain ⟨m, rfl⟩ : ∃ n : Nat, c = n := ⟨c.toNat, by omega⟩
  have s : shlI .i64 (n : Int) 8 = ((256 * n : Nat) : Int) := by
    have : (min (8 : Int).toNat IntKind.i64.bits) = 8 := rfl
    unfold shlI
    rw [this]
    have e : (n : Int) * 2 ^ 8 = ((256 * n : Nat) : Int) := by
      have : (2 : Int) ^ 8 = 256 := by decide
      rw [this]; omega
    rw [e, wrap64 (by omega) (by omega)]
  have w : IntKind.i64.wrap (m : Int) = m := wrap64 (by omega) (by omega)
  rw [w, s]
  have e1 : (BitVec.ofInt IntKind.i64.bits ((256 * n : Nat) : Int)).toNat = 256 * n := ofInt_nat (by omega)
  have e2 : (BitVec.ofInt IntKind.i64.bits (m : Int)).toNat = m := ofInt_nat (by omega)
  unfold orI
  rw [BitVec.toNat_or, e1, e2]
  have e3 : 256 * n = 2 ^ 8 * n := rfl
  rw [e3, ← Nat.two_pow_add_eq_or_of_lt (i := 8) (by omega) n]
  have e4 : 2 ^ 8 * n + m = 256 * n + m := rfl
  rw [e4, wrap64 (by omega) (by omega)]
  omega
/-- What a number of m bytes more is below, behind i of them. -/
def capN (m i : Nat) : Nat := 2 ^ (7 - m) * 256 ^ i
theorem cap_small : ∀ m, m < 8 → ∀ i, i < m → capN m i ≤ 281474976710656 := by decide
theorem cap_step {m i : Nat} {v c : Int} (h : v < capN m i) (hc' : c < 256) : v * 256 + c < capN m (i + 1) := by
  have e : capN m (i + 1) = capN m i * 256 := by unfold capN; rw [Nat.pow_succ, Nat.mul_assoc]
  rw [e]; omega
theorem f107_loop (n : Int) (l : List Int) (hl : okBy l) (h7 : l.length ≤ 7) : ∀ i, i ≤ l.length → Ev fun k => ∀ (R : Type) (v : Int) (X : Int → Int → Option R), 0 ≤ v → v < capN l.length i →
    f107_l12 k v n l (l.length : Int) (i : Int) X = X (valF (l.drop i) v) n := by
  refine Ev.down l.length ?_ ?_
  · exact Ev.suc (.all fun k R v X _ _ => by simp [f107_l12, valF])
  · intro i hi h
    refine Ev.suc (h.imp fun k h R v X h0 hb => ?_)
    have hc := hl _ (List.getElem_mem hi)
    have hs := cap_small l.length (by omega) i hi
    rw [f107_l12, lt_nat, inb_nat, wrapSuc (by omega)]
    simp only [hi, decide_true, cond_true, Int.toNat_natCast, getD_get hi]
    rw [or_byte h0 (by omega) hc.1 hc.2, h R _ X (by omega) (cap_step hb hc.2), List.drop_eq_getElem_cons hi]
    rfl
theorem al1 (k : Nat) (R : Type) (K : Int → Option R) : f82 k ((1 : Nat) : Int) K = K (2 ^ (7 * 1) - 1) := by kernel_rfl
theorem al2 (k : Nat) (R : Type) (K : Int → Option R) : f82 k ((2 : Nat) : Int) K = K (2 ^ (7 * 2) - 1) := by kernel_rfl
theorem al3 (k : Nat) (R : Type) (K : Int → Option R) : f82 k ((3 : Nat) : Int) K = K (2 ^ (7 * 3) - 1) := by kernel_rfl
theorem al4 (k : Nat) (R : Type) (K : Int → Option R) : f82 k ((4 : Nat) : Int) K = K (2 ^ (7 * 4) - 1) := by kernel_rfl
theorem al5 (k : Nat) (R : Type) (K : Int → Option R) : f82 k ((5 : Nat) : Int) K = K (2 ^ (7 * 5) - 1) := by kernel_rfl
theorem al6 (k : Nat) (R : Type) (K : Int → Option R) : f82 k ((6 : Nat) : Int) K = K (2 ^ (7 * 6) - 1) := by kernel_rfl
theorem al7 (k : Nat) (R : Type) (K : Int → Option R) : f82 k ((7 : Nat) : Int) K = K (2 ^ (7 * 7) - 1) := by kernel_rfl
theorem al8 (k : Nat) (R : Type) (K : Int → Option R) : f82 k ((8 : Nat) : Int) K = K (2 ^ (7 * 8) - 1) := by kernel_rfl
theorem allN (n : Nat) (h : 1 ≤ n) (h' : n ≤ 8) (k : Nat) (R : Type) (K : Int → Option R) : f82 k (n : Int) K = K (2 ^ (7 * n) - 1) := by
  have : n = 1 ∨ n = 2 ∨ n = 3 ∨ n = 4 ∨ n = 5 ∨ n = 6 ∨ n = 7 ∨ n = 8 := by omega
  rcases this with rfl | rfl | rfl | rfl | rfl | rfl | rfl | rfl
  · exact al1 k R K
  · exact al2 k R K
  · exact al3 k R K
  · exact al4 k R K
  · exact al5 k R K
  · exact al6 k R K
  · exact al7 k R K
  · exact al8 k R K
/-- What a number of variable length is, that is read at a place: value, bytes, unknown, error. -/
def readV (b : List Int) (at_ : Nat) : Int × Int × Bool × Int :=
  if h : at_ < b.length then
    if b[at_] = 0 then (0, 0, false, 4)
    else if b.length - at_ < vsz b[at_].toNat then (0, 0, false, 3)
    else
      let v := valF ((b.drop (at_ + 1)).take (vsz b[at_].toNat - 1)) (b[at_] - 2 ^ (8 - vsz b[at_].toNat))
      if v = 2 ^ (7 * vsz b[at_].toNat) - 1 then (0, vsz b[at_].toNat, true, 0) else (v, vsz b[at_].toNat, false, 0)
  else (0, 0, false, 3)
theorem wrapAdd {a b : Nat} (h : a + b < 9223372036854775808) : IntKind.i64.wrap ((a : Int) + (b : Int)) = ((a + b : Nat) : Int) := by
  rw [wrap64 (by omega) (by omega)]; omega
theorem wrapSub {a b : Nat} (h : b ≤ a) (h' : a < 9223372036854775808) : IntKind.i64.wrap ((a : Int) - (b : Int)) = ((a - b : Nat) : Int) := by
  rw [wrap64 (by omega) (by omega)]; omega
theorem readV_zero {b : List Int} {at_ : Nat} (h : at_ < b.length) (hz : b[at_] = 0) : readV b at_ = (0, 0, false, 4) := by
  unfold readV; rw [dif_pos h, if_pos hz]
theorem readV_short {b : List Int} {at_ c : Nat} (h : at_ < b.length) (hce : b[at_] = (c : Int)) (hz : c ≠ 0) (hs : b.length - at_ < vsz c) : readV b at_ = (0, 0, false, 3) := by
  have tn : b[at_].toNat = c := by omega
  unfold readV; rw [dif_pos h, if_neg (by omega), tn, if_pos hs]
theorem readV_val {b : List Int} {at_ c : Nat} (h : at_ < b.length) (hce : b[at_] = (c : Int)) (hz : c ≠ 0) (hs : ¬ b.length - at_ < vsz c) :
    readV b at_ = if valF ((b.drop (at_ + 1)).take (vsz c - 1)) ((c : Int) - 2 ^ (8 - vsz c)) = 2 ^ (7 * vsz c) - 1 then (0, (vsz c : Int), true, 0) else (valF ((b.drop (at_ + 1)).take (vsz c - 1)) ((c : Int) - 2 ^ (8 - vsz c)), (vsz c : Int), false, 0) := by
  have tn : b[at_].toNat = c := by omega
  unfold readV; rw [dif_pos h, if_neg (by omega), tn, if_neg hs, hce]
theorem readV_end {b : List Int} {at_ : Nat} (h : ¬ at_ < b.length) : readV b at_ = (0, 0, false, 3) := by
  unfold readV; rw [dif_neg h]
theorem cap_first {c : Nat} (h : 0 < c) (h' : c < 256) : 0 ≤ (c : Int) - 2 ^ (8 - vsz c) ∧ (c : Int) - 2 ^ (8 - vsz c) < capN (vsz c - 1) 0 := by
  obtain ⟨_, _, _, _, q5, q6⟩ := chk_of h h'
  have hv := vsz_range c
  have e : capN (vsz c - 1) 0 = 2 ^ (8 - vsz c) := by
    have : 7 - (vsz c - 1) = 8 - vsz c := by omega
    unfold capN; rw [Nat.pow_zero, Nat.mul_one, this]
  have e2 : (2 : Int) ^ (9 - vsz c) = 2 ^ (8 - vsz c) * 2 := by
    have : 9 - vsz c = (8 - vsz c) + 1 := by omega
    rw [this, Int.pow_succ]
  rw [e2] at q5
  rw [e]
  have e3 : (((2 : Nat) ^ (8 - vsz c) : Nat) : Int) = 2 ^ (8 - vsz c) := by simp
  rw [e3]
  generalize (2 : Int) ^ (8 - vsz c) = p at *
  omega
theorem f107_v (b : List Int) (hb : okBy b) (hl : b.length ≤ reachBytes) (at_ : Nat) (hat : at_ ≤ reachBytes) : Ev fun k => ∀ (R : Type) (K : Int → Int → Bool → Int → Option R), f107 k b (at_ : Int) K = K (readV b at_).1 (readV b at_).2.1 (readV b at_).2.2.1 (readV b at_).2.2.2 := by
  rw [reachV] at hl hat
  have n0 : decide ((at_ : Int) < 0) = false := by simp
  by_cases h : at_ < b.length
  · have g0 : decide ((at_ : Int) ≥ (b.length : Int)) = false := by simp; omega
    have hc := hb _ (List.getElem_mem h)
    obtain ⟨c, hce⟩ : ∃ c : Nat, b[at_] = (c : Int) := ⟨b[at_].toNat, by omega⟩
    have hc' : c < 256 := by omega
    by_cases hz : c = 0
    · refine .all fun k R K => ?_
      have hz : b[at_] = 0 := by omega
      have e0 : ((b[at_] == 0) = true) := by simp [hz]
      simp only [f107, n0, g0, inb_nat, h, decide_true, cond_true, cond_false, Int.toNat_natCast, getD_get h, e0]
      rw [readV_zero h hz]
    · have e0c : (((c : Nat) : Int) == 0) = false := by simp; exact hz
      obtain ⟨q1, q2, q3, _, _, _⟩ := chk_of (c := c) (by omega) hc'
      rw [inb_nat] at q1
      simp only [Int.toNat_natCast] at q2
      have hv := vsz_range c
      have wl := wrapSub (a := b.length) (b := at_) (by omega) (by omega)
      by_cases hs : b.length - at_ < vsz c
      · refine .all fun k R K => ?_
        have t1 : decide (((b.length - at_ : Nat) : Int) < (vsz c : Int)) = true := by rw [lt_nat]; simp [hs]
        simp only [f107, f111, f112, n0, g0, inb_nat, h, decide_true, cond_true, cond_false, Int.toNat_natCast, getD_get h, hce, e0c, q1]
        rw [q2, wl, t1, readV_short h hce hz hs]; rfl
      · have hll : ((b.take (at_ + vsz c)).drop (at_ + 1)).length = vsz c - 1 := by simp; omega
        have heq : (b.take (at_ + vsz c)).drop (at_ + 1) = (b.drop (at_ + 1)).take (vsz c - 1) := by
          have : at_ + vsz c - (at_ + 1) = vsz c - 1 := by omega
          rw [List.drop_take, this]
        have cp := cap_first (c := c) (by omega) hc'
        refine (f107_loop (vsz c : Int) ((b.take (at_ + vsz c)).drop (at_ + 1)) ((hb.take _).drop _) (by omega) 0 (by omega)).imp fun k hk R K => ?_
        simp only [Int.natCast_zero, List.drop_zero] at hk
        have t1 : decide (((b.length - at_ : Nat) : Int) < (vsz c : Int)) = false := by rw [lt_nat]; simp; omega
        have t2 : decide ((vsz c : Int) < 0) = false := by simp
        have wa := wrapAdd (a := at_) (b := vsz c) (by omega)
        have ws := wrapSuc (n := at_) (by omega)
        have t3 : decide (0 ≤ ((at_ + 1 : Nat) : Int)) = true := by simp; omega
        have t4 : decide (((at_ + 1 : Nat) : Int) ≤ ((at_ + vsz c : Nat) : Int)) = true := by simp; omega
        simp only [f107, f111, f112, n0, g0, inb_nat, h, decide_true, cond_true, cond_false, Int.toNat_natCast, getD_get h, hce, e0c, q1]
        simp only [q2, q3, wl, t1, t2, wa, ws, upto_nat, show at_ + vsz c ≤ b.length by omega, t3, t4, decide_true, Bool.and_self, cond_true, cond_false, Int.toNat_natCast]
        rw [hll] at hk ⊢
        rw [hk R _ _ cp.1 cp.2, allN _ hv.1 hv.2, heq, beq_dec, readV_val h hce hz hs]
        by_cases hu : valF ((b.drop (at_ + 1)).take (vsz c - 1)) ((c : Int) - 2 ^ (8 - vsz c)) = 2 ^ (7 * vsz c) - 1
        · rw [if_pos hu, decide_eq_true hu]; rfl
        · rw [if_neg hu, decide_eq_false hu]; rfl
  · refine .all fun k R K => ?_
    have g0 : decide ((at_ : Int) ≥ (b.length : Int)) = true := by simp; omega
    simp only [f107, n0, g0, cond_true, cond_false]
    rw [readV_end h]
theorem valF_nn {l : List Int} (hl : okBy l) : ∀ {v : Int}, 0 ≤ v → 0 ≤ valF l v := by
  induction l with
  | nil => exact fun h => h
  | cons c l ih =>
    intro v h
    have := hl c (by simp)
    exact ih (fun n hn => hl n (by simp [hn])) (v := v * 256 + c) (by omega)
theorem valF_lt {m : Nat} : ∀ {l : List Int}, okBy l → ∀ {i : Nat} {v : Int}, v < capN m i → valF l v < capN m (i + l.length)
  | [], _, i, v, h => h
  | c :: l, hl, i, v, h => by
    have := cap_step h (hl c (by simp)).2
    have := valF_lt (l := l) (fun n hn => hl n (by simp [hn])) this
    have e : i + 1 + l.length = i + (c :: l).length := by simp; omega
    rw [e] at this
    exact this
theorem cap_big : ∀ m, m < 8 → capN m m ≤ 72057594037927936 := by decide
/-- What is known of a number that has been read. -/
theorem readV_ok {b : List Int} (hb : okBy b) {at_ : Nat} : 0 ≤ (readV b at_).1 ∧ (readV b at_).1 < 72057594037927936 ∧
    ((readV b at_).2.2.2 = 0 → ∃ n : Nat, (readV b at_).2.1 = n ∧ 1 ≤ n ∧ n ≤ 8 ∧ at_ + n ≤ b.length) ∧ ((readV b at_).2.2.2 = 0 ∨ (readV b at_).2.2.2 = 3 ∨ (readV b at_).2.2.2 = 4) := by
  by_cases h : at_ < b.length
  · have hc := hb _ (List.getElem_mem h)
    obtain ⟨c, hce⟩ : ∃ c : Nat, b[at_] = (c : Int) := ⟨b[at_].toNat, by omega⟩
    by_cases hz : c = 0
    · rw [readV_zero h (by omega)]; simp
    · by_cases hs : b.length - at_ < vsz c
      · rw [readV_short h hce hz hs]; simp
      · rw [readV_val h hce hz hs]
        have hv := vsz_range c
        have cp := cap_first (c := c) (by omega) (by omega)
        have n1 := valF_nn (((hb.drop (at_ + 1)).take (vsz c - 1))) cp.1
        have n2 := valF_lt (((hb.drop (at_ + 1)).take (vsz c - 1))) cp.2
        have hl : ((b.drop (at_ + 1)).take (vsz c - 1)).length = vsz c - 1 := by simp; omega
        rw [hl, Nat.zero_add] at n2
        have n3 := cap_big (vsz c - 1) (by omega)
        split
        · exact ⟨by simp, by simp, fun _ => ⟨vsz c, rfl, hv.1, hv.2, by omega⟩, .inl rfl⟩
        · exact ⟨n1, by simp only; omega, fun _ => ⟨vsz c, rfl, hv.1, hv.2, by omega⟩, .inl rfl⟩
  · rw [readV_end h]; simp
noncomputable def tabP : List D0 := (f58 (R := List D0) 0 some).getD []
theorem f58_v (k : Nat) (R : Type) (K : List D0 → Option R) : f58 k K = K tabP := by kernel_rfl
theorem tabP_len : tabP.length = 65 := by kernel_rfl
def rowAt (l : List D0) (id : Int) : Option D0 := l.find? fun s => s.1 == id
theorem rowAt_some {l : List D0} {id : Int} {s : D0} (h : rowAt l id = some s) : s ∈ l ∧ s.1 = id :=
  ⟨List.mem_of_find?_eq_some h, by simpa using List.find?_some h⟩
theorem f25_loop (l : List D0) (hl : l.length = 65) (id : Int) (R : Type) : ∀ i, i ≤ l.length → Ev fun k => ∀ (a : Int) (b : ByteArray) (c : Int) (d e : Bool) (X0 : Int → ByteArray → Int → Bool → Bool → Option R) (X1 : Bool → Int → ByteArray → Int → Bool → Bool → Option R),
    f25_l2 k id l (i : Int) a b c d e X0 X1 = match rowAt (l.drop i) id with
      | some s => X1 true s.1 s.2.1 s.2.2.1 s.2.2.2.1 s.2.2.2.2
      | none => X0 a b c d e := by
  refine Ev.down l.length ?_ ?_
  · refine Ev.suc (.all fun k a b c d e X0 X1 => ?_)
    rw [List.drop_length, f25_l2, hl]; rfl
  · intro i hi h
    refine Ev.suc (h.imp fun k hk a b c d e X0 X1 => ?_)
    rw [List.drop_eq_getElem_cons hi, f25_l2, wrapSuc (by omega)]
    simp (disch := omega) only [deT, inT, inb_nat, hi, cond_true, Bool.and_self, Int.toNat_natCast, getD_get hi, decide_true]
    unfold rowAt
    rw [List.find?_cons]
    cases hb : (l[i].1 == id) with
    | true => rfl
    | false => simp only [cond_false]; exact hk a b c d e X0 X1
/-- The row of an id; zero if there is none. -/
noncomputable def rowOf (id : Int) : D0 := (rowAt tabP id).getD zero0
noncomputable def known (id : Int) : Bool := (rowAt tabP id).isSome
theorem f25_v (id : Int) (R : Type) : Ev fun k => ∀ (K : Int → ByteArray → Int → Bool → Bool → Bool → Option R), f25 k id K = K (rowOf id).1 (rowOf id).2.1 (rowOf id).2.2.1 (rowOf id).2.2.2.1 (rowOf id).2.2.2.2 (known id) :=
  (f25_loop tabP tabP_len id R 0 (by omega)).imp fun k hk K => by
    rw [Int.natCast_zero, List.drop_zero] at hk
    simp only [f25, f58_v, hk]
    unfold rowOf known
    cases rowAt tabP id <;> rfl
/-- Every row of the schema, and the row of no id. -/
theorem row_all (p : D0 → Bool) (h : tabP.all p = true) (h0 : p zero0 = true) (id : Int) : p (rowOf id) = true := by
  unfold rowOf
  cases h1 : rowAt tabP id with
  | none => exact h0
  | some s => exact List.all_eq_true.1 h s (rowAt_some h1).1
theorem row_id {id : Int} (h : known id = true) : (rowOf id).1 = id := by
  unfold known at h; unfold rowOf
  cases h1 : rowAt tabP id with
  | none => rw [h1] at h; simp at h
  | some s => exact (rowAt_some h1).2
/-- May it stand there? -/
def within (s : D0) (p : Int) : Bool := s.2.2.1 == p || (s.1 == 227 && p == 227)
theorem f68_v (s : D0) (p : Int) (k : Nat) (R : Type) (K : Bool → Option R) : f68 k s.1 s.2.1 s.2.2.1 s.2.2.2.1 s.2.2.2.2 p K = K (within s p) := by
  simp only [f68, within]
  cases s.2.2.1 == p <;> cases s.1 == 227 <;> rfl
/-- What is passed over: an id that nobody knows, and those without a parent. -/
noncomputable def free (id : Int) : Bool := !known id || decide ((rowOf id).2.2.1 < 0)
theorem free_chk : (tabP.all fun s => (decide (s.2.2.1 < 0) == (s.1 == 236 || s.1 == 237)) && (!s.2.2.2.2 || s.2.2.2.1)) = true := by kernel_rfl
theorem free_known {id : Int} (h : known id = true) : free id = (id == 236 || id == 237) := by
  unfold free
  have h1 := row_id h
  have h2 := row_all (fun s => (s.1 == 0) || ((decide (s.2.2.1 < 0) == (s.1 == 236 || s.1 == 237)) && (!s.2.2.2.2 || s.2.2.2.1))) (by
    refine List.all_eq_true.2 fun s hs => ?_
    rw [List.all_eq_true.1 free_chk s hs]; simp) (by kernel_rfl) id
  rw [h]
  unfold known at h
  cases h3 : rowAt tabP id with
  | none => rw [h3] at h; simp at h
  | some s =>
    have h4 := List.all_eq_true.1 free_chk s (rowAt_some h3).1
    have h5 : rowOf id = s := by unfold rowOf; rw [h3]; rfl
    rw [h5] at h1 ⊢
    rw [Bool.and_eq_true] at h4
    rw [eq_of_beq h4.1, h1]; rfl
theorem known_sum : known 237 = true ∧ rowOf 237 = (237, (⟨#[83, 117, 109]⟩ : ByteArray), -1, false, false) := ⟨by kernel_rfl, by kernel_rfl⟩
def crc1 (s : Int) : Int := bif (andI .u32 s 1) == 1 then xorI .u32 (shrI .u32 s 1) 3558460437 else shrI .u32 s 1
def crcN : Nat → Int → Int
  | 0, s => s
  | n + 1, s => crcN n (crc1 s)
def crcF (l : List Int) (s : Int) : Int := l.foldl (fun s c => crcN 8 (xorI .u32 s (IntKind.u32.wrap c))) s
theorem crcF_cons (c : Int) (l : List Int) (s : Int) : crcF (c :: l) s = crcF l (crcN 8 (xorI .u32 s (IntKind.u32.wrap c))) := rfl
def sumB (l : List Int) : Int := xorI .u32 4294967295 (crcF l 4294967295)
theorem xor_comm32 (a b : Int) : xorI .u32 a b = xorI .u32 b a := by
  unfold xorI; rw [BitVec.xor_comm]
theorem f108_bits (l : List Int) (a b : Int) (R : Type) : ∀ i : Nat, i ≤ 8 → Ev fun k => ∀ (s : Int) (X : Int → List Int → Int → Int → Option R), f108_l7 k s l a b (i : Int) X = X (crcN (8 - i) s) l a b := by
  refine Ev.down 8 ?_ ?_
  · exact Ev.suc (.all fun k s X => by simp [f108_l7, crcN])
  · intro i hi h
    refine Ev.suc (h.imp fun k hk s X => ?_)
    rw [f108_l7, wrapSuc (by omega), ifT (by omega), show 8 - i = (8 - (i + 1)) + 1 by omega, crcN, crc1]
    cases (andI .u32 s 1) == 1 <;> simp only [cond_true, cond_false, hk]
theorem f108_loop (l : List Int) (hl : l.length ≤ reachBytes) (R : Type) : ∀ i, i ≤ l.length → Ev fun k => ∀ (s : Int) (X : Int → Option R), f108_l3 k s l (l.length : Int) (i : Int) X = X (crcF (l.drop i) s) := by
  rw [reachV] at hl
  refine Ev.down l.length ?_ ?_
  · exact Ev.suc (.all fun k s X => by simp [f108_l3, crcF])
  · intro i hi h
    refine Ev.suc (h.imp2 (f108_bits l (l.length : Int) (i : Int) R 0 (by omega)) fun k hk hb s X => ?_)
    rw [List.drop_eq_getElem_cons hi, crcF_cons, f108_l3]
    simp only [lt_nat, hi, decide_true, cond_true, inb_nat, Int.toNat_natCast, getD_get hi]
    rw [Int.natCast_zero] at hb
    rw [hb, wrapSuc (by omega), hk]
theorem f108_v (l : List Int) (hl : l.length ≤ reachBytes) (R : Type) : Ev fun k => ∀ (K : Int → Option R), f108 k l K = K (sumB l) :=
  (f108_loop l hl R 0 (by omega)).imp fun k hk K => by
    rw [Int.natCast_zero, List.drop_zero] at hk
    simp only [f108, hk, sumB]
inductive HR | bad (c : Int) | ok (id : Int) (hb sz : Nat) (unk : Bool)
def headR (b : List Int) (at_ : Nat) : HR :=
  if idLen (b.getD at_ 0) = 0 then .bad 40
  else if b.length ≤ at_ + idLen (b.getD at_ 0) then .bad 3
  else if isIdB (numB b at_ (idLen (b.getD at_ 0))) (idLen (b.getD at_ 0)) = false then .bad 40
  else if (readV b (at_ + idLen (b.getD at_ 0))).2.2.2 ≠ 0 then .bad (readV b (at_ + idLen (b.getD at_ 0))).2.2.2
  else .ok (numB b at_ (idLen (b.getD at_ 0))) (idLen (b.getD at_ 0) + (readV b (at_ + idLen (b.getD at_ 0))).2.1.toNat) (readV b (at_ + idLen (b.getD at_ 0))).1.toNat (readV b (at_ + idLen (b.getD at_ 0))).2.2.1
theorem readV_unk {b : List Int} {at_ : Nat} (h : (readV b at_).2.2.1 = true) : (readV b at_).1 = 0 := by
  by_cases h1 : at_ < b.length
  · unfold readV at h ⊢
    simp only [dif_pos h1] at h ⊢
    by_cases a : b[at_] = 0
    · rw [if_pos a]
    · rw [if_neg a] at h ⊢
      by_cases c : b.length - at_ < vsz b[at_].toNat
      · rw [if_pos c]
      · rw [if_neg c] at h ⊢
        by_cases d : valF (List.take (vsz b[at_].toNat - 1) (List.drop (at_ + 1) b)) (b[at_] - 2 ^ (8 - vsz b[at_].toNat)) = 2 ^ (7 * vsz b[at_].toNat) - 1
        · rw [if_pos d]
        · rw [if_neg d] at h; simp at h
  · rw [readV_end h1]
/-- What is known of a head. -/
theorem head_ok {b : List Int} (hb : okBy b) {at_ : Nat} {id : Int} {h sz : Nat} {unk : Bool} (e : headR b at_ = .ok id h sz unk) :
    2 ≤ h ∧ h ≤ 12 ∧ at_ + h ≤ b.length ∧ sz < 72057594037927936 ∧ (unk = true → sz = 0) ∧ 0 < id := by
  unfold headR at e
  split at e; · simp at e
  split at e; · simp at e
  split at e; · simp at e
  split at e; · simp at e
  have hl := idLen_range (b.getD at_ 0)
  simp only [HR.ok.injEq] at e
  obtain ⟨rfl, rfl, rfl, rfl⟩ := e
  obtain ⟨r1, r2, r3, r4⟩ := readV_ok hb (at_ := at_ + idLen (b.getD at_ 0))
  obtain ⟨n, e1, e2, e3, e4⟩ := r3 (by simpa using ‹¬ _ ≠ _›)
  have hi : isIdB (numB b at_ (idLen (b.getD at_ 0))) (idLen (b.getD at_ 0)) = true := by simpa using ‹¬ isIdB _ _ = false›
  unfold isIdB at hi
  have hi := of_decide_eq_true hi
  have hp : (0 : Int) < 2 ^ (7 * idLen (b.getD at_ 0)) := Int.pow_pos (by decide)
  refine ⟨by omega, by omega, by omega, by omega, fun hu => ?_, by omega⟩
  rw [readV_unk hu]; rfl
theorem head_bad {b : List Int} (hb : okBy b) {at_ : Nat} {c : Int} (e : headR b at_ = .bad c) : c = 40 ∨ c = 3 ∨ c = 4 := by
  unfold headR at e
  split at e; · simp at e; omega
  split at e; · simp at e; omega
  split at e; · simp at e; omega
  split at e
  · simp only [HR.bad.injEq] at e
    have := (readV_ok hb (at_ := at_ + idLen (b.getD at_ 0))).2.2.2
    omega
  · simp at e
theorem f99_2_v (b : List Int) (hb : okBy b) (hl : b.length ≤ 1048576) (at_ : Nat) (hat : at_ < b.length) (R : Type) : Ev fun k => ∀ (nd ba : Int) (pl : List D1),
    match headR b at_ with
    | .bad c => ∃ g1 g2 g3 g4, ∀ (K : Int → Int → Int → Bool → List Int → Int → Int → Int → Int → List D1 → Option R), f99_2 k b (at_ : Int) nd 0 ba pl K = K g1 g2 g3 g4 b (at_ : Int) nd c (at_ : Int) pl
    | .ok id h sz unk => ∀ (K : Int → Int → Int → Bool → List Int → Int → Int → Int → Int → List D1 → Option R), f99_2 k b (at_ : Int) nd 0 ba pl K = K id (h : Int) (sz : Int) unk b (at_ : Int) nd 0 ba pl := by
  have hc := hb.get hat
  have hgd : b.getD at_ 0 = b[at_] := getD_get hat
  have hlr : b.length ≤ reachBytes := by rw [reachV]; omega
  unfold headR
  rw [hgd]
  generalize hn : idLen b[at_] = n
  have h63 := f63_v hc.1 hc.2
  rw [hn] at h63
  have h4 : n ≤ 4 := by rw [← hn]; exact idLen_range _
  by_cases z : n = 0
  · refine h63.imp fun k h63 nd ba pl => ?_
    rw [if_pos z]; subst z
    refine ⟨0, 0, 0, false, fun K => ?_⟩
    simp (disch := omega) only [f99_2, inb_nat, hat, decide_true, cond_true, Int.toNat_natCast, getD_get hat, h63, beT, f87_2, f56_2]
  · rw [if_neg z]
    by_cases sh : b.length ≤ at_ + n
    · refine h63.imp fun k h63 nd ba pl => ?_
      rw [if_pos sh]
      refine ⟨0, 0, 0, false, fun K => ?_⟩
      simp (disch := omega) only [f99_2, inb_nat, hat, decide_true, cond_true, cond_false, Int.toNat_natCast, getD_get hat, h63, beT, beF, wr, ifT, f87_2, f56_2]
    · rw [if_neg sh]
      have mk := marked_id hb hat hn (by omega) (by omega)
      have nb := numB_bound hb (at_ := at_) (n := n) (by omega)
      have big : ¬ 9223372036854775807 < numB b at_ n := by
        have := mk.2
        have e : n = 1 ∨ n = 2 ∨ n = 3 ∨ n = 4 := by omega
        rcases e with rfl | rfl | rfl | rfl <;> simp at this <;> omega
      refine h63.imp3 (f64_v b hb hlr (show 1 ≤ n by omega) (show n ≤ 8 by omega) (show at_ + n ≤ b.length by omega)) (f107_v b hb hlr (at_ + n) (by rw [reachV]; omega)) fun k h63 h64 h107 nd ba pl => ?_
      simp only [if_neg big] at h64
      have w : IntKind.i64.wrap ((at_ : Int) + (n : Int)) = ((at_ + n : Nat) : Int) := wrapAdd (by omega)
      by_cases hi : isIdB (numB b at_ n) n = false
      · rw [if_pos hi]
        refine ⟨numB b at_ n, IntKind.i64.wrap ((n : Int) + (readV b (at_ + n)).2.1), (readV b (at_ + n)).1, (readV b (at_ + n)).2.2.1, fun K => ?_⟩
        simp (disch := omega) only [f99_2, inb_nat, hat, decide_true, cond_true, cond_false, Int.toNat_natCast, getD_get hat, h63, beT, beF, w, ifF, h64, h107, f60_v (show 1 ≤ n by omega) h4 mk, hi, Bool.not_false, f87_2, f56_2]
      · rw [if_neg hi]
        have hi : isIdB (numB b at_ n) n = true := by simpa using hi
        by_cases he : (readV b (at_ + n)).2.2.2 ≠ 0
        · rw [if_pos he]
          refine ⟨numB b at_ n, IntKind.i64.wrap ((n : Int) + (readV b (at_ + n)).2.1), (readV b (at_ + n)).1, (readV b (at_ + n)).2.2.1, fun K => ?_⟩
          simp (disch := omega) only [f99_2, inb_nat, hat, decide_true, cond_true, cond_false, Int.toNat_natCast, getD_get hat, h63, beT, beF, w, ifF, h64, h107, f60_v (show 1 ≤ n by omega) h4 mk, hi, Bool.not_true, bnT, f87_2, f56_2]
        · rw [if_neg he]
          have he : (readV b (at_ + n)).2.2.2 = 0 := by simpa using he
          obtain ⟨m, e1, e2, e3, e4⟩ := (readV_ok hb (at_ := at_ + n)).2.2.1 he
          have r1 := (readV_ok hb (at_ := at_ + n)).1
          have w2 : IntKind.i64.wrap ((n : Int) + (m : Int)) = ((n + m : Nat) : Int) := wrapAdd (by omega)
          have w3 : (readV b (at_ + n)).1 = ((readV b (at_ + n)).1.toNat : Int) := by omega
          intro K
          rw [← w3, e1, Int.toNat_natCast]
          simp (disch := omega) only [f99_2, inb_nat, hat, decide_true, cond_true, cond_false, Int.toNat_natCast, getD_get hat, h63, beT, beF, w, ifF, h64, h107, f60_v (show 1 ≤ n by omega) h4 mk, hi, Bool.not_true, bnF, he, e1, w2]
theorem j18_bad {R : Type} {g : Nat → f101_3_T R} {k : Nat} {free : Bool} {b : List Int} {at_ nd ba : Int} {pl : List D1} {hid en : Int} {fm op : Bool} {dp : Int} {acc : List D2} {id hb sz : Int} {unk : Bool} {s1 : Int} {s2 : ByteArray} {s3 : Int} {s4 s5 : Bool} {X : Bool → List Int → Int → Int → Int → Int → List D1 → Int → Int → Bool → Bool → Int → List D2 → Int → Int → Int → Bool → Int → ByteArray → Int → Bool → Bool → Option R} :
    f88_2_j18 g k free true b at_ nd 0 ba pl hid en fm op dp acc id hb sz unk s1 s2 s3 s4 s5 X =
    X free b at_ nd 42 at_ pl hid en fm op dp acc id hb sz unk s1 s2 s3 s4 s5 := by
  simp only [f88_2_j18, f87_2, f56_2, beq_self_eq_true, cond_true, cond_false]
theorem j18_deep {R : Type} {g : Nat → f101_3_T R} {k : Nat} {free : Bool} {b : List Int} {at_ nd ba : Int} {pl : List D1} {hid en : Int} {fm op : Bool} {dp : Int} {acc : List D2} {id hb sz : Int} {unk : Bool} {s1 : Int} {s2 : ByteArray} {s3 : Int} {s4 s5 : Bool} {X : Bool → List Int → Int → Int → Int → Int → List D1 → Int → Int → Bool → Bool → Int → List D2 → Int → Int → Int → Bool → Int → ByteArray → Int → Bool → Bool → Option R} (h : dp > 8) :
    f88_2_j18 g k free false b at_ nd 0 ba pl hid en fm op dp acc id hb sz unk s1 s2 s3 s4 s5 X =
    X free b at_ nd 43 at_ pl hid en fm op dp acc id hb sz unk s1 s2 s3 s4 s5 := by
  simp only [f88_2_j18, deT h, f87_2, f56_2, beq_self_eq_true, cond_true, cond_false]
theorem j18_sum {R : Type} {g : Nat → f101_3_T R} {k : Nat} {free : Bool} {b : List Int} {at_ nd ba : Int} {pl : List D1} {hid en : Int} {fm op : Bool} {dp : Int} {acc : List D2} {id hb sz : Int} {unk : Bool} {s1 : Int} {s2 : ByteArray} {s3 : Int} {s4 s5 : Bool} {X : Bool → List Int → Int → Int → Int → Int → List D1 → Int → Int → Bool → Bool → Int → List D2 → Int → Int → Int → Bool → Int → ByteArray → Int → Bool → Bool → Option R} (h : ¬ dp > 8) (hs : (s1 == 237) = true) :
    f88_2_j18 g k free false b at_ nd 0 ba pl hid en fm op dp acc id hb sz unk s1 s2 s3 s4 s5 X =
    f100 k id hb sz unk hid en fm op dp b at_ nd 0 ba pl (fun b at_ nd bd ba pl => X free b at_ nd bd ba pl hid en fm op dp acc id hb sz unk s1 s2 s3 s4 s5) := by
  simp only [f88_2_j18, deF h, hs, cond_true, cond_false]
theorem j18_ok {R : Type} {g : Nat → f101_3_T R} {k : Nat} {free : Bool} {b : List Int} {at_ nd ba : Int} {pl : List D1} {hid en : Int} {fm op : Bool} {dp : Int} {acc : List D2} {id hb sz : Int} {unk : Bool} {s1 : Int} {s2 : ByteArray} {s3 : Int} {s4 s5 : Bool} {X : Bool → List Int → Int → Int → Int → Int → List D1 → Int → Int → Bool → Bool → Int → List D2 → Int → Int → Int → Bool → Int → ByteArray → Int → Bool → Bool → Option R} (h : ¬ dp > 8) (hs : (s1 == 237) = false) :
    f88_2_j18 g k free false b at_ nd 0 ba pl hid en fm op dp acc id hb sz unk s1 s2 s3 s4 s5 X =
    X free b at_ nd 0 ba pl hid en fm op dp acc id hb sz unk s1 s2 s3 s4 s5 := by
  simp only [f88_2_j18, deF h, hs, cond_true, cond_false]
theorem j17_v {R : Type} {g : Nat → f101_3_T R} {k : Nat} {first free q : Bool} {b : List Int} {at_ nd bd ba : Int} {pl : List D1} {hid en : Int} {fm op : Bool} {dp : Int} {acc : List D2} {id hb sz : Int} {unk : Bool} {s1 : Int} {s2 : ByteArray} {s3 : Int} {s4 s5 : Bool} {X : Bool → Bool → List Int → Int → Int → Int → Int → List D1 → Int → Int → Bool → Bool → Int → List D2 → Int → Int → Int → Bool → Int → ByteArray → Int → Bool → Bool → Option R} :
    f88_2_j17 g k first free q b at_ nd bd ba pl hid en fm op dp acc id hb sz unk s1 s2 s3 s4 s5 X =
    X free (q || (s1 == 237 && (hid == 0 || !first))) b at_ nd bd ba pl hid en fm op dp acc id hb sz unk s1 s2 s3 s4 s5 := by
  simp only [f88_2_j17]
  cases q <;> cases s1 == 237 <;> cases hid == 0 <;> rfl
theorem j15_bad {R : Type} {g : Nat → f101_3_T R} {k : Nat} {first free : Bool} {b : List Int} {at_ nd ba : Int} {pl : List D1} {hid en : Int} {fm op : Bool} {dp : Int} {acc : List D2} {id hb sz : Int} {unk : Bool} {s1 : Int} {s2 : ByteArray} {s3 : Int} {s4 s5 : Bool} {X : Bool → List Int → Int → Int → Int → Int → List D1 → Int → Int → Bool → Bool → Int → List D2 → Int → Int → Int → Bool → Int → ByteArray → Int → Bool → Bool → Option R} :
    f88_2_j15 g k first free true b at_ nd 0 ba pl hid en fm op dp acc id hb sz unk s1 s2 s3 s4 s5 X =
    X free b at_ nd 3 at_ pl hid en fm op dp acc id hb sz unk s1 s2 s3 s4 s5 := by
  simp only [f88_2_j15, f87_2, f56_2, beq_self_eq_true, cond_true, cond_false]
theorem j15_ok {R : Type} {g : Nat → f101_3_T R} {k : Nat} {first free : Bool} {b : List Int} {at_ nd ba : Int} {pl : List D1} {hid en : Int} {fm op : Bool} {dp : Int} {acc : List D2} {id hb sz : Int} {unk : Bool} {s : D0} {X : Bool → List Int → Int → Int → Int → Int → List D1 → Int → Int → Bool → Bool → Int → List D2 → Int → Int → Int → Bool → Int → ByteArray → Int → Bool → Bool → Option R} :
    f88_2_j15 g k first free false b at_ nd 0 ba pl hid en fm op dp acc id hb sz unk s.1 s.2.1 s.2.2.1 s.2.2.2.1 s.2.2.2.2 X =
    f88_2_j18 g k free ((!free && !within s hid) || (s.1 == 237 && (hid == 0 || !first))) b at_ nd 0 ba pl hid en fm op dp acc id hb sz unk s.1 s.2.1 s.2.2.1 s.2.2.2.1 s.2.2.2.2 X := by
  simp only [f88_2_j15, f68_v, cond_false, j17_v]
  cases free <;> simp only [Bool.not_true, Bool.not_false, Bool.true_and, Bool.false_and, Bool.false_or, cond_true, cond_false]
theorem j13_bad {R : Type} {g : Nat → f101_3_T R} {k : Nat} {first free : Bool} {e : Int} {b : List Int} {at_ nd ba : Int} {pl : List D1} {hid en : Int} {fm op : Bool} {dp : Int} {acc : List D2} {id hb sz : Int} {unk : Bool} {s1 : Int} {s2 : ByteArray} {s3 : Int} {s4 s5 : Bool} {X : Bool → List Int → Int → Int → Int → Int → List D1 → Int → Int → Bool → Bool → Int → List D2 → Int → Int → Int → Bool → Int → ByteArray → Int → Bool → Bool → Option R} :
    f88_2_j13 g k first free e true b at_ nd 0 ba pl hid en fm op dp acc id hb sz unk s1 s2 s3 s4 s5 X =
    X free b at_ nd 41 at_ pl hid en fm op dp acc id hb sz unk s1 s2 s3 s4 s5 := by
  simp only [f88_2_j13, f87_2, f56_2, beq_self_eq_true, cond_true, cond_false]
theorem j13_ok {R : Type} {g : Nat → f101_3_T R} {k : Nat} {first free : Bool} {e : Int} {b : List Int} {at_ nd ba : Int} {pl : List D1} {hid en : Int} {fm op : Bool} {dp : Int} {acc : List D2} {id hb sz : Int} {unk : Bool} {s1 : Int} {s2 : ByteArray} {s3 : Int} {s4 s5 : Bool} {X : Bool → List Int → Int → Int → Int → Int → List D1 → Int → Int → Bool → Bool → Int → List D2 → Int → Int → Int → Bool → Int → ByteArray → Int → Bool → Bool → Option R} (hz : sz ≤ e) :
    f88_2_j13 g k first free e false b at_ nd 0 ba pl hid en fm op dp acc id hb sz unk s1 s2 s3 s4 s5 X =
    f88_2_j15 g k first free (decide (e > (b.length : Int))) b at_ nd 0 ba pl hid en fm op dp acc id hb sz unk s1 s2 s3 s4 s5 X := by
  simp only [f88_2_j13, cond_false]
  by_cases h : e > (b.length : Int)
  · simp only [deT h, cond_true]
  · simp only [deF h, cond_false, deF (show ¬ sz > (b.length : Int) by omega)]
theorem j12_v {R : Type} {g : Nat → f101_3_T R} {k : Nat} {first free : Bool} {e : Int} {q : Bool} {b : List Int} {at_ nd bd ba : Int} {pl : List D1} {hid en : Int} {fm op : Bool} {dp : Int} {acc : List D2} {id hb sz : Int} {unk : Bool} {s1 : Int} {s2 : ByteArray} {s3 : Int} {s4 s5 : Bool} {X : Bool → Bool → Int → Bool → List Int → Int → Int → Int → Int → List D1 → Int → Int → Bool → Bool → Int → List D2 → Int → Int → Int → Bool → Int → ByteArray → Int → Bool → Bool → Option R} (hz : sz ≤ e) :
    f88_2_j12 g k first free e q b at_ nd bd ba pl hid en fm op dp acc id hb sz unk s1 s2 s3 s4 s5 X =
    X first free e (q || (fm && decide (e > en))) b at_ nd bd ba pl hid en fm op dp acc id hb sz unk s1 s2 s3 s4 s5 := by
  simp only [f88_2_j12]
  cases q
  · cases fm
    · rfl
    · by_cases h : e > en
      · simp only [deT h, cond_true, cond_false]; rfl
      · simp only [deF h, cond_true, cond_false, deF (show ¬ sz > en by omega)]; rfl
  · rfl
theorem j10_v {R : Type} {g : Nat → f101_3_T R} {k : Nat} {first free : Bool} {e : Int} {b : List Int} {at_ nd bd ba : Int} {pl : List D1} {hid en : Int} {fm op : Bool} {dp : Int} {acc : List D2} {id hb sz : Int} {unk : Bool} {s1 : Int} {s2 : ByteArray} {s3 : Int} {s4 s5 : Bool} {X0 : List D2 → List Int → Int → Int → Int → Int → List D1 → Option R} {X1 : List Int → Int → Int → Int → Int → List D1 → Int → Int → Bool → Bool → Int → List D2 → Option R} (hz : sz ≤ e) (he : IntKind.i64.wrap (IntKind.i64.wrap (at_ + hb) + sz) = e) :
    f88_2_j10 g k first free b at_ nd bd ba pl hid en fm op dp acc id hb sz unk s1 s2 s3 s4 s5 X0 X1 =
    f88_2_j13 g k first free e ((unk && !s5) || (fm && decide (e > en))) b at_ nd bd ba pl hid en fm op dp acc id hb sz unk s1 s2 s3 s4 s5 (fun free b at_ nd bd ba pl hid en fm op dp acc id hb sz unk s1 s2 s3 s4 s5 => f88_2_j23 g k free b at_ nd bd ba pl hid en fm op dp acc id hb sz unk s1 s2 s3 s4 s5 X0 X1) := by
  simp only [f88_2_j10, he]
  cases unk
  · simp only [cond_false, j12_v hz, Bool.false_and]
  · simp only [cond_true, j12_v hz, Bool.true_and]
theorem j9_stop {R : Type} {g : Nat → f101_3_T R} {k : Nat} {first : Bool} {b : List Int} {at_ nd ba : Int} {pl : List D1} {hid en : Int} {fm op : Bool} {dp : Int} {acc : List D2} {id hb sz : Int} {unk : Bool} {s : D0} {X0 : List D2 → List Int → Int → Int → Int → Int → List D1 → Option R} {X1 : List Int → Int → Int → Int → Int → List D1 → Int → Int → Bool → Bool → Int → List D2 → Option R} (h : op = true) (hw : within s hid = false) :
    f88_2_j9 g k first false b at_ nd 0 ba pl hid en fm op dp acc id hb sz unk s.1 s.2.1 s.2.2.1 s.2.2.2.1 s.2.2.2.2 X0 X1 =
    X0 acc b at_ nd 0 ba pl := by
  simp only [f88_2_j9, h, f68_v, hw, Bool.not_false, cond_true]
theorem j9_go {R : Type} {g : Nat → f101_3_T R} {k : Nat} {first free : Bool} {b : List Int} {at_ nd ba : Int} {pl : List D1} {hid en : Int} {fm op : Bool} {dp : Int} {acc : List D2} {id hb sz : Int} {unk : Bool} {s : D0} {X0 : List D2 → List Int → Int → Int → Int → Int → List D1 → Option R} {X1 : List Int → Int → Int → Int → Int → List D1 → Int → Int → Bool → Bool → Int → List D2 → Option R} (h : (op && (!free && !within s hid)) = false) :
    f88_2_j9 g k first free b at_ nd 0 ba pl hid en fm op dp acc id hb sz unk s.1 s.2.1 s.2.2.1 s.2.2.2.1 s.2.2.2.2 X0 X1 =
    f88_2_j10 g k first free b at_ nd 0 ba pl hid en fm op dp acc id hb sz unk s.1 s.2.1 s.2.2.1 s.2.2.2.1 s.2.2.2.2 X0 X1 := by
  simp only [f88_2_j9, f68_v]
  cases op
  · rfl
  · cases free
    · cases hw : within s hid
      · rw [hw] at h; exact absurd h (by decide)
      · rfl
    · rfl
theorem j23_bad {R : Type} {g : Nat → f101_3_T R} {k : Nat} {free : Bool} {b : List Int} {at_ nd bd ba : Int} {pl : List D1} {hid en : Int} {fm op : Bool} {dp : Int} {acc : List D2} {id hb sz : Int} {unk : Bool} {s1 : Int} {s2 : ByteArray} {s3 : Int} {s4 s5 : Bool} {X0 : List D2 → List Int → Int → Int → Int → Int → List D1 → Option R} {X1 : List Int → Int → Int → Int → Int → List D1 → Int → Int → Bool → Bool → Int → List D2 → Option R} (h : (bd == 0) = false) :
    f88_2_j23 g k free b at_ nd bd ba pl hid en fm op dp acc id hb sz unk s1 s2 s3 s4 s5 X0 X1 =
    X0 acc b at_ nd bd ba pl := by
  simp only [f88_2_j23, f56_2, h, Bool.not_false, cond_true]
theorem j23_ok {R : Type} {g : Nat → f101_3_T R} {k : Nat} {free : Bool} {b : List Int} {at_ nd ba : Int} {pl : List D1} {hid en : Int} {fm op : Bool} {dp : Int} {acc : List D2} {id hb sz : Int} {unk : Bool} {s1 : Int} {s2 : ByteArray} {s3 : Int} {s4 s5 : Bool} {X0 : List D2 → List Int → Int → Int → Int → Int → List D1 → Option R} {X1 : List Int → Int → Int → Int → Int → List D1 → Int → Int → Bool → Bool → Int → List D2 → Option R} :
    f88_2_j23 g k free b at_ nd 0 ba pl hid en fm op dp acc id hb sz unk s1 s2 s3 s4 s5 X0 X1 =
    g k id hb sz unk s1 s2 s3 s4 s5 free hid en fm op dp b at_ nd 0 ba pl (fun i gr keep b at_ nd bd ba dat kids pl => bif keep then bif room 64 (acc.length + [D2.mk i dat kids gr].length) then X1 b at_ nd bd ba pl hid en fm op dp (acc ++ [D2.mk i dat kids gr]) else none else X1 b at_ nd bd ba pl hid en fm op dp acc) := by
  simp only [f88_2_j23, f56_2, beq_self_eq_true, Bool.not_true, cond_false]
/-- The loop over the elements of a holder, as the program does it. -/
noncomputable def lvP {R : Type} (g : Nat → f101_3_T R) (k : Nat) (first : Bool) (b : List Int) (at_ nd bd ba : Int) (pl : List D1) (hid en : Int) (fm op : Bool) (dp : Int) (acc : List D2) (X : List D2 → List Int → Int → Int → Int → Int → List D1 → Option R) : Option R :=
  f88_2_l3 g k first b at_ nd bd ba pl hid en fm op dp acc X
/-- What elements stand in. -/
structure Ho where
  id : Int
  en : Nat
  fm : Bool
  op : Bool
  dp : Nat
def Ho.Ok (b : List Int) (h : Ho) : Prop := h.en ≤ b.length ∧ (h.fm = false → h.en = b.length) ∧ h.dp ≤ 9
/-- The first error of an element whose head has been read; 0: none. -/
noncomputable def chkE (b : List Int) (h : Ho) (first : Bool) (at_ hb sz : Nat) (unk : Bool) (id : Int) : Int :=
  if ((unk && !(rowOf id).2.2.2.2) || (h.fm && decide (h.en < at_ + hb + sz))) = true then 41
  else if b.length < at_ + hb + sz then 3
  else if ((!free id && !within (rowOf id) h.id) || ((rowOf id).1 == 237 && (h.id == 0 || !first))) = true then 42
  else if 8 < h.dp then 43
  else if ((rowOf id).1 == 237) = true then
    if sz ≠ 4 ∨ h.op = true then 4 else if numB b (at_ + hb) 4 ≠ IntKind.i64.wrap (sumB ((b.take h.en).drop (at_ + hb + 4))) then 6 else 0
  else 0
theorem chk_ok {b : List Int} {h : Ho} (hh : h.Ok b) {first : Bool} {at_ hb sz : Nat} {unk : Bool} {id : Int} (e : chkE b h first at_ hb sz unk id = 0) :
    at_ + hb + sz ≤ h.en ∧ h.dp ≤ 8 ∧ (unk = true → (rowOf id).2.2.2.2 = true) ∧ (free id = true ∨ within (rowOf id) h.id = true) := by
  unfold chkE at e
  split at e; · simp at e
  split at e; · simp at e
  split at e; · simp at e
  split at e; · simp at e
  rename_i h1 h2 h3 h4
  simp only [Bool.or_eq_true, Bool.and_eq_true, not_or, not_and, decide_eq_true_eq, Bool.not_eq_true'] at h1 h3
  refine ⟨?_, by omega, fun hu => by simpa using h1.1 hu, ?_⟩
  · cases hf : h.fm with
    | true => have := h1.2 hf; omega
    | false => have := hh.2.1 hf; omega
  · cases hf : free id with
    | true => exact .inl rfl
    | false => right; simpa using h3.1 hf
theorem f100_v (b : List Int) (hb : okBy b) (hl : b.length ≤ 1048576) {at_ h sz en : Nat} (h1 : at_ + h + sz ≤ en) (he : en ≤ b.length) (R : Type) : Ev fun k => ∀ (id : Int) (unk : Bool) (hid : Int) (fm op : Bool) (dp nd ba : Int) (pl : List D1) (K : List Int → Int → Int → Int → Int → List D1 → Option R),
    f100 k id (h : Int) (sz : Int) unk hid (en : Int) fm op dp b (at_ : Int) nd 0 ba pl K =
    if sz ≠ 4 ∨ op = true then K b (at_ : Int) nd 4 (at_ : Int) pl else if numB b (at_ + h) 4 ≠ IntKind.i64.wrap (sumB ((b.take en).drop (at_ + h + 4))) then K b (at_ : Int) nd 6 (at_ : Int) pl else K b (at_ : Int) nd 0 ba pl := by
  have hlr : b.length ≤ reachBytes := by rw [reachV]; omega
  by_cases c : sz = 4
  · subst c
    have h64 := f64_v b hb hlr (at_ := at_ + h) (n := 4) (by omega) (by omega) (by omega)
    have nb := numB_bound hb (at_ := at_ + h) (n := 4) (by omega)
    have big : ¬ 9223372036854775807 < numB b (at_ + h) 4 := by simp at nb; omega
    refine h64.imp2 (f108_v ((b.take en).drop (at_ + h + 4)) (by rw [reachV]; simp; omega) R) fun k h64 h108 id unk hid fm op dp nd ba pl K => ?_
    simp only [if_neg big] at h64
    have e4 : ((4 : Nat) : Int) = 4 := rfl
    rw [e4] at h64 ⊢
    have w : IntKind.i64.wrap ((at_ : Int) + (h : Int)) = ((at_ + h : Nat) : Int) := wrapAdd (by omega)
    have w4 : IntKind.i64.wrap (((at_ + h : Nat) : Int) + 4) = ((at_ + h + 4 : Nat) : Int) := by rw [wr (by omega)]; omega
    cases op with
    | true => simp (disch := omega) only [f100, bnF, bnT, cond_true, cond_false, f87_2, f56_2, beT, or_true, if_true]
    | false =>
      have no : ¬ (4 ≠ 4 ∨ false = true) := by simp
      rw [if_neg no]
      simp (disch := omega) only [f100, bnF, bnT, cond_true, cond_false, f87_2, f56_2, beT, w, w4, h64, upT, deT, Bool.and_self, Int.toNat_natCast, h108]
      by_cases d : numB b (at_ + h) 4 = IntKind.i64.wrap (sumB ((b.take en).drop (at_ + h + 4)))
      · rw [if_neg (by simpa using d), bnF d]; rfl
      · rw [if_pos d, bnT d]; rfl
  · refine .all fun k id unk hid fm op dp nd ba pl K => ?_
    rw [if_pos (.inl c)]
    simp (disch := omega) only [f100, bnT, cond_true, f87_2, f56_2, beT]
/-- What comes behind an element. -/
noncomputable def contP {R : Type} (g : Nat → f101_3_T R) (k : Nat) (h : Ho) (acc : List D2) (X : List D2 → List Int → Int → Int → Int → Int → List D1 → Option R) (i : Int) (gr keep : Bool) (b : List Int) (at_ nd bd ba : Int) (dat : List Int) (kids : List D2) (pl : List D1) : Option R :=
  bif keep then bif room 64 (acc.length + [D2.mk i dat kids gr].length) then lvP g k false b at_ nd bd ba pl h.id (h.en : Int) h.fm h.op (h.dp : Int) (acc ++ [D2.mk i dat kids gr]) X else none
  else lvP g k false b at_ nd bd ba pl h.id (h.en : Int) h.fm h.op (h.dp : Int) acc X
theorem rnd_v (b : List Int) (hb : okBy b) (hl : b.length ≤ 1048576) (h : Ho) (hh : h.Ok b) (first : Bool) (at_ : Nat) (hat : at_ < h.en) (R : Type) : Ev fun k => ∀ (g : Nat → f101_3_T R) (nd ba : Int) (pl : List D1) (acc : List D2) (X : List D2 → List Int → Int → Int → Int → Int → List D1 → Option R),
    lvP g (k + 1) first b (at_ : Int) nd 0 ba pl h.id (h.en : Int) h.fm h.op (h.dp : Int) acc X = match headR b at_ with
    | .bad c => X acc b (at_ : Int) nd c (at_ : Int) pl
    | .ok id hb sz unk =>
      if (h.op && (!free id && !within (rowOf id) h.id)) = true then X acc b (at_ : Int) nd 0 ba pl
      else if chkE b h first at_ hb sz unk id ≠ 0 then X acc b (at_ : Int) nd (chkE b h first at_ hb sz unk id) (at_ : Int) pl
      else g k id (hb : Int) (sz : Int) unk (rowOf id).1 (rowOf id).2.1 (rowOf id).2.2.1 (rowOf id).2.2.2.1 (rowOf id).2.2.2.2 (free id) h.id (h.en : Int) h.fm h.op (h.dp : Int) b (at_ : Int) nd 0 ba pl (contP g k h acc X) := by
  obtain ⟨hh1, hh2, hh3⟩ := hh
  have h99 := f99_2_v b hb hl at_ (by omega) R
  have lt : (at_ : Int) < (h.en : Int) := by omega
  cases hd : headR b at_ with
  | bad c =>
    have c0 : (c == 0) = false := by have := head_bad hb hd; rw [beq_dec]; exact decide_eq_false (by omega)
    rw [hd] at h99
    refine h99.imp fun k h99 g nd ba pl acc X => ?_
    obtain ⟨g1, g2, g3, g4, h99⟩ := h99 nd ba pl
    rw [lvP, f88_2_l3]
    simp only [deT lt, cond_true, f56_2, beq_self_eq_true, f88_2_j5, h99, c0, Bool.not_false]
  | ok id h1 sz unk =>
    obtain ⟨p1, p2, p3, p4, p5, p6⟩ := head_ok hb hd
    rw [hd] at h99
    dsimp only at h99 ⊢
    have he : IntKind.i64.wrap (IntKind.i64.wrap ((at_ : Int) + (h1 : Int)) + (sz : Int)) = ((at_ + h1 + sz : Nat) : Int) := by rw [wrapAdd (by omega), wrapAdd (by omega)]
    have hz : (sz : Int) ≤ ((at_ + h1 + sz : Nat) : Int) := by omega
    -- up to the checks
    have start : ∀ (k : Nat), (∀ (nd ba : Int) (pl : List D1) (K : Int → Int → Int → Bool → List Int → Int → Int → Int → Int → List D1 → Option R), f99_2 k b (at_ : Int) nd 0 ba pl K = K id (h1 : Int) (sz : Int) unk b (at_ : Int) nd 0 ba pl) →
        (∀ (K : Int → ByteArray → Int → Bool → Bool → Bool → Option R), f25 k id K = K (rowOf id).1 (rowOf id).2.1 (rowOf id).2.2.1 (rowOf id).2.2.2.1 (rowOf id).2.2.2.2 (known id)) →
        ∀ (g : Nat → f101_3_T R) (nd ba : Int) (pl : List D1) (acc : List D2) (X : List D2 → List Int → Int → Int → Int → Int → List D1 → Option R),
        lvP g (k + 1) first b (at_ : Int) nd 0 ba pl h.id (h.en : Int) h.fm h.op (h.dp : Int) acc X =
        f88_2_j9 g k first (free id) b (at_ : Int) nd 0 ba pl h.id (h.en : Int) h.fm h.op (h.dp : Int) acc id (h1 : Int) (sz : Int) unk (rowOf id).1 (rowOf id).2.1 (rowOf id).2.2.1 (rowOf id).2.2.2.1 (rowOf id).2.2.2.2 X
          (fun b at_ nd bd ba pl hid en fm op dp acc => lvP g k false b at_ nd bd ba pl hid en fm op dp acc X) := by
      intro k h99 h25 g nd ba pl acc X
      rw [lvP, f88_2_l3]
      simp only [deT lt, cond_true, f56_2, beq_self_eq_true, f88_2_j5, h99, Bool.not_true, cond_false, h25, free]
      cases known id <;> rfl
    by_cases st : (h.op && (!free id && !within (rowOf id) h.id)) = true
    · have stp := st
      simp only [Bool.and_eq_true, Bool.not_eq_true'] at st
      refine h99.imp2 (f25_v id R) fun k h99 h25 g nd ba pl acc X => ?_
      rw [if_pos stp, start k h99 h25, st.2.1, j9_stop st.1 st.2.2]
    · have stn := st
      have st : (h.op && (!free id && !within (rowOf id) h.id)) = false := by simpa using st
      by_cases c1 : ((unk && !(rowOf id).2.2.2.2) || (h.fm && decide (h.en < at_ + h1 + sz))) = true
      · have ce : chkE b h first at_ h1 sz unk id = 41 := by unfold chkE; rw [if_pos c1]
        have c1' : ((unk && !(rowOf id).2.2.2.2) || (h.fm && decide (((at_ + h1 + sz : Nat) : Int) > (h.en : Int)))) = true := by
          rw [← c1]; congr 2; simp; omega
        refine h99.imp2 (f25_v id R) fun k h99 h25 g nd ba pl acc X => ?_
        rw [if_neg stn, start k h99 h25, j9_go st, j10_v hz he, c1', j13_bad, j23_bad (by decide), ce, if_pos (by decide)]
      · have c1' : ((unk && !(rowOf id).2.2.2.2) || (h.fm && decide (((at_ + h1 + sz : Nat) : Int) > (h.en : Int)))) = false := by
          have c1 : ((unk && !(rowOf id).2.2.2.2) || (h.fm && decide (h.en < at_ + h1 + sz))) = false := by simpa using c1
          rw [← c1]; congr 2; simp; omega
        by_cases c2 : b.length < at_ + h1 + sz
        · have ce : chkE b h first at_ h1 sz unk id = 3 := by unfold chkE; rw [if_neg c1, if_pos c2]
          refine h99.imp2 (f25_v id R) fun k h99 h25 g nd ba pl acc X => ?_
          rw [if_neg stn, start k h99 h25, j9_go st, j10_v hz he, c1', j13_ok hz, deT (show ((at_ + h1 + sz : Nat) : Int) > (b.length : Int) by omega), j15_bad, j23_bad (by decide), ce, if_pos (by decide)]
        · by_cases c3 : ((!free id && !within (rowOf id) h.id) || ((rowOf id).1 == 237 && (h.id == 0 || !first))) = true
          · have ce : chkE b h first at_ h1 sz unk id = 42 := by unfold chkE; rw [if_neg c1, if_neg c2, if_pos c3]
            refine h99.imp2 (f25_v id R) fun k h99 h25 g nd ba pl acc X => ?_
            rw [if_neg stn, start k h99 h25, j9_go st, j10_v hz he, c1', j13_ok hz, deF (show ¬ ((at_ + h1 + sz : Nat) : Int) > (b.length : Int) by omega), j15_ok, c3, j18_bad, j23_bad (by decide), ce, if_pos (by decide)]
          · have c3' : ((!free id && !within (rowOf id) h.id) || ((rowOf id).1 == 237 && (h.id == 0 || !first))) = false := by simpa using c3
            by_cases c4 : 8 < h.dp
            · have ce : chkE b h first at_ h1 sz unk id = 43 := by unfold chkE; rw [if_neg c1, if_neg c2, if_neg c3, if_pos c4]
              refine h99.imp2 (f25_v id R) fun k h99 h25 g nd ba pl acc X => ?_
              rw [if_neg stn, start k h99 h25, j9_go st, j10_v hz he, c1', j13_ok hz, deF (show ¬ ((at_ + h1 + sz : Nat) : Int) > (b.length : Int) by omega), j15_ok, c3', j18_deep (by omega), j23_bad (by decide), ce, if_pos (by decide)]
            · have inn : at_ + h1 + sz ≤ h.en := by
                cases hf : h.fm with
                | true => rw [hf] at c1'; simp at c1'; omega
                | false => have := hh2 hf; omega
              by_cases c5 : ((rowOf id).1 == 237) = true
              · have ce : chkE b h first at_ h1 sz unk id = if sz ≠ 4 ∨ h.op = true then 4 else if numB b (at_ + h1) 4 ≠ IntKind.i64.wrap (sumB ((b.take h.en).drop (at_ + h1 + 4))) then 6 else 0 := by
                  unfold chkE; rw [if_neg c1, if_neg c2, if_neg c3, if_neg c4, if_pos c5]
                refine h99.imp3 (f25_v id R) (f100_v b hb hl inn hh1 R) fun k h99 h25 h100 g nd ba pl acc X => ?_
                rw [if_neg stn, start k h99 h25, j9_go st, j10_v hz he, c1', j13_ok hz, deF (show ¬ ((at_ + h1 + sz : Nat) : Int) > (b.length : Int) by omega), j15_ok, c3', j18_sum (by omega) c5, h100, ce]
                by_cases c6 : sz ≠ 4 ∨ h.op = true
                · rw [if_pos c6, if_pos c6, j23_bad (by decide), if_pos (by decide)]
                · rw [if_neg c6, if_neg c6]
                  by_cases c7 : numB b (at_ + h1) 4 ≠ IntKind.i64.wrap (sumB ((b.take h.en).drop (at_ + h1 + 4)))
                  · rw [if_pos c7, if_pos c7, j23_bad (by decide), if_pos (by decide)]
                  · rw [if_neg c7, if_neg c7, j23_ok, if_neg (by decide)]; rfl
              · have ce : chkE b h first at_ h1 sz unk id = 0 := by unfold chkE; rw [if_neg c1, if_neg c2, if_neg c3, if_neg c4, if_neg c5]
                refine h99.imp2 (f25_v id R) fun k h99 h25 g nd ba pl acc X => ?_
                rw [if_neg stn, start k h99 h25, j9_go st, j10_v hz he, c1', j13_ok hz, deF (show ¬ ((at_ + h1 + sz : Nat) : Int) > (b.length : Int) by omega), j15_ok, c3', j18_ok (by omega) (by simpa using c5), j23_ok, ce, if_neg (by decide)]; rfl
inductive Res | bad (c : Int) (at_ : Nat) | fine (kids : List D2) (at_ nd : Nat) (pl : List D1)
def Ho.inner (h : Ho) (id : Int) (e : Nat) (unk : Bool) : Ho := if unk = true then ⟨id, h.en, h.fm, true, h.dp + 1⟩ else ⟨id, e, true, false, h.dp + 1⟩
noncomputable def setSz (pl : List D1) (i : Nat) (n : Int) : List D1 := pl.set i ((pl.getD i zero1).1, (pl.getD i zero1).2.1, (pl.getD i zero1).2.2.1, n, (pl.getD i zero1).2.2.2.2.1, (pl.getD i zero1).2.2.2.2.2)
def plc (id : Int) (at_ hb sz dp : Nat) (unk : Bool) : D1 := (id, (at_ : Int), (hb : Int), (sz : Int), (dp : Int), unk)
noncomputable def lev (b : List Int) : Nat → Ho → Bool → Nat → Nat → List D1 → List D2 → Option Res
  | 0, _, _, _, _, _, _ => none
  | n + 1, h, first, at_, nd, pl, acc =>
    if at_ < h.en then
      match headR b at_ with
      | .bad c => some (.bad c at_)
      | .ok id hb sz unk =>
        if (h.op && (!free id && !within (rowOf id) h.id)) = true then some (.fine acc at_ nd pl)
        else if chkE b h first at_ hb sz unk id ≠ 0 then some (.bad (chkE b h first at_ hb sz unk id) at_)
        else if free id = true then lev b n h false (at_ + hb + sz) nd (pl ++ [plc id at_ hb sz h.dp unk]) acc
        else if 4000 < nd + 1 then some (.bad 2 at_)
        else if (rowOf id).2.2.2.1 = false then lev b n h false (at_ + hb + sz) (nd + 1) (pl ++ [plc id at_ hb sz h.dp unk]) (acc ++ [D2.mk id ((b.drop (at_ + hb)).take sz) [] false])
        else match lev b n (h.inner id (at_ + hb + sz) unk) true (at_ + hb) (nd + 1) (pl ++ [plc id at_ hb sz h.dp unk]) [] with
          | some (.fine kids a nd' pl') => lev b n h false a nd' (setSz pl' pl.length ((a : Int) - ((at_ + hb : Nat) : Int))) (acc ++ [D2.mk id [] kids true])
          | r => r
    else some (.fine acc at_ nd pl)
theorem inner_ok {b : List Int} {h : Ho} (hh : h.Ok b) {id : Int} {e : Nat} {unk : Bool} (he : e ≤ h.en) (hd : h.dp ≤ 8) : (h.inner id e unk).Ok b := by
  obtain ⟨h1, h2, h3⟩ := hh
  unfold Ho.inner
  split
  · exact ⟨h1, h2, by show h.dp + 1 ≤ 9; omega⟩
  · exact ⟨by show e ≤ b.length; omega, fun h => by simp at h, by show h.dp + 1 ≤ 9; omega⟩
theorem setSz_len (pl : List D1) (i : Nat) (n : Int) : (setSz pl i n).length = pl.length := by unfold setSz; rw [List.length_set]
/-- Where a reading ends, and how much it has read. -/
theorem lev_inv {b : List Int} (hb : okBy b) : ∀ (n : Nat) {h : Ho} {first : Bool} {at_ nd : Nat} {pl : List D1} {acc : List D2} {r : Res}, h.Ok b → at_ ≤ b.length → lev b n h first at_ nd pl acc = some r →
    match r with
    | .bad c a => c ≠ 0 ∧ a < b.length
    | .fine kids a nd' pl' => at_ ≤ a ∧ a ≤ b.length ∧ nd ≤ nd' ∧ (nd ≤ 4000 → nd' ≤ 4000) ∧ pl.length ≤ pl'.length ∧ pl'.length + at_ ≤ pl.length + a ∧ kids.length + at_ ≤ acc.length + a ∧ acc.length ≤ kids.length := by
  intro n
  induction n with
  | zero => intro h first at_ nd pl acc r _ _ e; simp [lev] at e
  | succ n ih =>
    intro h first at_ nd pl acc r hh hat e
    rw [lev] at e
    split at e
    · rename_i lt
      obtain ⟨hh1, hh2, hh3⟩ := hh
      split at e
      · rename_i c hd
        obtain rfl := Option.some.inj e
        have := head_bad hb hd
        exact ⟨by omega, by omega⟩
      · rename_i id h1 sz unk hd
        obtain ⟨p1, p2, p3, p4, p5, p6⟩ := head_ok hb hd
        split at e
        · obtain rfl := Option.some.inj e
          exact ⟨Nat.le_refl _, hat, Nat.le_refl _, fun x => x, Nat.le_refl _, Nat.le_refl _, Nat.le_refl _, Nat.le_refl _⟩
        · split at e
          · obtain rfl := Option.some.inj e
            exact ⟨by assumption, by omega⟩
          · rename_i hc
            have hc : chkE b h first at_ h1 sz unk id = 0 := by simpa using hc
            obtain ⟨q1, q2, q3, q4⟩ := chk_ok ⟨hh1, hh2, hh3⟩ hc
            split at e
            · have := ih ⟨hh1, hh2, hh3⟩ (by omega) e
              cases r with
              | bad c a => exact this
              | fine kids a nd' pl' =>
                simp only [List.length_append, List.length_cons, List.length_nil] at this
                exact ⟨by omega, by omega, by omega, by omega, by omega, by omega, by omega, by omega⟩
            · split at e
              · obtain rfl := Option.some.inj e
                exact ⟨by decide, by omega⟩
              · split at e
                · have := ih ⟨hh1, hh2, hh3⟩ (by omega) e
                  cases r with
                  | bad c a => exact this
                  | fine kids a nd' pl' =>
                    simp only [List.length_append, List.length_cons, List.length_nil] at this
                    exact ⟨by omega, by omega, by omega, by omega, by omega, by omega, by omega, by omega⟩
                · split at e
                  · rename_i kids a nd' pl' he
                    have t1 := ih (inner_ok ⟨hh1, hh2, hh3⟩ q1 q2) (by omega) he
                    simp only [List.length_append, List.length_cons, List.length_nil] at t1
                    have t2 := ih ⟨hh1, hh2, hh3⟩ t1.2.1 e
                    cases r with
                    | bad c a => exact t2
                    | fine kids2 a2 nd2 pl2 =>
                      simp only [List.length_append, List.length_cons, List.length_nil, setSz_len] at t2
                      exact ⟨by omega, by omega, by omega, by omega, by omega, by omega, by omega, by omega⟩
                  · rename_i r' hr'
                    cases r with
                    | bad c a => exact ih (inner_ok ⟨hh1, hh2, hh3⟩ q1 q2) (by omega) e
                    | fine kids a nd' pl' => exact absurd e (hr' kids a nd' pl')
    · obtain rfl := Option.some.inj e
      exact ⟨Nat.le_refl _, hat, Nat.le_refl _, fun x => x, Nat.le_refl _, Nat.le_refl _, Nat.le_refl _, Nat.le_refl _⟩
/-- It ends. -/
theorem lev_some {b : List Int} (hb : okBy b) : ∀ (n : Nat) {h : Ho} (first : Bool) {at_ : Nat} (nd : Nat) (pl : List D1) (acc : List D2), h.Ok b → at_ ≤ b.length → b.length - at_ < n → ∃ r, lev b n h first at_ nd pl acc = some r := by
  intro n
  induction n with
  | zero => intro h first at_ nd pl acc _ _ e; omega
  | succ n ih =>
    intro h first at_ nd pl acc hh hat e
    rw [lev]
    by_cases lt : at_ < h.en
    · rw [if_pos lt]
      cases hd : headR b at_ with
      | bad c => exact ⟨_, rfl⟩
      | ok id h1 sz unk =>
        obtain ⟨p1, p2, p3, p4, p5, p6⟩ := head_ok hb hd
        dsimp only
        split
        · exact ⟨_, rfl⟩
        · split
          · exact ⟨_, rfl⟩
          · rename_i hc
            have hc : chkE b h first at_ h1 sz unk id = 0 := by simpa using hc
            obtain ⟨q1, q2, q3, q4⟩ := chk_ok hh hc
            have := hh.1
            split
            · exact ih _ _ _ _ hh (by omega) (by omega)
            · split
              · exact ⟨_, rfl⟩
              · split
                · exact ih _ _ _ _ hh (by omega) (by omega)
                · obtain ⟨r, hr⟩ := ih true (nd + 1) (pl ++ [plc id at_ h1 sz h.dp unk]) [] (inner_ok hh (id := id) (unk := unk) q1 q2) (at_ := at_ + h1) (by omega) (by omega)
                  rw [hr]
                  cases r with
                  | bad c a => exact ⟨_, rfl⟩
                  | fine kids a nd' pl' =>
                    have := lev_inv hb n (inner_ok hh (id := id) (unk := unk) q1 q2) (by omega) hr
                    exact ih _ _ _ _ hh this.2.1 (by omega)
    · rw [if_neg lt]; exact ⟨_, rfl⟩
section
variable {R : Type} {gg : Nat → f88_2_T R} {k : Nat} {id : Int} {at_ hb sz dp nd : Nat} {unk : Bool} {s1 : Int} {s2 : ByteArray} {s3 : Int} {s4 s5 : Bool} {hid en : Int} {fm op : Bool} {b : List Int} {ba : Int} {pl : List D1}
  {K : Int → Bool → Bool → List Int → Int → Int → Int → Int → List Int → List D2 → List D1 → Option R}
theorem el_free (hl : b.length ≤ 1048576) (hp : pl.length ≤ 1048576) (h : at_ + hb + sz ≤ b.length) :
    f101_3_s gg k id (hb : Int) (sz : Int) unk s1 s2 s3 s4 s5 true hid en fm op (dp : Int) b (at_ : Int) (nd : Int) 0 ba pl K =
    K 0 false false b ((at_ + hb + sz : Nat) : Int) (nd : Int) 0 ba [] [] (pl ++ [plc id at_ hb sz dp unk]) := by
  have w : IntKind.i64.wrap ((at_ : Int) + IntKind.i64.wrap ((hb : Int) + (sz : Int))) = ((at_ + hb + sz : Nat) : Int) := by rw [wrapAdd (by omega), wrapAdd (by omega)]; congr 1; omega
  simp only [f101_3_s, cond_true, w]
  rw [roT (by simp only [List.length_cons, List.length_nil]; omega)]; rfl
theorem el_limit (hl : b.length ≤ 1048576) (hp : pl.length ≤ 1048576) (hn : 4000 < nd + 1) (hn' : nd ≤ 4000) :
    f101_3_s gg k id (hb : Int) (sz : Int) unk s1 s2 s3 s4 s5 false hid en fm op (dp : Int) b (at_ : Int) (nd : Int) 0 ba pl K =
    K 0 false false b (at_ : Int) ((nd + 1 : Nat) : Int) 2 (at_ : Int) [] [] (pl ++ [plc id at_ hb sz dp unk]) := by
  simp (disch := omega) only [f101_3_s, cond_false, wrapSuc, deT, cond_true, f87_2, f56_2, beq_self_eq_true]
  rw [roT (by simp only [List.length_cons, List.length_nil]; omega)]; rfl
theorem el_leaf (hl : b.length ≤ 1048576) (hp : pl.length ≤ 1048576) (hn : ¬ 4000 < nd + 1) (h : at_ + hb + sz ≤ b.length) :
    f101_3_s gg k id (hb : Int) (sz : Int) unk s1 s2 s3 false s5 false hid en fm op (dp : Int) b (at_ : Int) (nd : Int) 0 ba pl K =
    K id false true b ((at_ + hb + sz : Nat) : Int) ((nd + 1 : Nat) : Int) 0 ba ((b.drop (at_ + hb)).take sz) [] (pl ++ [plc id at_ hb sz dp unk]) := by
  have w1 : IntKind.i64.wrap ((at_ : Int) + (hb : Int)) = ((at_ + hb : Nat) : Int) := wrapAdd (by omega)
  have w2 : IntKind.i64.wrap (((at_ + hb : Nat) : Int) + (sz : Int)) = ((at_ + hb + sz : Nat) : Int) := wrapAdd (by omega)
  have e : (b.take (at_ + hb + sz)).drop (at_ + hb) = (b.drop (at_ + hb)).take sz := by rw [List.drop_take]; congr 1; omega
  simp (disch := omega) only [f101_3_s, cond_false, wrapSuc, deF, cond_true, Bool.not_false, w1, w2, upT, deT, Bool.and_self, Int.toNat_natCast, e, f95_2, List.length_nil]
  rw [roT (by simp only [List.length_cons, List.length_nil]; omega), roT (by simp; omega)]; rfl
theorem el_group (hl : b.length ≤ 1048576) (hp : pl.length ≤ 1048576) (hn : ¬ 4000 < nd + 1) {h : Ho} (hd : h.dp ≤ 8) (hle : at_ + hb + sz ≤ b.length) :
    f101_3_s gg k id (hb : Int) (sz : Int) unk s1 s2 s3 true s5 false h.id (h.en : Int) h.fm h.op (h.dp : Int) b (at_ : Int) (nd : Int) 0 ba pl K =
    gg k (h.inner id (at_ + hb + sz) unk).id ((h.inner id (at_ + hb + sz) unk).en : Int) (h.inner id (at_ + hb + sz) unk).fm (h.inner id (at_ + hb + sz) unk).op ((h.inner id (at_ + hb + sz) unk).dp : Int) b ((at_ + hb : Nat) : Int) ((nd + 1 : Nat) : Int) 0 ba (pl ++ [plc id at_ hb sz h.dp unk])
      (fun b' a nd' bd ba' kids pl' => bif inb (pl.length : Int) pl'.length then K id true true b' a nd' bd ba' [] kids (setSz pl' pl.length (IntKind.i64.wrap (a - ((at_ + hb : Nat) : Int)))) else none) := by
  have w1 : IntKind.i64.wrap ((at_ : Int) + (hb : Int)) = ((at_ + hb : Nat) : Int) := wrapAdd (by omega)
  have w2 : IntKind.i64.wrap (((at_ + hb : Nat) : Int) + (sz : Int)) = ((at_ + hb + sz : Nat) : Int) := wrapAdd (by omega)
  have w3 : IntKind.i64.wrap ((h.dp : Int) + 1) = ((h.dp + 1 : Nat) : Int) := wrapSuc (by omega)
  simp (disch := omega) only [f101_3_s, cond_false, wrapSuc, deF, cond_true, Bool.not_true, w1, w2, w3, Int.toNat_natCast]
  rw [roT (by simp only [List.length_cons, List.length_nil]; omega)]
  cases unk <;> rfl
end
/-- The calls within a level are those of the level, with much fuel. -/
def Good {R : Type} (g : Nat → f101_3_T R) (m : Nat) : Prop := ∀ j, m ≤ j → ∃ k, m ≤ k ∧ g j = f101_3 k
theorem lvP_end {R : Type} (g : Nat → f101_3_T R) (j : Nat) (first : Bool) (b : List Int) (at_ nd ba : Int) (pl : List D1) (hid en : Int) (fm op : Bool) (dp : Int) (acc : List D2) (X : List D2 → List Int → Int → Int → Int → Int → List D1 → Option R) {c : Int} (hc : c ≠ 0 ∨ ¬ at_ < en) :
    lvP g (j + 1) first b at_ nd c ba pl hid en fm op dp acc X = X acc b at_ nd c ba pl := by
  rw [lvP, f88_2_l3]
  by_cases lt : at_ < en
  · have c0 : (c == 0) = false := by rw [beq_dec]; exact decide_eq_false (hc.resolve_right (fun h => h lt))
    simp only [deT lt, cond_true, f56_2, c0, cond_false]
  · simp only [deF lt, cond_false]
/-- What the program reads in a holder. -/
def RdP {R : Type} (b : List Int) (h : Ho) (first : Bool) (at_ nd : Nat) (pl : List D1) (acc : List D2) (r : Res) (g : Nat → f101_3_T R) (j : Nat) : Prop :=
  ∀ (ba : Int) (X : List D2 → List Int → Int → Int → Int → Int → List D1 → Option R),
    match r with
    | .fine kids a nd' pl' => lvP g j first b (at_ : Int) (nd : Int) 0 ba pl h.id (h.en : Int) h.fm h.op (h.dp : Int) acc X = X kids b (a : Int) (nd' : Int) 0 ba pl'
    | .bad c a => ∃ (ks : List D2) (a' nd' : Int) (pl' : List D1), pl.length ≤ pl'.length ∧ lvP g j first b (at_ : Int) (nd : Int) 0 ba pl h.id (h.en : Int) h.fm h.op (h.dp : Int) acc X = X ks b a' nd' c (a : Int) pl'
theorem prog_lev (b : List Int) (hb : okBy b) (hl : b.length ≤ 1048576) (R : Type) : ∀ (n : Nat) {h : Ho} {first : Bool} {at_ nd : Nat} {pl : List D1} {acc : List D2} {r : Res}, h.Ok b → at_ ≤ b.length → nd ≤ 4000 → pl.length ≤ at_ → acc.length ≤ at_ → lev b n h first at_ nd pl acc = some r →
    ∃ k0, ∀ m, k0 ≤ m → ∀ g : Nat → f101_3_T R, Good g m → ∀ j, m + k0 ≤ j → RdP b h first at_ nd pl acc r g j := by
  intro n
  induction n with
  | zero => intro h first at_ nd pl acc r _ _ _ _ _ e; simp [lev] at e
  | succ n ih =>
    intro h first at_ nd pl acc r hh hat hnd hpl hac e
    rw [lev] at e
    by_cases lt : at_ < h.en
    · rw [if_pos lt] at e
      obtain ⟨k1, rn⟩ := rnd_v b hb hl h hh first at_ lt R
      have hh1 := hh.1
      cases hd : headR b at_ with
      | bad c =>
        rw [hd] at e rn
        obtain rfl := Option.some.inj e
        refine ⟨k1 + 1, fun m hm g hg j hj ba X => ?_⟩
        obtain ⟨j, rfl⟩ : ∃ i, j = i + 1 := ⟨j - 1, by omega⟩
        exact ⟨acc, at_, nd, pl, Nat.le_refl _, rn j (by omega) g nd ba pl acc X⟩
      | ok id h1 sz unk =>
        rw [hd] at e rn
        obtain ⟨p1, p2, p3, p4, p5, p6⟩ := head_ok hb hd
        dsimp only at e rn
        by_cases st : (h.op && (!free id && !within (rowOf id) h.id)) = true
        · rw [if_pos st] at e
          obtain rfl := Option.some.inj e
          refine ⟨k1 + 1, fun m hm g hg j hj ba X => ?_⟩
          obtain ⟨j, rfl⟩ : ∃ i, j = i + 1 := ⟨j - 1, by omega⟩
          have := rn j (by omega) g nd ba pl acc X
          rw [if_pos st] at this
          exact this
        · rw [if_neg st] at e
          by_cases hc : chkE b h first at_ h1 sz unk id ≠ 0
          · rw [if_pos hc] at e
            obtain rfl := Option.some.inj e
            refine ⟨k1 + 1, fun m hm g hg j hj ba X => ?_⟩
            obtain ⟨j, rfl⟩ : ∃ i, j = i + 1 := ⟨j - 1, by omega⟩
            have := rn j (by omega) g nd ba pl acc X
            rw [if_neg st, if_pos hc] at this
            exact ⟨acc, at_, nd, pl, Nat.le_refl _, this⟩
          · rw [if_neg hc] at e
            have hc0 : chkE b h first at_ h1 sz unk id = 0 := by simpa using hc
            obtain ⟨q1, q2, q3, q4⟩ := chk_ok hh hc0
            have pl1 : (pl ++ [plc id at_ h1 sz h.dp unk]).length = pl.length + 1 := by simp
            -- the element, by the program
            have st1 : ∀ m g, Good g m → ∀ j, m + k1 + 1 ≤ j → 1 ≤ m → ∀ (ba : Int) (X : List D2 → List Int → Int → Int → Int → Int → List D1 → Option R), ∃ i k, j = i + 1 ∧ m ≤ k + 1 ∧
                lvP g j first b (at_ : Int) (nd : Int) 0 ba pl h.id (h.en : Int) h.fm h.op (h.dp : Int) acc X = f101_3_s (fun _ => f88_2 k) k id (h1 : Int) (sz : Int) unk (rowOf id).1 (rowOf id).2.1 (rowOf id).2.2.1 (rowOf id).2.2.2.1 (rowOf id).2.2.2.2 (free id) h.id (h.en : Int) h.fm h.op (h.dp : Int) b (at_ : Int) nd 0 ba pl (contP g i h acc X) := by
              intro m g hg j hj hm ba X
              obtain ⟨i, rfl⟩ : ∃ i, j = i + 1 := ⟨j - 1, by omega⟩
              obtain ⟨k, hk, hgk⟩ := hg i (by omega)
              obtain ⟨k, rfl⟩ : ∃ q, k = q + 1 := ⟨k - 1, by omega⟩
              have := rn i (by omega) g nd ba pl acc X
              rw [if_neg st, if_neg hc, hgk, f101_3_step] at this
              exact ⟨i, k, rfl, hk, this⟩
            by_cases hf : free id = true
            · rw [if_pos hf] at e
              obtain ⟨k2, h2⟩ := ih hh (by omega) hnd (by rw [pl1]; omega) (by omega) e
              refine ⟨k1 + k2 + 2, fun m hm g hg j hj ba X => ?_⟩
              obtain ⟨i, k, rfl, hk, he⟩ := st1 m g hg j (by omega) (by omega) ba X
              rw [hf, el_free hl (by omega) (by omega)] at he
              have h3 := h2 m (by omega) g hg i (by omega) ba X
              cases r with
              | fine kids a nd' pl' => exact he.trans h3
              | bad c a =>
                obtain ⟨ks, a', nd', pl', l1, l2⟩ := h3
                exact ⟨ks, a', nd', pl', by omega, he.trans l2⟩
            · rw [if_neg hf] at e
              have hf : free id = false := by simpa using hf
              by_cases hn : 4000 < nd + 1
              · rw [if_pos hn] at e
                obtain rfl := Option.some.inj e
                refine ⟨k1 + 2, fun m hm g hg j hj ba X => ?_⟩
                obtain ⟨i, k, rfl, hk, he⟩ := st1 m g hg j (by omega) (by omega) ba X
                obtain ⟨i, rfl⟩ : ∃ q, i = q + 1 := ⟨i - 1, by omega⟩
                rw [hf, el_limit hl (by omega) hn hnd] at he
                exact ⟨acc, _, _, pl ++ [plc id at_ h1 sz h.dp unk], by omega, he.trans (lvP_end g i false b _ _ _ _ _ _ _ _ _ acc X (.inl (by decide)))⟩
              · rw [if_neg hn] at e
                have ac1 : ∀ x : D2, (acc ++ [x]).length = acc.length + 1 := fun x => by simp
                have rm : ∀ x : D2, room 64 (acc.length + [x].length) = true := fun x => roT (by simp only [List.length_cons, List.length_nil]; omega)
                by_cases hg4 : (rowOf id).2.2.2.1 = false
                · rw [if_pos hg4] at e
                  obtain ⟨k2, h2⟩ := ih hh (by omega) (by omega) (by rw [pl1]; omega) (by rw [ac1]; omega) e
                  refine ⟨k1 + k2 + 2, fun m hm g hg j hj ba X => ?_⟩
                  obtain ⟨i, k, rfl, hk, he⟩ := st1 m g hg j (by omega) (by omega) ba X
                  rw [hf, hg4, el_leaf hl (by omega) hn (by omega), contP, cond_true, rm, cond_true] at he
                  have h3 := h2 m (by omega) g hg i (by omega) ba X
                  cases r with
                  | fine kids a nd' pl' => exact he.trans h3
                  | bad c a =>
                    obtain ⟨ks, a', nd', pl', l1, l2⟩ := h3
                    exact ⟨ks, a', nd', pl', by omega, he.trans l2⟩
                · rw [if_neg hg4] at e
                  have hg4 : (rowOf id).2.2.2.1 = true := by simpa using hg4
                  have hin := inner_ok hh (id := id) (unk := unk) q1 q2
                  -- what is in the group
                  have grp : ∀ rn', lev b n (h.inner id (at_ + h1 + sz) unk) true (at_ + h1) (nd + 1) (pl ++ [plc id at_ h1 sz h.dp unk]) [] = some rn' → ∃ k3, ∀ k, k3 ≤ k → ∀ (ba : Int) (X : List Int → Int → Int → Int → Int → List D2 → List D1 → Option R),
                      match rn' with
                      | .fine kids a nd' pl' => f88_2 k (h.inner id (at_ + h1 + sz) unk).id ((h.inner id (at_ + h1 + sz) unk).en : Int) (h.inner id (at_ + h1 + sz) unk).fm (h.inner id (at_ + h1 + sz) unk).op ((h.inner id (at_ + h1 + sz) unk).dp : Int) b ((at_ + h1 : Nat) : Int) ((nd + 1 : Nat) : Int) 0 ba (pl ++ [plc id at_ h1 sz h.dp unk]) X = X b (a : Int) (nd' : Int) 0 ba kids pl'
                      | .bad c a => ∃ (ks : List D2) (a' nd' : Int) (pl' : List D1), pl.length + 1 ≤ pl'.length ∧ f88_2 k (h.inner id (at_ + h1 + sz) unk).id ((h.inner id (at_ + h1 + sz) unk).en : Int) (h.inner id (at_ + h1 + sz) unk).fm (h.inner id (at_ + h1 + sz) unk).op ((h.inner id (at_ + h1 + sz) unk).dp : Int) b ((at_ + h1 : Nat) : Int) ((nd + 1 : Nat) : Int) 0 ba (pl ++ [plc id at_ h1 sz h.dp unk]) X = X b a' nd' c (a : Int) ks pl' := by
                    intro rn' hrn
                    obtain ⟨k0, h0⟩ := ih hin (by omega) (by omega) (by rw [pl1]; omega) (by simp) hrn
                    refine ⟨2 * k0 + 1, fun k hk ba X => ?_⟩
                    obtain ⟨k, rfl⟩ : ∃ q, k = q + 1 := ⟨k - 1, by omega⟩
                    have h3 := h0 k0 (Nat.le_refl _) (fun _ => f101_3 k) (fun j hj => ⟨k, by omega, rfl⟩) k (by omega) ba (fun ks b' a nd' bd ba' pl' => X b' a nd' bd ba' ks pl')
                    cases rn' with
                    | fine kids a nd' pl' => dsimp only; rw [f88_2_step]; exact h3
                    | bad c a =>
                      obtain ⟨ks, a', nd', pl', l1, l2⟩ := h3
                      rw [pl1] at l1
                      refine ⟨ks, a', nd', pl', l1, ?_⟩
                      rw [f88_2_step]; exact l2
                  cases hn' : lev b n (h.inner id (at_ + h1 + sz) unk) true (at_ + h1) (nd + 1) (pl ++ [plc id at_ h1 sz h.dp unk]) [] with
                  | none => rw [hn'] at e; simp at e
                  | some rn' =>
                    obtain ⟨k3, h3⟩ := grp rn' hn'
                    have iv := lev_inv hb n hin (by omega) hn'
                    rw [hn'] at e
                    cases rn' with
                    | bad c a =>
                      dsimp only at e
                      obtain rfl := Option.some.inj e
                      refine ⟨k1 + k3 + 3, fun m hm g hg j hj ba X => ?_⟩
                      obtain ⟨i, k, rfl, hk, he⟩ := st1 m g hg j (by omega) (by omega) ba X
                      obtain ⟨i, rfl⟩ : ∃ q, i = q + 1 := ⟨i - 1, by omega⟩
                      rw [hf, hg4, el_group hl (by omega) hn q2 (by omega)] at he
                      obtain ⟨ks, a', nd', pl', l1, l2⟩ := h3 k (by omega) ba _
                      rw [l2, inT (by omega), cond_true, contP, cond_true, rm, cond_true, lvP_end _ _ _ _ _ _ _ _ _ _ _ _ _ _ _ (.inl iv.1)] at he
                      exact ⟨_, a', nd', _, by rw [setSz_len]; omega, he⟩
                    | fine kids a nd' pl' =>
                      dsimp only at e iv
                      rw [pl1] at iv
                      obtain ⟨k2, h2⟩ := ih hh iv.2.1 (by omega) (by rw [setSz_len]; omega) (by rw [ac1]; omega) e
                      refine ⟨k1 + k2 + k3 + 3, fun m hm g hg j hj ba X => ?_⟩
                      obtain ⟨i, k, rfl, hk, he⟩ := st1 m g hg j (by omega) (by omega) ba X
                      have wr1 : IntKind.i64.wrap ((a : Int) - ((at_ + h1 : Nat) : Int)) = (a : Int) - ((at_ + h1 : Nat) : Int) := wr (by omega)
                      have h4 := h3 k (by omega) ba
                      dsimp only at h4
                      rw [hf, hg4, el_group hl (by omega) hn q2 (by omega), h4, inT (by omega), cond_true, contP, cond_true, rm, cond_true, wr1] at he
                      have h5 := h2 m (by omega) g hg i (by omega) ba X
                      cases r with
                      | fine kids a nd' pl' => exact he.trans h5
                      | bad c a =>
                        obtain ⟨ks, a', nd', pl', l1, l2⟩ := h5
                        rw [setSz_len] at l1
                        exact ⟨ks, a', nd', pl', by omega, he.trans l2⟩
    · rw [if_neg lt] at e
      obtain rfl := Option.some.inj e
      refine ⟨1, fun m hm g hg j hj ba X => ?_⟩
      obtain ⟨j, rfl⟩ : ∃ i, j = i + 1 := ⟨j - 1, by omega⟩
      exact lvP_end _ _ _ _ _ _ _ _ _ _ _ _ _ _ _ (.inr (by omega))
/-- The loop over the elements of a holder, as the document does it. -/
noncomputable def lvR {R : Type} (g : Nat → f89_2_T R) (k : Nat) (at_ cnt : Int) (b : List Int) (nd er ea : Int) (pl : List D1) (hid en kn dp : Int) (op : Bool) (acc : List D2) (X : Int → List D2 → List Int → Int → Int → Int → List D1 → Option R) : Option R :=
  f89_2_l3 g k at_ cnt b nd er ea pl hid en kn dp op acc X X
/-- The nearest end that is known. -/
def Ho.kn (h : Ho) : Int := if h.fm = true then (h.en : Int) else -1
/-- More ahead of what was read. -/
def Res.add (ks : List D2) (ps : List D1) : Res → Res
  | .bad c a => .bad c a
  | .fine kids a nd pl => .fine (ks ++ kids) a nd (ps ++ pl)
/-- The plain reading, with what it adds alone. -/
noncomputable def lev2 (b : List Int) : Nat → Ho → Bool → Nat → Nat → Option Res
  | 0, _, _, _, _ => none
  | n + 1, h, first, at_, nd =>
    if at_ < h.en then
      match headR b at_ with
      | .bad c => some (.bad c at_)
      | .ok id hb sz unk =>
        if (h.op && (!free id && !within (rowOf id) h.id)) = true then some (.fine [] at_ nd [])
        else if chkE b h first at_ hb sz unk id ≠ 0 then some (.bad (chkE b h first at_ hb sz unk id) at_)
        else if free id = true then (lev2 b n h false (at_ + hb + sz) nd).map (Res.add [] [plc id at_ hb sz h.dp unk])
        else if 4000 < nd + 1 then some (.bad 2 at_)
        else if (rowOf id).2.2.2.1 = false then (lev2 b n h false (at_ + hb + sz) (nd + 1)).map (Res.add [D2.mk id ((b.drop (at_ + hb)).take sz) [] false] [plc id at_ hb sz h.dp unk])
        else match lev2 b n (h.inner id (at_ + hb + sz) unk) true (at_ + hb) (nd + 1) with
          | some (.fine kids a nd' ps) => (lev2 b n h false a nd').map (Res.add [D2.mk id [] kids true] (plc id at_ hb (a - (at_ + hb)) h.dp unk :: ps))
          | r => r
    else some (.fine [] at_ nd [])
theorem add_add (k1 k2 : List D2) (p1 p2 : List D1) (r : Res) : (r.add k2 p2).add k1 p1 = r.add (k1 ++ k2) (p1 ++ p2) := by
  cases r <;> simp [Res.add]
theorem setSz_mid (pl ps : List D1) (id : Int) (at_ h1 x dp : Nat) (unk : Bool) (n : Nat) : setSz ((pl ++ [plc id at_ h1 x dp unk]) ++ ps) pl.length (n : Int) = pl ++ (plc id at_ h1 n dp unk :: ps) := by
  unfold setSz
  have e : ((pl ++ [plc id at_ h1 x dp unk]) ++ ps).getD pl.length zero1 = plc id at_ h1 x dp unk := by simp [List.getD]
  rw [e]; simp [plc]
theorem lev_rel {b : List Int} (hb : okBy b) : ∀ (n : Nat) {h : Ho} (first : Bool) {at_ : Nat} (nd : Nat) (pl : List D1) (acc : List D2), h.Ok b → at_ ≤ b.length → lev b n h first at_ nd pl acc = (lev2 b n h first at_ nd).map (Res.add acc pl) := by
  intro n
  induction n with
  | zero => intros; rfl
  | succ n ih =>
    intro h first at_ nd pl acc hh hat
    rw [lev, lev2]
    by_cases lt : at_ < h.en
    · rw [if_pos lt, if_pos lt]
      cases hd : headR b at_ with
      | bad c => rfl
      | ok id h1 sz unk =>
        obtain ⟨p1, p2, p3, p4, p5, p6⟩ := head_ok hb hd
        dsimp only
        by_cases st : (h.op && (!free id && !within (rowOf id) h.id)) = true
        · rw [if_pos st, if_pos st]; simp [Res.add]
        · rw [if_neg st, if_neg st]
          by_cases hc : chkE b h first at_ h1 sz unk id ≠ 0
          · rw [if_pos hc, if_pos hc]; rfl
          · rw [if_neg hc, if_neg hc]
            have hc0 : chkE b h first at_ h1 sz unk id = 0 := by simpa using hc
            obtain ⟨q1, q2, q3, q4⟩ := chk_ok hh hc0
            have := hh.1
            have ff : ∀ (k2 : List D2) (p2 : List D1), (Res.add acc pl ∘ Res.add k2 p2) = Res.add (acc ++ k2) (pl ++ p2) := fun k2 p2 => by funext r; exact add_add acc k2 pl p2 r
            by_cases hf : free id = true
            · rw [if_pos hf, if_pos hf, ih _ _ _ _ hh (by omega), Option.map_map, ff, List.append_nil]
            · rw [if_neg hf, if_neg hf]
              by_cases hn : 4000 < nd + 1
              · rw [if_pos hn, if_pos hn]; rfl
              · rw [if_neg hn, if_neg hn]
                by_cases hg : (rowOf id).2.2.2.1 = false
                · rw [if_pos hg, if_pos hg, ih _ _ _ _ hh (by omega), Option.map_map, ff]
                · rw [if_neg hg, if_neg hg]
                  have hin := inner_ok hh (id := id) (unk := unk) q1 q2
                  have hi := ih true (nd + 1) (pl ++ [plc id at_ h1 sz h.dp unk]) [] hin (at_ := at_ + h1) (by omega)
                  rw [hi]
                  cases hr : lev2 b n (h.inner id (at_ + h1 + sz) unk) true (at_ + h1) (nd + 1) with
                  | none => rfl
                  | some r =>
                    rw [hr] at hi
                    cases r with
                    | bad c a => rfl
                    | fine kids a nd' ps =>
                      have iv := lev_inv hb n hin (by omega) hi
                      have wd : ((a : Int) - ((at_ + h1 : Nat) : Int)) = ((a - (at_ + h1) : Nat) : Int) := by
                        have := iv.1; omega
                      dsimp only [Option.map_some, Res.add]
                      rw [ih _ _ _ _ hh iv.2.1, wd, setSz_mid, List.nil_append]
                      rw [Option.map_map, ff]
    · rw [if_neg lt, if_neg lt]; simp [Res.add]
theorem lev2_inv {b : List Int} (hb : okBy b) {n : Nat} {h : Ho} {first : Bool} {at_ nd : Nat} {r : Res} (hh : h.Ok b) (hat : at_ ≤ b.length) (e : lev2 b n h first at_ nd = some r) :
    match r with
    | .bad c a => c ≠ 0 ∧ a < b.length
    | .fine kids a nd' ps => at_ ≤ a ∧ a ≤ b.length ∧ nd ≤ nd' ∧ (nd ≤ 4000 → nd' ≤ 4000) ∧ ps.length + at_ ≤ a ∧ kids.length + at_ ≤ a := by
  have h1 := lev_rel hb n first nd [] [] hh hat
  rw [e] at h1
  have := lev_inv hb n hh hat h1
  cases r with
  | bad c a => exact this
  | fine kids a nd' ps =>
    simp only [Res.add, List.nil_append, List.length_nil] at this
    exact ⟨this.1, this.2.1, this.2.2.1, this.2.2.2.1, by omega, by omega⟩
theorem lev2_some {b : List Int} (hb : okBy b) (n : Nat) {h : Ho} (first : Bool) {at_ : Nat} (nd : Nat) (hh : h.Ok b) (hat : at_ ≤ b.length) (hn : b.length - at_ < n) : ∃ r, lev2 b n h first at_ nd = some r := by
  obtain ⟨r, hr⟩ := lev_some hb n first nd [] [] hh hat hn
  rw [lev_rel hb n first nd [] [] hh hat] at hr
  cases e : lev2 b n h first at_ nd with
  | none => rw [e] at hr; simp at hr
  | some r => exact ⟨r, rfl⟩
/-- What the document reads in a holder. -/
def RdR {R : Type} (b : List Int) (h : Ho) (cnt at_ nd : Nat) (pl : List D1) (acc : List D2) (r : Res) (g : Nat → f89_2_T R) (j : Nat) : Prop :=
  ∀ (ea : Int) (X : Int → List D2 → List Int → Int → Int → Int → List D1 → Option R),
    match r with
    | .fine kids a nd' ps => lvR g j (at_ : Int) (cnt : Int) b (nd : Int) 0 ea pl h.id (h.en : Int) h.kn (h.dp : Int) h.op acc X = X (a : Int) (acc ++ kids) b (nd' : Int) 0 ea (pl ++ ps)
    | .bad c a => (∃ (ks : List D2) (a' nd' : Int) (pl' : List D1), pl.length ≤ pl'.length ∧ lvR g j (at_ : Int) (cnt : Int) b (nd : Int) 0 ea pl h.id (h.en : Int) h.kn (h.dp : Int) h.op acc X = X a' ks b nd' c (a : Int) pl') ∨
      (h.op = true ∧ a < h.en ∧ headR b a = .bad c ∧ ∃ (ks : List D2) (nd' : Int) (pl' : List D1), pl.length ≤ pl'.length ∧ lvR g j (at_ : Int) (cnt : Int) b (nd : Int) 0 ea pl h.id (h.en : Int) h.kn (h.dp : Int) h.op acc X = X (a : Int) ks b nd' 0 ea pl')
theorem RdR.more {R : Type} {b : List Int} {h : Ho} {cnt cnt' at_ at2 nd nd2 : Nat} {pl p : List D1} {acc k : List D2} {r : Res} {g : Nat → f89_2_T R} {j i : Nat} (e : ∀ (ea : Int) (X : Int → List D2 → List Int → Int → Int → Int → List D1 → Option R), lvR g j (at_ : Int) (cnt : Int) b (nd : Int) 0 ea pl h.id (h.en : Int) h.kn (h.dp : Int) h.op acc X = lvR g i (at2 : Int) (cnt' : Int) b (nd2 : Int) 0 ea (pl ++ p) h.id (h.en : Int) h.kn (h.dp : Int) h.op (acc ++ k) X) (h2 : RdR b h cnt' at2 nd2 (pl ++ p) (acc ++ k) r g i) :
    RdR b h cnt at_ nd pl acc (r.add k p) g j := by
  intro ea X
  have h3 := h2 ea X
  cases r with
  | fine kids a nd' ps =>
    simp only [Res.add]
    rw [e, ← List.append_assoc, ← List.append_assoc]; exact h3
  | bad c a =>
    simp only [Res.add]
    rcases h3 with ⟨ks, a', nd', pl', l1, l2⟩ | ⟨o1, o2, o3, ks, nd', pl', l1, l2⟩
    · exact .inl ⟨ks, a', nd', pl', by simp at l1; omega, (e ea X).trans l2⟩
    · exact .inr ⟨o1, o2, o3, ks, nd', pl', by simp at l1; omega, (e ea X).trans l2⟩
theorem D2.ind {P : D2 → Prop} (h : ∀ i d ks g, (∀ x ∈ ks, P x) → P (.mk i d ks g)) : ∀ n, P n := by
  intro n
  refine D2.rec (motive_1 := P) (motive_2 := fun l => ∀ x ∈ l, P x) (fun i d ks g ih => h i d ks g ih) (by simp) (fun a l ha hl => ?_) n
  intro x hx
  rcases List.mem_cons.1 hx with rfl | hx
  · exact ha
  · exact hl x hx
theorem D2.eta (n : D2) : D2.mk n.c0 n.c1 n.c2 n.c3 = n := by cases n; rfl
/-- A tree as it lies in memory. -/
inductive OkN : D2 → Prop
  | mk {i : Int} {d : List Int} {ks : List D2} {g : Bool} : -9223372036854775808 ≤ i ∧ i < 9223372036854775808 → okBy d → d.length ≤ reachBytes → ks.length * 64 ≤ reachBytes → (∀ x ∈ ks, OkN x) → OkN (.mk i d ks g)
def OkL (l : List D2) : Prop := l.length * 64 ≤ reachBytes ∧ ∀ x ∈ l, OkN x
theorem OkN.id {n : D2} (h : OkN n) : -9223372036854775808 ≤ n.c0 ∧ n.c0 < 9223372036854775808 := by cases h; assumption
theorem OkN.by {n : D2} (h : OkN n) : okBy n.c1 := by cases h; assumption
theorem OkN.kids {n : D2} (h : OkN n) : OkL n.c2 := by cases h; exact ⟨by assumption, by assumption⟩
/-- Two fuels, both large. -/
def EvB (p : Nat → Nat → Prop) : Prop := ∃ k0, ∀ q, k0 ≤ q → ∀ j, k0 ≤ j → p q j
theorem EvB.suc {p : Nat → Nat → Prop} (h : EvB fun q j => p q (j + 1)) : EvB p := by
  obtain ⟨a, ha⟩ := h
  refine ⟨a + 1, fun q hq j hj => ?_⟩
  obtain ⟨j, rfl⟩ : ∃ i, j = i + 1 := ⟨j - 1, by omega⟩
  exact ha q (by omega) j (by omega)
theorem EvB.all {p : Nat → Nat → Prop} (h : ∀ q j, p q j) : EvB p := ⟨0, fun q _ j _ => h q j⟩
theorem EvB.imp {p p' : Nat → Nat → Prop} (h : EvB p) (f : ∀ q j, p q j → p' q j) : EvB p' := by
  obtain ⟨a, ha⟩ := h
  exact ⟨a, fun q hq j hj => f q j (ha q hq j hj)⟩
theorem EvB.and {p p' : Nat → Nat → Prop} (h : EvB p) (h' : EvB p') : EvB fun q j => p q j ∧ p' q j := by
  obtain ⟨a, ha⟩ := h
  obtain ⟨b, hb⟩ := h'
  exact ⟨max a b, fun q hq j hj => ⟨ha q (by omega) j (by omega), hb q (by omega) j (by omega)⟩⟩
theorem EvB.left {p : Nat → Prop} (h : Ev p) : EvB fun q _ => p q := by
  obtain ⟨a, ha⟩ := h
  exact ⟨a, fun q hq j _ => ha q hq⟩
theorem EvB.right {p : Nat → Prop} (h : Ev p) : EvB fun _ j => p j := by
  obtain ⟨a, ha⟩ := h
  exact ⟨a, fun q _ j hj => ha j hj⟩
theorem EvB.diag {p : Nat → Nat → Prop} (h : EvB p) : Ev fun k => p k k := by
  obtain ⟨a, ha⟩ := h
  exact ⟨a, fun k hk => ha k hk k hk⟩
theorem EvB.down {p : Nat → Nat → Nat → Prop} (n : Nat) (h0 : EvB (p n)) (hs : ∀ i, i < n → EvB (p (i + 1)) → EvB (p i)) : ∀ i, i ≤ n → EvB (p i) := by
  intro i hi
  obtain ⟨m, rfl⟩ : ∃ m, n = i + m := ⟨n - i, by omega⟩
  clear hi
  induction m generalizing i with
  | zero => exact h0
  | succ m ih => exact hs i (by omega) (ih (i + 1) (by rw [show i + 1 + m = i + (m + 1) by omega]; exact h0) (fun j hj => hs j (by omega)))
def top (b : List Int) : Ho := ⟨0, b.length, false, false, 1⟩
theorem top_ok (b : List Int) : (top b).Ok b := ⟨Nat.le_refl _, fun _ => rfl, by show 1 ≤ 9; decide⟩
/-- What any bytes are read as. -/
noncomputable def parseR (b : List Int) : Res := if 1048576 < b.length then .bad 2 0 else (lev2 b (b.length + 1) (top b) true 0 0).getD (.bad 2 0)
theorem parse_bad {b : List Int} (hb : okBy b) {c : Int} {a : Nat} (h : parseR b = .bad c a) : c ≠ 0 := by
  unfold parseR at h
  split at h
  · simp at h; omega
  · obtain ⟨r, hr⟩ := lev2_some hb (b.length + 1) true 0 (top_ok b) (Nat.zero_le _) (by omega)
    rw [hr] at h
    simp only [Option.getD_some] at h
    subst h
    exact (lev2_inv hb (top_ok b) (Nat.zero_le _) hr).1
theorem f88_eq {R : Type} (k : Nat) (hid en : Int) (fm op : Bool) (dp : Int) (b : List Int) (at_ nd bd ba : Int) (K : List Int → Int → Int → Int → Int → List D2 → List D1 → Option R) :
    f88 k hid en fm op dp b at_ nd bd ba K = lvP (f101_3 (R := R)) k true b at_ nd bd ba [] hid en fm op dp [] (fun ks b at_ nd bd ba pl => K b at_ nd bd ba ks pl) := by kernel_rfl
theorem f55_v (b : List Int) (hb : okBy b) (R : Type) : Ev fun k => ∀ (K : List Int → Int → Int → Int → Int → List D1 → List D2 → Option R), match parseR b with
    | .bad c a => ∃ (a' nd' : Int) (pl : List D1) (ks : List D2), f55 k b K = K b a' nd' c (a : Int) pl ks
    | .fine kids a nd ps => f55 k b K = K b (a : Int) (nd : Int) 0 0 ps kids := by
  unfold parseR
  by_cases h : 1048576 < b.length
  · rw [if_pos h]
    refine .all fun k K => ⟨0, 0, [], [], ?_⟩
    simp only [f55, deT (show (b.length : Int) > 1048576 by omega), cond_true, f87, f56, beq_self_eq_true]; rfl
  · rw [if_neg h]
    obtain ⟨r, hr⟩ := lev2_some hb (b.length + 1) true 0 (top_ok b) (Nat.zero_le _) (by omega)
    have h1 := lev_rel hb (b.length + 1) true 0 [] [] (top_ok b) (Nat.zero_le _)
    rw [hr] at h1 ⊢
    obtain ⟨k0, h0⟩ := prog_lev b hb (by omega) R (b.length + 1) (top_ok b) (Nat.zero_le _) (by omega) (Nat.zero_le _) (Nat.zero_le _) h1
    refine ⟨2 * k0, fun k hk K => ?_⟩
    have h2 := h0 k0 (Nat.le_refl _) f101_3 (fun j hj => ⟨j, hj, rfl⟩) k (by omega) 0 (fun ks b at_ nd bd ba pl => K b at_ nd bd ba pl ks)
    simp only [Option.getD_some]
    simp only [f55, deF (show ¬ (b.length : Int) > 1048576 by omega), cond_false, f88_eq]
    cases r with
    | bad c a =>
      obtain ⟨ks, a', nd', pl', _, l2⟩ := h2
      exact ⟨a', nd', pl', ks, l2⟩
    | fine kids a nd ps => exact h2
theorem f19_v (b : List Int) (hb : okBy b) (R : Type) : Ev fun k => ∀ (K : Int → Int → List D2 → Option R), f19 k b K = match parseR b with
    | .bad c a => K (a : Int) c []
    | .fine kids _ _ _ => K 0 0 kids := by
  refine (f55_v b hb R).imp fun k h K => ?_
  simp only [f19]
  have h := h fun v1 v2 v3 v4 v5 v6 v7 => f56_2 k v1 v2 v3 v4 v5 v6 fun v8 _v9 _v10 _v11 v12 v13 _v14 => bif !v8 then K v13 v12 [] else K 0 0 v7
  cases hp : parseR b with
  | bad c a =>
    rw [hp] at h
    obtain ⟨a', nd', pl, ks, h⟩ := h
    rw [h]
    simp only [f56_2, beF (parse_bad hb hp), Bool.not_false, cond_true]
  | fine kids a nd ps =>
    rw [hp] at h
    dsimp only at h
    rw [h]
    simp only [f56_2, beq_self_eq_true, Bool.not_true, cond_false]
theorem f21_v (b : List Int) (hb : okBy b) (R : Type) : Ev fun k => ∀ (K : Int → Int → List D1 → Option R), f21 k b K = match parseR b with
    | .bad c a => K (a : Int) c []
    | .fine _ _ _ ps => K 0 0 ps := by
  refine (f55_v b hb R).imp fun k h K => ?_
  simp only [f21]
  have h := h fun v1 v2 v3 v4 v5 v6 _v7 => f56_2 k v1 v2 v3 v4 v5 v6 fun v8 _v9 _v10 _v11 v12 v13 v14 => bif !v8 then K v13 v12 [] else K 0 0 v14
  cases hp : parseR b with
  | bad c a =>
    rw [hp] at h
    obtain ⟨a', nd', pl, ks, h⟩ := h
    rw [h]
    simp only [f56_2, beF (parse_bad hb hp), Bool.not_false, cond_true]
  | fine kids a nd ps =>
    rw [hp] at h
    dsimp only at h
    rw [h]
    simp only [f56_2, beq_self_eq_true, Bool.not_true, cond_false]
/-- So many bytes of a number. -/
def beB : Nat → Int → List Int
  | 0, _ => []
  | n + 1, w => beB n (w / 256) ++ [w % 256]
theorem beB_len : ∀ (n : Nat) (w : Int), (beB n w).length = n
  | 0, _ => rfl
  | n + 1, w => by rw [beB, List.length_append, beB_len n]; rfl
theorem beB_ok : ∀ (n : Nat) (w : Int), okBy (beB n w)
  | 0, _ => by intro x hx; simp [beB] at hx
  | n + 1, w => by
    intro x hx
    rw [beB] at hx
    rcases List.mem_append.1 hx with hx | hx
    · exact beB_ok n _ x hx
    · simp at hx; omega
theorem set_drop {out : List Int} {n : Nat} (h : n < out.length) (x : Int) : (out.set n x).drop n = x :: out.drop (n + 1) := by
  rw [List.drop_eq_getElem_cons (by simpa using h)]
  simp [List.drop_set]
theorem f91_loop (R : Type) : ∀ n, n ≤ 1000 → Ev fun k => ∀ (w : Int) (out : List Int) (X : List Int → Option R), n ≤ out.length → f91_l3 k w ((n : Int) - 1) out X = X (beB n w ++ out.drop n)
  | 0, _ => .suc (.all fun k w out X _ => by
    rw [f91_l3, deF (by omega)]; simp [beB])
  | n + 1, hn => by
    refine .suc ((f91_loop R n (by omega)).imp fun k hk w out X ho => ?_)
    have e : ((n + 1 : Nat) : Int) - 1 = (n : Int) := by omega
    rw [e, f91_l3, inb_nat, wr (by omega), wrapU8, shr8]
    simp only [deT (show (n : Int) ≥ 0 by omega), show n < out.length by omega, decide_true, cond_true, Int.toNat_natCast]
    rw [hk _ _ X (by simp; omega), set_drop (by omega), beB, List.append_assoc]; rfl
theorem mk_ok {n : Nat} (hn : n ≤ 1000) : ((decide ((0 : Int) ≤ (n : Int))) && (decide ((n : Int) ≤ (n : Int))) && (decide ((n : Int) * ((1 : Nat) : Int) ≤ 140737488355328))) = true := by
  simp; omega
theorem f91_v (R : Type) {n : Nat} (hn : n ≤ 1000) : Ev fun k => ∀ (w : Int) (K : List Int → Option R), f91 k w (n : Int) K = K (beB n w) :=
  (f91_loop R n hn).imp fun k hk w K => by
    simp only [f91, mk_ok hn, cond_true, Int.toNat_natCast]
    rw [wr (by omega), hk w _ K (by simp)]; simp
def vlFrom : Nat → Nat → Int → Nat
  | 0, n, _ => n
  | f + 1, n, v => if 2 ^ (7 * n) - 1 ≤ v then vlFrom f (n + 1) v else n
/-- How many bytes a number has. -/
def vl (v : Int) : Nat := vlFrom 7 1 v
theorem vlFrom_range : ∀ (f n : Nat) (v : Int), n ≤ vlFrom f n v ∧ vlFrom f n v ≤ n + f
  | 0, n, v => by simp [vlFrom]
  | f + 1, n, v => by
    rw [vlFrom]
    split
    · have := vlFrom_range f (n + 1) v; omega
    · omega
theorem vl_range (v : Int) : 1 ≤ vl v ∧ vl v ≤ 8 := vlFrom_range 7 1 v
def vintW (v : Int) : List Int := beB (vl v) (v + 2 ^ (7 * vl v))
theorem p7 {n : Nat} (h : n ≤ 8) : (2 : Int) ^ (7 * n) ≤ 72057594037927936 := by
  have h2 : (2 : Nat) ^ (7 * n) ≤ 72057594037927936 := Nat.le_trans (Nat.pow_le_pow_right (by decide) (show 7 * n ≤ 56 by omega)) (by decide)
  have e : ((2 ^ (7 * n) : Nat) : Int) = (2 : Int) ^ (7 * n) := Int.natCast_pow 2 (7 * n)
  omega
theorem f52_loop (R : Type) (v : Int) : ∀ f n : Nat, n + f = 8 → 1 ≤ n → Ev fun k => ∀ (X : Int → Int → Option R), f52_l5 k v (n : Int) X = X v (vlFrom f n v : Int)
  | 0, n, h, _ => .suc (.all fun k X => by
    have : n = 8 := by omega
    subst this
    rw [f52_l5]; rfl)
  | f + 1, n, h, h1 => by
    refine .suc ((f52_loop R v f (n + 1) (by omega) (by omega)).imp fun k hk X => ?_)
    rw [f52_l5, ifT (by omega), allN n h1 (by omega), wrapSuc (by omega), vlFrom]
    by_cases c : 2 ^ (7 * n) - 1 ≤ v
    · rw [ifT c, if_pos c, hk]
    · rw [ifF c, if_neg c]
theorem shl1 {n : Nat} (h : 1 ≤ n) (h' : n ≤ 8) : IntKind.i64.wrap (7 * (n : Int)) = 7 * n ∧ decide (IntKind.i64.wrap (7 * (n : Int)) < 0) = false ∧ shlI .u64 1 (IntKind.i64.wrap (7 * (n : Int))) = 2 ^ (7 * n) ∧
    decide (IntKind.u64.wrap (IntKind.i64.wrap (7 * (n : Int))) < 0) = false ∧ shlI .i64 1 (IntKind.u64.wrap (IntKind.i64.wrap (7 * (n : Int)))) = 2 ^ (7 * n) := by
  have : n = 1 ∨ n = 2 ∨ n = 3 ∨ n = 4 ∨ n = 5 ∨ n = 6 ∨ n = 7 ∨ n = 8 := by omega
  rcases this with rfl | rfl | rfl | rfl | rfl | rfl | rfl | rfl <;> decide
theorem f83_v (R : Type) {n : Nat} (h : 1 ≤ n) (h' : n ≤ 8) : Ev fun k => ∀ (v : Int) (K : List Int → Option R), 0 ≤ v → v < 2 ^ (7 * n) → f83 k v (n : Int) K = K (beB n (v + 2 ^ (7 * n))) :=
  (f91_v R (n := n) (by omega)).imp fun k hk v K h0 h1 => by
    obtain ⟨a1, a2, a3, _, _⟩ := shl1 h h'
    simp only [f83, a2, cond_false, a3]
    rw [or_add h0 h1 (by omega), hk]
theorem f52_all (R : Type) (v : Int) : Ev fun k => ∀ (K : Int → List Int → Option R), f52 k v 0 K = if v < 0 ∨ 2 ^ (7 * vl v) - 1 ≤ v then K 1 [] else K 0 (vintW v) := by
  have vr := vl_range v
  refine (f52_loop R v 7 1 (by omega) (by omega)).imp2 (f83_v R vr.1 vr.2) fun k hl hm K => ?_
  have z : ((0 : Int) == 0) = true := rfl
  have z0 : decide ((0 : Int) < 0) = false := rfl
  have z8 : decide ((0 : Int) > 8) = false := rfl
  by_cases c : v < 0
  · rw [if_pos (.inl c)]
    simp only [f52, z0, z8, cond_false, deT c, cond_true]
  · simp only [f52, z0, z8, cond_false, deF c, z, cond_true]
    rw [show (1 : Int) = ((1 : Nat) : Int) from rfl, hl]
    show f82 k (vl v : Int) _ = _
    rw [allN (vl v) vr.1 vr.2]
    by_cases d : 2 ^ (7 * vl v) - 1 ≤ v
    · rw [ifT d, if_pos (.inr d)]
    · have pp := p7 vr.2
      rw [ifF d, if_neg (by omega), wrU (by omega)]
      show f83 k v (vl v : Int) _ = _
      rw [hm v _ (by omega) (by omega)]; rfl
instance (v : Int) (n : Nat) : Decidable (Marked v n) := inferInstanceAs (Decidable (_ ∧ _))
def idN (id : Int) : Nat := if isIdB id 1 = true then 1 else if isIdB id 2 = true then 2 else if isIdB id 3 = true then 3 else if isIdB id 4 = true then 4 else 0
theorem idN_le (id : Int) : idN id ≤ 4 := by 
  unfold idN
  repeat' split
  all_goals omega
theorem isId_lt {id : Int} {n : Nat} (h4 : n ≤ 4) (h : isIdB id n = true) : Marked id n ∧ 0 ≤ id ∧ id < 1073741824 := by
  unfold isIdB at h
  have h := of_decide_eq_true h
  have hp : (0 : Int) < 2 ^ (7 * n) := Int.pow_pos (by decide)
  have pp : (2 : Int) ^ (7 * n) ≤ 268435456 := by
    have h2 : (2 : Nat) ^ (7 * n) ≤ 268435456 := Nat.le_trans (Nat.pow_le_pow_right (by decide) (show 7 * n ≤ 28 by omega)) (by decide)
    have e : ((2 ^ (7 * n) : Nat) : Int) = (2 : Int) ^ (7 * n) := Int.natCast_pow 2 (7 * n)
    omega
  exact ⟨⟨by omega, by omega⟩, by omega, by omega⟩
theorem shr_mark {id : Int} {n : Nat} (h1 : 1 ≤ n) (h4 : n ≤ 4) : decide (IntKind.i64.wrap (7 * (n : Int)) < 0) = false ∧ (shrI .i64 id (IntKind.i64.wrap (7 * (n : Int))) == 1) = decide (Marked id n) := by
  have key : ∀ p : Nat, 0 < p → ((id.fdiv (p : Int) == 1) = decide ((p : Int) ≤ id ∧ id < 2 * (p : Int))) := by
    intro p hp
    rw [beq_dec, Int.fdiv_eq_ediv_of_nonneg _ (by omega)]
    congr 1
    apply propext
    constructor
    · intro h
      have h1 := Int.mul_ediv_add_emod id (p : Int)
      have h2 := Int.emod_nonneg id (show (p : Int) ≠ 0 by omega)
      have h3 := Int.emod_lt_of_pos id (show (0 : Int) < p by omega)
      rw [h] at h1; omega
    · rintro ⟨a, b⟩
      refine Int.le_antisymm ?_ ?_
      · have : id / (p : Int) < 2 := Int.ediv_lt_of_lt_mul (by omega) b
        omega
      · exact Int.le_ediv_of_mul_le (by omega) (by omega)
  have : n = 1 ∨ n = 2 ∨ n = 3 ∨ n = 4 := by omega
  unfold Marked
  rcases this with rfl | rfl | rfl | rfl
  · exact ⟨by decide, key 128 (by decide)⟩
  · exact ⟨by decide, key 16384 (by decide)⟩
  · exact ⟨by decide, key 2097152 (by decide)⟩
  · exact ⟨by decide, key 268435456 (by decide)⟩
theorem f61_v (R : Type) {n : Nat} (h1 : 1 ≤ n) (h4 : n ≤ 4) {id : Int} (h : isIdB id n = true) : Ev fun k => ∀ (K : Int → List Int → Option R), f61 k id (n : Int) K = K 0 (beB n id) := by
  obtain ⟨m, l1, l2⟩ := isId_lt h4 h
  refine (f91_v R (n := n) (by omega)).imp fun k hk K => ?_
  have sh : decide (IntKind.i64.wrap (8 * (n : Int)) < 0) = false ∧ decide (shrI .i64 id (IntKind.i64.wrap (8 * (n : Int))) > 0) = false := by
    have key : ∀ p : Nat, id < p → decide (id.fdiv (p : Int) > 0) = false := by
      intro p hp
      rw [Int.fdiv_eq_ediv_of_nonneg _ (by omega), Int.ediv_eq_zero_of_lt l1 hp]; rfl
    have m2 := m.2
    have : n = 1 ∨ n = 2 ∨ n = 3 ∨ n = 4 := by omega
    rcases this with rfl | rfl | rfl | rfl
    · exact ⟨by decide, key 256 (by simp at m2; omega)⟩
    · exact ⟨by decide, key 65536 (by simp at m2; omega)⟩
    · exact ⟨by decide, key 16777216 (by simp at m2; omega)⟩
    · exact ⟨by decide, key 4294967296 (by simp at m2; omega)⟩
  simp (disch := omega) only [f61, deF, deT, cond_false, cond_true, sh.1, sh.2, wrU, hk]
theorem f27_v (R : Type) (id : Int) : Ev fun k => ∀ (K : Int → List Int → Option R), f27 k id K = if idN id = 0 then K 40 [] else K 0 (beB (idN id) id) := by
  -- a round
  have step : ∀ n, 1 ≤ n → n ≤ 4 → ∀ r : (Option R) → (Int → List Int → Option R) → Option R, (Ev fun k => ∀ X0 X1, f27_l2 k id ((n + 1 : Nat) : Int) X0 X1 = r X0 X1) → Ev fun k => ∀ X0 X1, f27_l2 k id (n : Int) X0 X1 = if isIdB id n = true then X1 0 (beB n id) else r X0 X1 := by
    intro n h1 h4 r h
    obtain ⟨s1, s2⟩ := shr_mark (id := id) h1 h4
    by_cases c : isIdB id n = true
    · refine .suc ((f61_v R h1 h4 c).imp fun k hk X0 X1 => ?_)
      rw [if_pos c, f27_l2, ifT (by omega), s1, s2, deT (isId_lt h4 c).1]
      simp only [cond_true, cond_false, f60_v h1 h4 (isId_lt h4 c).1, c, hk]
    · refine .suc (h.imp fun k hk X0 X1 => ?_)
      rw [if_neg c, f27_l2, ifT (by omega), s1, s2, wrapSuc (by omega)]
      by_cases m : Marked id n
      · have c : isIdB id n = false := by simpa using c
        rw [deT m]
        simp only [cond_true, cond_false, f60_v h1 h4 m, c, hk]
      · rw [deF m]
        simp only [cond_false, hk]
  have e5 : Ev fun k => ∀ (X0 : Option R) (X1 : Int → List Int → Option R), f27_l2 k id ((4 + 1 : Nat) : Int) X0 X1 = X0 := .suc (.all fun k X0 X1 => by rw [f27_l2]; rfl)
  refine (step 1 (by omega) (by omega) _ (step 2 (by omega) (by omega) _ (step 3 (by omega) (by omega) _ (step 4 (by omega) (by omega) (fun X0 _ => X0) e5)))).imp fun k hk K => ?_
  rw [f27, show (1 : Int) = ((1 : Nat) : Int) from rfl, hk]
  unfold idN
  by_cases c1 : isIdB id 1 = true
  · simp [c1]
  · by_cases c2 : isIdB id 2 = true
    · simp [c1, c2]
    · by_cases c3 : isIdB id 3 = true
      · simp [c1, c2, c3]
      · by_cases c4 : isIdB id 4 = true
        · simp [c1, c2, c3, c4]
        · simp [c1, c2, c3, c4]
mutual
/-- Is some node as it is asked for? -/
def anyN (p : D2 → Int → Int → Bool) : D2 → Int → Int → Bool
  | .mk i d ks g, par, dp => p (.mk i d ks g) par dp || anyL p ks i (IntKind.i64.wrap (dp + 1))
def anyL (p : D2 → Int → Int → Bool) : List D2 → Int → Int → Bool
  | [], _, _ => false
  | x :: l, par, dp => anyN p x par dp || anyL p l par dp
end
theorem anyN_eta (p : D2 → Int → Int → Bool) (n : D2) (par dp : Int) : anyN p n par dp = (p n par dp || anyL p n.c2 n.c0 (IntKind.i64.wrap (dp + 1))) := by
  cases n; rw [anyN]; rfl
noncomputable def formP (n : D2) (_ _ : Int) : Bool := !known n.c0 || (decide ((rowOf n.c0).2.2.1 < 0) || (!((rowOf n.c0).2.2.2.1 == n.c3) || ((!n.c3 && decide ((n.c2.length : Int) > 0)) || (n.c3 && decide ((n.c1.length : Int) > 0)))))
noncomputable def parP (n : D2) (par _ : Int) : Bool := !within (rowOf n.c0) par
def deepP (_ : D2) (_ dp : Int) : Bool := decide (dp > 8)
theorem f66_v (R : Type) (n : D2) (par dp : Int) : Ev fun k => ∀ (K : Bool → Option R), f66 k n.c0 n.c1 n.c2 n.c3 par dp K = K (formP n par dp) :=
  (f25_v n.c0 R).imp fun k hk K => by
    simp only [f66, hk, formP]
    cases known n.c0 with
    | false => rfl
    | true =>
      cases decide ((rowOf n.c0).2.2.1 < 0) with
      | true => rfl
      | false =>
        cases (rowOf n.c0).2.2.2.1 == n.c3 with
        | false => rfl
        | true =>
          cases n.c3 with
          | true => rfl
          | false => cases decide ((n.c2.length : Int) > 0) <;> rfl
theorem f67_v (R : Type) (n : D2) (par dp : Int) : Ev fun k => ∀ (K : Bool → Option R), f67 k n.c0 n.c1 n.c2 n.c3 par dp K = K (parP n par dp) :=
  (f25_v n.c0 R).imp fun k hk K => by
    simp only [f67, hk, f68_v, parP]
theorem f70_v (R : Type) (n : D2) (par dp : Int) : Ev fun k => ∀ (K : Bool → Option R), f70 k n.c0 n.c1 n.c2 n.c3 par dp K = K (deepP n par dp) := .all fun k K => rfl
theorem f73_2_loop (R : Type) (l : List D2) (hb : l.length * 64 ≤ reachBytes) (par dp : Int) (h : ∀ i (h : i < l.length), Ev fun k => ∀ (K : Bool → Int → Int → Option R), f93_2 k l[i].c0 l[i].c1 l[i].c2 l[i].c3 par dp K = K (anyN formP l[i] par dp) par dp) :
    ∀ i, i ≤ l.length → EvB fun q j => ∀ (X0 : Int → Int → Option R) (X1 : Int → Int → Int → Option R), (∃ m : Nat, f73_2_l2 (fun _ => f93_2 q) j l (l.length : Int) (i : Int) par dp X0 X1 = X1 (m : Int) par dp ∧ anyL formP (l.drop i) par dp = true) ∨ (f73_2_l2 (fun _ => f93_2 q) j l (l.length : Int) (i : Int) par dp X0 X1 = X0 par dp ∧ anyL formP (l.drop i) par dp = false) := by
  rw [reachV] at hb
  refine EvB.down l.length ?_ ?_
  · refine EvB.suc (.all fun q j X0 X1 => .inr ⟨?_, ?_⟩)
    · rw [f73_2_l2, ifF (by omega)]
    · rw [List.drop_length, anyL]
  · intro i hi ih
    refine EvB.suc ((ih.and (.left (h i hi))).imp fun q j hk X0 X1 => ?_)
    obtain ⟨hk, h93⟩ := hk
    rw [List.drop_eq_getElem_cons hi, anyL, f73_2_l2, lt_nat, inb_nat, wrapSuc (by omega)]
    simp only [hi, decide_true, cond_true, Int.toNat_natCast, getD_get hi, h93]
    cases anyN formP l[i] par dp with
    | true => exact .inl ⟨i, rfl, rfl⟩
    | false => simp only [cond_false, Bool.false_or]; exact hk X0 X1
theorem f69_list (R : Type) (l : List D2) (hb : l.length * 64 ≤ reachBytes) (h : ∀ x ∈ l, OkN x → ∀ par dp : Int, Ev fun k => ∀ (K : Bool → Option R), f69 k x.c2 par dp K = K (anyL formP x.c2 par dp)) (ho : ∀ x ∈ l, OkN x) (par dp : Int) :
    Ev fun k => ∀ (K : Bool → Option R), f69 k l par dp K = K (anyL formP l par dp) := by
  have each : ∀ i (h : i < l.length), Ev fun k => ∀ (K : Bool → Int → Int → Option R), f93_2 k l[i].c0 l[i].c1 l[i].c2 l[i].c3 par dp K = K (anyN formP l[i] par dp) par dp := by
    intro i hi
    refine .suc ((f66_v R l[i] par dp).imp2 (h _ (List.getElem_mem hi) (ho _ (List.getElem_mem hi)) l[i].c0 (IntKind.i64.wrap (dp + 1))) fun k h1 h2 K => ?_)
    rw [f93_2_step, f93_2_s, h1, anyN_eta]
    cases formP l[i] par dp with
    | true => rfl
    | false => simp only [cond_false, h2, Bool.false_or]
  refine .suc (.suc (.suc ((f73_2_loop R l hb par dp each 0 (by omega)).diag.imp fun k hk K => ?_)))
  rw [f69_step, f69_s, f92_2_step, f92_2_s, f73_2_step, f73_2_s]
  simp only [Int.natCast_zero, List.drop_zero] at hk
  rcases hk (fun v9 v10 => (fun (v1 v2 v3 : Int) => (fun v1 _v2 _v3 => K v1) (decide (v1 ≥ 0)) v2 v3) (-1) v9 v10) (fun (v1 v2 v3 : Int) => (fun v1 _v2 _v3 => K v1) (decide (v1 ≥ 0)) v2 v3) with ⟨m, e1, e2⟩ | ⟨e1, e2⟩
  · refine e1.trans ?_
    rw [e2]; simp only [deT (show (m : Int) ≥ 0 by omega)]
  · refine e1.trans ?_
    rw [e2]; rfl
theorem f69_v (R : Type) {l : List D2} (hl : OkL l) (par dp : Int) : Ev fun k => ∀ (K : Bool → Option R), f69 k l par dp K = K (anyL formP l par dp) := by
  have key : ∀ n : D2, OkN n → ∀ par dp : Int, Ev fun k => ∀ (K : Bool → Option R), f69 k n.c2 par dp K = K (anyL formP n.c2 par dp) := by
    intro n
    refine D2.ind (P := fun n => OkN n → ∀ par dp : Int, Ev fun k => ∀ (K : Bool → Option R), f69 k n.c2 par dp K = K (anyL formP n.c2 par dp)) (fun i d ks g ih ho par dp => ?_) n
    exact f69_list R ks ho.kids.1 ih ho.kids.2 par dp
  exact f69_list R l hl.1 (fun x _ => key x) hl.2 par dp
theorem f73_4_loop (R : Type) (l : List D2) (hb : l.length * 64 ≤ reachBytes) (par dp : Int) (h : ∀ i (h : i < l.length), Ev fun k => ∀ (K : Bool → Int → Int → Option R), f93_4 k l[i].c0 l[i].c1 l[i].c2 l[i].c3 par dp K = K (anyN parP l[i] par dp) par dp) :
    ∀ i, i ≤ l.length → EvB fun q j => ∀ (X0 : Int → Int → Option R) (X1 : Int → Int → Int → Option R), (∃ m : Nat, f73_4_l2 (fun _ => f93_4 q) j l (l.length : Int) (i : Int) par dp X0 X1 = X1 (m : Int) par dp ∧ anyL parP (l.drop i) par dp = true) ∨ (f73_4_l2 (fun _ => f93_4 q) j l (l.length : Int) (i : Int) par dp X0 X1 = X0 par dp ∧ anyL parP (l.drop i) par dp = false) := by
  rw [reachV] at hb
  refine EvB.down l.length ?_ ?_
  · refine EvB.suc (.all fun q j X0 X1 => .inr ⟨?_, ?_⟩)
    · rw [f73_4_l2, ifF (by omega)]
    · rw [List.drop_length, anyL]
  · intro i hi ih
    refine EvB.suc ((ih.and (.left (h i hi))).imp fun q j hk X0 X1 => ?_)
    obtain ⟨hk, h93⟩ := hk
    rw [List.drop_eq_getElem_cons hi, anyL, f73_4_l2, lt_nat, inb_nat, wrapSuc (by omega)]
    simp only [hi, decide_true, cond_true, Int.toNat_natCast, getD_get hi, h93]
    cases anyN parP l[i] par dp with
    | true => exact .inl ⟨i, rfl, rfl⟩
    | false => simp only [cond_false, Bool.false_or]; exact hk X0 X1
theorem f69_2_list (R : Type) (l : List D2) (hb : l.length * 64 ≤ reachBytes) (h : ∀ x ∈ l, OkN x → ∀ par dp : Int, Ev fun k => ∀ (K : Bool → Option R), f69_2 k x.c2 par dp K = K (anyL parP x.c2 par dp)) (ho : ∀ x ∈ l, OkN x) (par dp : Int) :
    Ev fun k => ∀ (K : Bool → Option R), f69_2 k l par dp K = K (anyL parP l par dp) := by
  have each : ∀ i (h : i < l.length), Ev fun k => ∀ (K : Bool → Int → Int → Option R), f93_4 k l[i].c0 l[i].c1 l[i].c2 l[i].c3 par dp K = K (anyN parP l[i] par dp) par dp := by
    intro i hi
    refine .suc ((f67_v R l[i] par dp).imp2 (h _ (List.getElem_mem hi) (ho _ (List.getElem_mem hi)) l[i].c0 (IntKind.i64.wrap (dp + 1))) fun k h1 h2 K => ?_)
    rw [f93_4_step, f93_4_s, h1, anyN_eta]
    cases parP l[i] par dp with
    | true => rfl
    | false => simp only [cond_false, h2, Bool.false_or]
  refine .suc (.suc (.suc ((f73_4_loop R l hb par dp each 0 (by omega)).diag.imp fun k hk K => ?_)))
  rw [f69_2_step, f69_2_s, f92_4_step, f92_4_s, f73_4_step, f73_4_s]
  simp only [Int.natCast_zero, List.drop_zero] at hk
  rcases hk (fun v9 v10 => (fun (v1 v2 v3 : Int) => (fun v1 _v2 _v3 => K v1) (decide (v1 ≥ 0)) v2 v3) (-1) v9 v10) (fun (v1 v2 v3 : Int) => (fun v1 _v2 _v3 => K v1) (decide (v1 ≥ 0)) v2 v3) with ⟨m, e1, e2⟩ | ⟨e1, e2⟩
  · refine e1.trans ?_
    rw [e2]; simp only [deT (show (m : Int) ≥ 0 by omega)]
  · refine e1.trans ?_
    rw [e2]; rfl
theorem f69_2_v (R : Type) {l : List D2} (hl : OkL l) (par dp : Int) : Ev fun k => ∀ (K : Bool → Option R), f69_2 k l par dp K = K (anyL parP l par dp) := by
  have key : ∀ n : D2, OkN n → ∀ par dp : Int, Ev fun k => ∀ (K : Bool → Option R), f69_2 k n.c2 par dp K = K (anyL parP n.c2 par dp) := by
    intro n
    refine D2.ind (P := fun n => OkN n → ∀ par dp : Int, Ev fun k => ∀ (K : Bool → Option R), f69_2 k n.c2 par dp K = K (anyL parP n.c2 par dp)) (fun i d ks g ih ho par dp => ?_) n
    exact f69_2_list R ks ho.kids.1 ih ho.kids.2 par dp
  exact f69_2_list R l hl.1 (fun x _ => key x) hl.2 par dp
theorem f73_6_loop (R : Type) (l : List D2) (hb : l.length * 64 ≤ reachBytes) (par dp : Int) (h : ∀ i (h : i < l.length), Ev fun k => ∀ (K : Bool → Int → Int → Option R), f93_6 k l[i].c0 l[i].c1 l[i].c2 l[i].c3 par dp K = K (anyN deepP l[i] par dp) par dp) :
    ∀ i, i ≤ l.length → EvB fun q j => ∀ (X0 : Int → Int → Option R) (X1 : Int → Int → Int → Option R), (∃ m : Nat, f73_6_l2 (fun _ => f93_6 q) j l (l.length : Int) (i : Int) par dp X0 X1 = X1 (m : Int) par dp ∧ anyL deepP (l.drop i) par dp = true) ∨ (f73_6_l2 (fun _ => f93_6 q) j l (l.length : Int) (i : Int) par dp X0 X1 = X0 par dp ∧ anyL deepP (l.drop i) par dp = false) := by
  rw [reachV] at hb
  refine EvB.down l.length ?_ ?_
  · refine EvB.suc (.all fun q j X0 X1 => .inr ⟨?_, ?_⟩)
    · rw [f73_6_l2, ifF (by omega)]
    · rw [List.drop_length, anyL]
  · intro i hi ih
    refine EvB.suc ((ih.and (.left (h i hi))).imp fun q j hk X0 X1 => ?_)
    obtain ⟨hk, h93⟩ := hk
    rw [List.drop_eq_getElem_cons hi, anyL, f73_6_l2, lt_nat, inb_nat, wrapSuc (by omega)]
    simp only [hi, decide_true, cond_true, Int.toNat_natCast, getD_get hi, h93]
    cases anyN deepP l[i] par dp with
    | true => exact .inl ⟨i, rfl, rfl⟩
    | false => simp only [cond_false, Bool.false_or]; exact hk X0 X1
theorem f69_3_list (R : Type) (l : List D2) (hb : l.length * 64 ≤ reachBytes) (h : ∀ x ∈ l, OkN x → ∀ par dp : Int, Ev fun k => ∀ (K : Bool → Option R), f69_3 k x.c2 par dp K = K (anyL deepP x.c2 par dp)) (ho : ∀ x ∈ l, OkN x) (par dp : Int) :
    Ev fun k => ∀ (K : Bool → Option R), f69_3 k l par dp K = K (anyL deepP l par dp) := by
  have each : ∀ i (h : i < l.length), Ev fun k => ∀ (K : Bool → Int → Int → Option R), f93_6 k l[i].c0 l[i].c1 l[i].c2 l[i].c3 par dp K = K (anyN deepP l[i] par dp) par dp := by
    intro i hi
    refine .suc ((f70_v R l[i] par dp).imp2 (h _ (List.getElem_mem hi) (ho _ (List.getElem_mem hi)) l[i].c0 (IntKind.i64.wrap (dp + 1))) fun k h1 h2 K => ?_)
    rw [f93_6_step, f93_6_s, h1, anyN_eta]
    cases deepP l[i] par dp with
    | true => rfl
    | false => simp only [cond_false, h2, Bool.false_or]
  refine .suc (.suc (.suc ((f73_6_loop R l hb par dp each 0 (by omega)).diag.imp fun k hk K => ?_)))
  rw [f69_3_step, f69_3_s, f92_6_step, f92_6_s, f73_6_step, f73_6_s]
  simp only [Int.natCast_zero, List.drop_zero] at hk
  rcases hk (fun v9 v10 => (fun (v1 v2 v3 : Int) => (fun v1 _v2 _v3 => K v1) (decide (v1 ≥ 0)) v2 v3) (-1) v9 v10) (fun (v1 v2 v3 : Int) => (fun v1 _v2 _v3 => K v1) (decide (v1 ≥ 0)) v2 v3) with ⟨m, e1, e2⟩ | ⟨e1, e2⟩
  · refine e1.trans ?_
    rw [e2]; simp only [deT (show (m : Int) ≥ 0 by omega)]
  · refine e1.trans ?_
    rw [e2]; rfl
theorem f69_3_v (R : Type) {l : List D2} (hl : OkL l) (par dp : Int) : Ev fun k => ∀ (K : Bool → Option R), f69_3 k l par dp K = K (anyL deepP l par dp) := by
  have key : ∀ n : D2, OkN n → ∀ par dp : Int, Ev fun k => ∀ (K : Bool → Option R), f69_3 k n.c2 par dp K = K (anyL deepP n.c2 par dp) := by
    intro n
    refine D2.ind (P := fun n => OkN n → ∀ par dp : Int, Ev fun k => ∀ (K : Bool → Option R), f69_3 k n.c2 par dp K = K (anyL deepP n.c2 par dp)) (fun i d ks g ih ho par dp => ?_) n
    exact f69_3_list R ks ho.kids.1 ih ho.kids.2 par dp
  exact f69_3_list R l hl.1 (fun x _ => key x) hl.2 par dp
mutual
def cntN : D2 → Int → Bool × Int
  | .mk _ _ ks _, c => if IntKind.i64.wrap (c + 1) > 4000 then (true, IntKind.i64.wrap (c + 1)) else cntL ks (IntKind.i64.wrap (c + 1))
def cntL : List D2 → Int → Bool × Int
  | [], c => (false, c)
  | x :: l, c => match cntN x c with
    | (true, c) => (true, c)
    | (false, c) => cntL l c
end
theorem cntN_eta (n : D2) (c : Int) : cntN n c = if IntKind.i64.wrap (c + 1) > 4000 then (true, IntKind.i64.wrap (c + 1)) else cntL n.c2 (IntKind.i64.wrap (c + 1)) := by
  cases n; rw [cntN]; rfl
mutual
def nodesN : D2 → Nat
  | .mk _ _ ks _ => 1 + nodesL ks
def nodesL : List D2 → Nat
  | [] => 0
  | x :: l => nodesN x + nodesL l
end
def CntOk (r : Bool × Int) (c n : Nat) : Prop := (4000 < c + n → r.1 = true) ∧ (¬ 4000 < c + n → r = (false, ((c + n : Nat) : Int)))
theorem cnt_list : ∀ (l : List D2), (∀ x ∈ l, ∀ c : Nat, c ≤ 4000 → CntOk (cntN x c) c (nodesN x)) → ∀ c : Nat, c ≤ 4000 → CntOk (cntL l c) c (nodesL l)
  | [], _, c, hc => by
    rw [cntL, nodesL]
    exact ⟨fun h => by omega, fun _ => rfl⟩
  | x :: l, h, c, hc => by
    have h1 := h x (by simp) c hc
    rw [cntL, nodesL]
    by_cases a : 4000 < c + nodesN x
    · have := h1.1 a
      cases hc : cntN x c with
      | mk b c' =>
        rw [hc] at this
        cases this
        exact ⟨fun _ => rfl, fun h => by omega⟩
    · rw [h1.2 a]
      have h2 := cnt_list l (fun y hy => h y (by simp [hy])) (c + nodesN x) (by omega)
      dsimp only
      refine ⟨fun h => h2.1 (by omega), fun h => ?_⟩
      rw [h2.2 (by omega), Nat.add_assoc]
theorem cnt_node (n : D2) : ∀ c : Nat, c ≤ 4000 → CntOk (cntN n c) c (nodesN n) := by
  refine D2.ind (P := fun n => ∀ c : Nat, c ≤ 4000 → CntOk (cntN n c) c (nodesN n)) (fun i d ks g ih c hc => ?_) n
  rw [cntN, nodesN, wrapSuc (by omega)]
  by_cases a : ((c + 1 : Nat) : Int) > 4000
  · rw [if_pos a]
    exact ⟨fun _ => rfl, fun h => by omega⟩
  · rw [if_neg a]
    have := cnt_list ks ih (c + 1) (by omega)
    exact ⟨fun h => this.1 (by omega), fun h => by rw [this.2 (by omega), Nat.add_assoc]⟩
theorem cntL_v (l : List D2) : (cntL l 0).1 = decide (4000 < nodesL l) := by
  have := cnt_list l (fun x _ => cnt_node x) 0 (by omega)
  by_cases a : 4000 < nodesL l
  · have h := this.1 (by omega)
    rw [deT a]; exact h
  · have h := this.2 (by omega)
    rw [deF a]
    have h : cntL l 0 = _ := h
    rw [h]
theorem f73_8_loop (R : Type) (l : List D2) (hb : l.length * 64 ≤ reachBytes) (par dp : Int) (h : ∀ i (h : i < l.length), Ev fun k => ∀ (c : Int) (K : Bool → Int → Int → Int → Option R), f93_8 k l[i].c0 l[i].c1 l[i].c2 l[i].c3 c par dp K = K (cntN l[i] c).1 (cntN l[i] c).2 par dp) :
    ∀ i, i ≤ l.length → EvB fun q j => ∀ (c : Int) (X0 : Int → Int → Int → Option R) (X1 : Int → Int → Int → Int → Option R), (∃ m : Nat, f73_8_l2 (fun _ => f93_8 q) j l (l.length : Int) (i : Int) c par dp X0 X1 = X1 (m : Int) (cntL (l.drop i) c).2 par dp ∧ (cntL (l.drop i) c).1 = true) ∨ (f73_8_l2 (fun _ => f93_8 q) j l (l.length : Int) (i : Int) c par dp X0 X1 = X0 (cntL (l.drop i) c).2 par dp ∧ (cntL (l.drop i) c).1 = false) := by
  rw [reachV] at hb
  refine EvB.down l.length ?_ ?_
  · refine EvB.suc (.all fun q j c X0 X1 => .inr ⟨?_, ?_⟩)
    · rw [f73_8_l2, ifF (by omega), List.drop_length, cntL]
    · rw [List.drop_length, cntL]
  · intro i hi ih
    refine EvB.suc ((ih.and (.left (h i hi))).imp fun q j hk c X0 X1 => ?_)
    obtain ⟨hk, h93⟩ := hk
    rw [List.drop_eq_getElem_cons hi, cntL, f73_8_l2, lt_nat, inb_nat, wrapSuc (by omega)]
    simp only [hi, decide_true, cond_true, Int.toNat_natCast, getD_get hi, h93]
    cases hc : cntN l[i] c with
    | mk b c' =>
      cases b with
      | true => exact .inl ⟨i, rfl, rfl⟩
      | false => simp only [cond_false]; exact hk c' X0 X1
theorem f69_4_list (R : Type) (l : List D2) (hb : l.length * 64 ≤ reachBytes) (h : ∀ x ∈ l, OkN x → ∀ par dp : Int, Ev fun k => ∀ (c : Int) (K : Bool → Int → Option R), f69_4 k x.c2 par dp c K = K (cntL x.c2 c).1 (cntL x.c2 c).2) (ho : ∀ x ∈ l, OkN x) (par dp : Int) :
    Ev fun k => ∀ (c : Int) (K : Bool → Int → Option R), f69_4 k l par dp c K = K (cntL l c).1 (cntL l c).2 := by
  have each : ∀ i (h : i < l.length), Ev fun k => ∀ (c : Int) (K : Bool → Int → Int → Int → Option R), f93_8 k l[i].c0 l[i].c1 l[i].c2 l[i].c3 c par dp K = K (cntN l[i] c).1 (cntN l[i] c).2 par dp := by
    intro i hi
    refine .suc ((h _ (List.getElem_mem hi) (ho _ (List.getElem_mem hi)) l[i].c0 (IntKind.i64.wrap (dp + 1))).imp fun k h2 c K => ?_)
    rw [f93_8_step, f93_8_s, f71, cntN_eta]
    by_cases a : IntKind.i64.wrap (c + 1) > 4000
    · rw [deT a, if_pos a]; rfl
    · rw [deF a, if_neg a]
      simp only [cond_false, h2]
  refine .suc (.suc (.suc ((f73_8_loop R l hb par dp each 0 (by omega)).diag.imp fun k hk c K => ?_)))
  rw [f69_4_step, f69_4_s, f92_8_step, f92_8_s, f73_8_step, f73_8_s]
  simp only [Int.natCast_zero, List.drop_zero] at hk
  rcases hk c (fun v11 v12 v13 => (fun (v1 v2 v3 v4 : Int) => (fun v1 v2 _v3 _v4 => K v1 v2) (decide (v1 ≥ 0)) v2 v3 v4) (-1) v11 v12 v13) (fun (v1 v2 v3 v4 : Int) => (fun v1 v2 _v3 _v4 => K v1 v2) (decide (v1 ≥ 0)) v2 v3 v4) with ⟨m, e1, e2⟩ | ⟨e1, e2⟩
  · refine e1.trans ?_
    rw [e2]; simp only [deT (show (m : Int) ≥ 0 by omega)]
  · refine e1.trans ?_
    rw [e2]; rfl
theorem f69_4_v (R : Type) {l : List D2} (hl : OkL l) (par dp : Int) : Ev fun k => ∀ (c : Int) (K : Bool → Int → Option R), f69_4 k l par dp c K = K (cntL l c).1 (cntL l c).2 := by
  have key : ∀ n : D2, OkN n → ∀ par dp : Int, Ev fun k => ∀ (c : Int) (K : Bool → Int → Option R), f69_4 k n.c2 par dp c K = K (cntL n.c2 c).1 (cntL n.c2 c).2 := by
    intro n
    refine D2.ind (P := fun n => OkN n → ∀ par dp : Int, Ev fun k => ∀ (c : Int) (K : Bool → Int → Option R), f69_4 k n.c2 par dp c K = K (cntL n.c2 c).1 (cntL n.c2 c).2) (fun i d ks g ih ho par dp => ?_) n
    exact f69_4_list R ks ho.kids.1 ih ho.kids.2 par dp
  exact f69_4_list R l hl.1 (fun x _ => key x) hl.2 par dp
/-- The first error of a tree. -/
noncomputable def checkR (l : List D2) : Int := bif anyL formP l 0 1 then 4 else bif anyL parP l 0 1 then 42 else bif anyL deepP l 0 1 then 43 else bif decide (4000 < nodesL l) then 2 else 0
theorem f37_v (R : Type) {l : List D2} (hl : OkL l) : Ev fun k => ∀ (K : Int → Option R), f37 k l K = K (checkR l) := by
  refine (f69_v R hl 0 1).imp4 (f69_2_v R hl 0 1) (f69_3_v R hl 0 1) (f69_4_v R hl 0 1) fun k h1 h2 h3 h4 K => ?_
  simp only [f37, h1, h2, h3, h4, checkR, cntL_v]
  cases anyL formP l 0 1 with
  | true => rfl
  | false =>
    cases anyL parP l 0 1 with
    | true => rfl
    | false =>
      cases anyL deepP l 0 1 with
      | true => rfl
      | false => cases decide (4000 < nodesL l) <;> rfl
theorem ownKn : ownKnob Try.prog.godebug = none := by kernel_rfl
theorem laidOut : laidOutB Try.prog = true := by kernel_rfl
noncomputable def naming : Naming cx where
  flds := flds
  toT := toT
  ofT := ofT
  plain := fun r => match r with
    | 0 => rfl
    | 1 => rfl
    | 2 => rfl
    | 3 => rfl
    | 4 => rfl
    | 5 => rfl
    | 6 => rfl
    | 7 => rfl
    | 8 => rfl
    | 9 => rfl
    | 10 => rfl
    | 11 => rfl
    | _n + 12 => rfl
  to_of := fun r x => match r, x with
    | 0, _ => rfl
    | 1, _ => rfl
    | 2, _ => rfl
    | 3, _ => rfl
    | 4, _ => rfl
    | 5, _ => rfl
    | 6, _ => rfl
    | 7, _ => rfl
    | 8, _ => rfl
    | 9, _ => rfl
    | 10, _ => rfl
    | 11, _ => rfl
    | _n + 12, _ => rfl
  deep := fun r v => match r, v with
    | 0, _ => rfl
    | 1, _ => rfl
    | 2, v => deep2_eq v
    | 3, _ => rfl
    | 4, _ => rfl
    | 5, _ => rfl
    | 6, _ => rfl
    | 7, _ => rfl
    | 8, _ => rfl
    | 9, _ => rfl
    | 10, _ => rfl
    | 11, _ => rfl
    | _n + 12, _ => rfl
theorem fit : Fit naming Try.prog := fit_of (tab := tab) rfl (by kernel_rfl)
theorem wf_bytes {z : Nat} {l : List Int} (h : WfIV (.list z (l.map fun y => [.int .u8 y]))) : l.length ≤ reachBytes ∧ ∀ n ∈ l, 0 ≤ n ∧ n < 256 := by
  cases h with
  | list h1 h2 _ =>
    refine ⟨by simpa using h1, fun n hn => ?_⟩
    have := h2 _ (List.mem_map.2 ⟨n, hn, rfl⟩) _ (List.mem_singleton.2 rfl)
    cases this with
    | int h3 => simp [Lit.wf, IntKind.min, IntKind.max, IntKind.signed, IntKind.bits] at h3; omega
theorem wf_int {n : Int} (h : WfIV (.int .i64 n)) : -9223372036854775808 ≤ n ∧ n < 9223372036854775808 := by
  cases h with
  | int h3 => simp [Lit.wf, IntKind.min, IntKind.max, IntKind.signed, IntKind.bits] at h3; omega
theorem deep2_mk (i : Int) (d : List Int) (ks : List D2) (g : Bool) : deep2 (.mk i d ks g) = [.int .i64 i, .list 1 (d.map fun y => [.int .u8 y]), .list 4 (deep2s ks), .bool g] := by rw [deep2]; rfl
theorem okL_wf {ks : List D2} (h : WfIV (.list 4 (deep2s ks))) (ih : ∀ x ∈ ks, (∀ iv ∈ deep2 x, WfIV iv) → OkN x) : OkL ks := by
  rw [deep2s_map] at h
  cases h with
  | list h1 h2 h3 =>
    refine ⟨?_, fun x hx => ih x hx (h2 _ (List.mem_map.2 ⟨x, hx, rfl⟩))⟩
    cases ks with
    | nil => simp
    | cons x ks =>
      have h4 := h3 (deep2 x) (by simp)
      obtain ⟨i, d, k, g⟩ := x
      rw [deep2_mk] at h4
      have e : lay (List.map cellB [IV.int IntKind.i64 i, IV.list 1 (d.map fun y => [.int .u8 y]), IV.list 4 (deep2s k), IV.bool g]) = 64 := by kernel_rfl
      rw [List.length_map, e] at h4
      exact h4
theorem okN_wf (n : D2) : (∀ iv ∈ deep2 n, WfIV iv) → OkN n := by
  refine D2.ind (P := fun n => (∀ iv ∈ deep2 n, WfIV iv) → OkN n) (fun i d ks g ih h => ?_) n
  rw [deep2_mk] at h
  have hd := wf_bytes (h (.list 1 (d.map fun y => [.int .u8 y])) (by simp))
  have hk := okL_wf (h (.list 4 (deep2s ks)) (by simp)) ih
  exact .mk (wf_int (h (.int .i64 i) (by simp))) hd.2 hd.1 hk.1 hk.2
def idS (i : Int) : List Int := if idN i = 0 then [] else beB (idN i) i
def vintS (c : Int) : List Int := if c < 0 ∨ 2 ^ (7 * vl c) - 1 ≤ c then [] else vintW c
noncomputable def szS (op : Bool) (i : Int) (n : Nat) : List Int := if (op && (rowOf i).2.2.2.2) = true then [255] else vintS (n : Int)
def sumS (sums : Bool) (c : List Int) : List Int := if sums = true then [237, 132] ++ (beB 4 (sumB c) ++ c) else c
mutual
noncomputable def wrN (sums op : Bool) : D2 → List Int
  | .mk i d ks g => if g = true then idS i ++ (szS op i (sumS sums (wrL sums op ks)).length ++ sumS sums (wrL sums op ks)) else idS i ++ (szS op i d.length ++ d)
noncomputable def wrL (sums op : Bool) : List D2 → List Int
  | [] => []
  | x :: l => wrN sums op x ++ wrL sums op l
end
/-- What a node puts behind its size. -/
noncomputable def contN (sums op : Bool) (n : D2) : List Int := if n.c3 = true then sumS sums (wrL sums op n.c2) else n.c1
theorem wrN_eta (sums op : Bool) (n : D2) : wrN sums op n = idS n.c0 ++ (szS op n.c0 (contN sums op n).length ++ contN sums op n) := by
  obtain ⟨i, d, ks, g⟩ := n
  rw [wrN]; unfold contN
  cases g <;> rfl
mutual
def wtN : D2 → Nat
  | .mk _ d ks _ => 1 + d.length + wtL ks
def wtL : List D2 → Nat
  | [] => 0
  | x :: l => wtN x + wtL l
end
theorem wtN_eta (n : D2) : wtN n = 1 + n.c1.length + wtL n.c2 := by cases n; rw [wtN]; rfl
theorem idS_len (i : Int) : (idS i).length ≤ 4 := by
  unfold idS; split
  · simp
  · rw [beB_len]; exact idN_le i
theorem vintS_len (c : Int) : (vintS c).length ≤ 8 := by
  unfold vintS; split
  · simp
  · rw [vintW, beB_len]; exact (vl_range c).2
theorem szS_len (op : Bool) (i : Int) (n : Nat) : (szS op i n).length ≤ 8 := by
  unfold szS; split
  · simp
  · exact vintS_len _
theorem sumS_len (s : Bool) (c : List Int) : (sumS s c).length ≤ 6 + c.length := by
  unfold sumS; split
  · simp only [List.length_append, List.length_cons, List.length_nil, beB_len]; omega
  · omega
theorem wrL_le (s o : Bool) : ∀ (l : List D2), (∀ x ∈ l, (wrN s o x).length ≤ 20 * wtN x) → (wrL s o l).length ≤ 20 * wtL l
  | [], _ => by rw [wrL]; simp
  | x :: l, h => by
    have h1 := h x (by simp)
    have h2 := wrL_le s o l fun y hy => h y (by simp [hy])
    rw [wrL, wtL, List.length_append]; omega
theorem wrN_len (s o : Bool) (n : D2) : (wrN s o n).length ≤ 20 * wtN n := by
  refine D2.ind (P := fun n => (wrN s o n).length ≤ 20 * wtN n) (fun i d ks g ih => ?_) n
  have h1 := wrL_le s o ks ih
  have h2 := idS_len i
  rw [wrN, wtN]
  split
  · have h3 := szS_len o i (sumS s (wrL s o ks)).length
    have h4 := sumS_len s (wrL s o ks)
    simp only [List.length_append]; omega
  · have h3 := szS_len o i d.length
    simp only [List.length_append]; omega
theorem wrL_len (s o : Bool) (l : List D2) : (wrL s o l).length ≤ 20 * wtL l := wrL_le s o l fun x _ => wrN_len s o x
theorem sumB_range (l : List Int) : 0 ≤ sumB l ∧ sumB l < 4294967296 := by
  unfold sumB xorI
  simp [IntKind.wrap, IntKind.signed, IntKind.bits]; omega
theorem f61_4 (R : Type) : Ev fun k => ∀ (v : Int) (K : Int → List Int → Option R), 0 ≤ v → v < 4294967296 → f61 k v 4 K = K 0 (beB 4 v) := by
  refine (f91_v R (n := 4) (by omega)).imp fun k hk v K h0 h1 => ?_
  have sh : decide (shrI .i64 v (IntKind.i64.wrap (8 * 4)) > 0) = false := by
    show decide (v.fdiv 4294967296 > 0) = false
    rw [Int.fdiv_eq_ediv_of_nonneg _ (by omega), Int.ediv_eq_zero_of_lt h0 h1]; rfl
  have s0 : decide (IntKind.i64.wrap (8 * 4) < 0) = false := by decide
  have h4 : ∀ (w : Int) (K : List Int → Option R), f91 k w 4 K = K (beB 4 w) := hk
  simp (disch := omega) only [f61, deF, deT, cond_false, cond_true, sh, s0, wrU, h4]
theorem f110_v (R : Type) : Ev fun k => ∀ (K : Int → List Int → Option R), f110 k 1 K = K 0 [255] := .plus 10 (.all fun k K => by kernel_rfl)
theorem f52_s (R : Type) (c : Nat) : Ev fun k => ∀ (K : Int → List Int → Option R), ∃ e, f52 k (c : Int) 0 K = K e (vintS c) := by
  refine (f52_all R (c : Int)).imp fun k hk K => ?_
  rw [hk]; unfold vintS
  split
  · exact ⟨1, rfl⟩
  · exact ⟨0, rfl⟩
theorem f27_s2 (R : Type) (i : Int) : Ev fun k => ∀ (K : Int → List Int → Option R), ∃ e, f27 k i K = K e (idS i) := by
  refine (f27_v R i).imp fun k hk K => ?_
  rw [hk]; unfold idS
  split
  · exact ⟨40, rfl⟩
  · exact ⟨0, rfl⟩
theorem f53_3 (R : Type) (a b c : List Int) (h : a.length + b.length + c.length ≤ 140737488355328) : Ev fun k => ∀ (K : List Int → Option R), f53 k [a, b, c] K = K (a ++ (b ++ c)) :=
  (f53_v [a, b, c] (by simp) (by simp [sumL]; omega)).imp fun k hk K => by rw [hk R K]; simp
/-- The last part of a node. -/
theorem node_end (R : Type) (op : Bool) (i : Int) (c : List Int) (hc : c.length ≤ 1000000000000) : Ev fun k => ∀ (K : List Int → Option R), ∃ e : Int,
    f52 k (c.length : Int) 0 (fun _v8 v9 => f25 k i (fun _v10 _v11 _v12 _v13 v14 _v15 => bif v14 then bif op then f110 k 1 (fun _v16 v17 => f53 k ([idS i, v17, c]) K) else f53 k ([idS i, v9, c]) K else f53 k ([idS i, v9, c]) K)) = K (idS i ++ (szS op i c.length ++ c)) := by
  have h1 := idS_len i
  have h2 := vintS_len (c.length : Int)
  refine (((f52_s R c.length).and (f25_v i R)).and (f110_v R)).imp3 (f53_3 R (idS i) (vintS c.length) c (by omega)) (f53_3 R (idS i) [255] c (by simp only [List.length_cons, List.length_nil]; omega)) fun k h hv hu K => ?_
  obtain ⟨⟨h52, h25⟩, h110⟩ := h
  refine ⟨0, ?_⟩
  obtain ⟨e, h52⟩ := h52 (fun _v8 v9 => f25 k i (fun _v10 _v11 _v12 _v13 v14 _v15 => bif v14 then bif op then f110 k 1 (fun _v16 v17 => f53 k ([idS i, v17, c]) K) else f53 k ([idS i, v9, c]) K else f53 k ([idS i, v9, c]) K))
  rw [h52, h25]
  unfold szS
  cases (rowOf i).2.2.2.2 with
  | false => simp only [cond_false, Bool.and_false, hv]; rfl
  | true =>
    cases op with
    | false => simp only [cond_false, cond_true, Bool.false_and, hv]; rfl
    | true => simp only [cond_true, Bool.and_self, h110, hu]; rfl
theorem f106_v (R : Type) (s o : Bool) (n : D2) (hw : wtN n ≤ 10000000000) (h : Ev fun k => ∀ (K : List Int → Option R), f97 k s o n.c2 K = K (wrL s o n.c2)) :
    Ev fun k => ∀ (K : List Int → Option R), f106_2 k s o n.c0 n.c1 n.c2 n.c3 K = K (wrN s o n) := by
  have hl := wrL_len s o n.c2
  have hn := wtN_eta n
  cases hg : n.c3 with
  | false =>
    refine .suc ((f27_s2 R n.c0).imp2 (node_end R o n.c0 n.c1 (by omega)) fun k h27 he K => ?_)
    rw [f106_2_step, f106_2_s]
    obtain ⟨e, h27⟩ := h27 (fun _v1 v2 => bif false then f97 k s o n.c2 (fun v3 => bif s then f108 k v3 (fun v4 => f61 k (IntKind.i64.wrap (v4)) 4 (fun _v5 v6 => f53 k ([[237, 132], v6, v3]) (fun v7 => f52 k (v7.length : Int) 0 (fun _v8 v9 => f25 k n.c0 (fun _v10 _v11 _v12 _v13 v14 _v15 => bif v14 then bif o then f110 k 1 (fun _v16 v17 => f53 k ([v2, v17, v7]) K) else f53 k ([v2, v9, v7]) K else f53 k ([v2, v9, v7]) K))))) else f52 k (v3.length : Int) 0 (fun _v21 v22 => f25 k n.c0 (fun _v23 _v24 _v25 _v26 v27 _v28 => bif v27 then bif o then f110 k 1 (fun _v29 v30 => f53 k ([v2, v30, v3]) K) else f53 k ([v2, v22, v3]) K else f53 k ([v2, v22, v3]) K))) else f52 k (n.c1.length : Int) 0 (fun _v34 v35 => f25 k n.c0 (fun _v36 _v37 _v38 _v39 v40 _v41 => bif v40 then bif o then f110 k 1 (fun _v42 v43 => f53 k ([v2, v43, n.c1]) K) else f53 k ([v2, v35, n.c1]) K else f53 k ([v2, v35, n.c1]) K)))
    refine h27.trans ?_
    obtain ⟨_, he⟩ := he K
    rw [wrN_eta]
    unfold contN
    rw [hg]
    exact he
  | true =>
    cases s with
    | false =>
      refine .suc ((f27_s2 R n.c0).imp3 h (node_end R o n.c0 (wrL false o n.c2) (by omega)) fun k h27 h97 he K => ?_)
      rw [f106_2_step, f106_2_s]
      obtain ⟨e, h27⟩ := h27 (fun _v1 v2 => bif true then f97 k false o n.c2 (fun v3 => bif false then f108 k v3 (fun v4 => f61 k (IntKind.i64.wrap (v4)) 4 (fun _v5 v6 => f53 k ([[237, 132], v6, v3]) (fun v7 => f52 k (v7.length : Int) 0 (fun _v8 v9 => f25 k n.c0 (fun _v10 _v11 _v12 _v13 v14 _v15 => bif v14 then bif o then f110 k 1 (fun _v16 v17 => f53 k ([v2, v17, v7]) K) else f53 k ([v2, v9, v7]) K else f53 k ([v2, v9, v7]) K))))) else f52 k (v3.length : Int) 0 (fun _v21 v22 => f25 k n.c0 (fun _v23 _v24 _v25 _v26 v27 _v28 => bif v27 then bif o then f110 k 1 (fun _v29 v30 => f53 k ([v2, v30, v3]) K) else f53 k ([v2, v22, v3]) K else f53 k ([v2, v22, v3]) K))) else f52 k (n.c1.length : Int) 0 (fun _v34 v35 => f25 k n.c0 (fun _v36 _v37 _v38 _v39 v40 _v41 => bif v40 then bif o then f110 k 1 (fun _v42 v43 => f53 k ([v2, v43, n.c1]) K) else f53 k ([v2, v35, n.c1]) K else f53 k ([v2, v35, n.c1]) K)))
      refine h27.trans ?_
      obtain ⟨_, he⟩ := he K
      rw [wrN_eta]
      unfold contN
      rw [hg]
      simp only [cond_true, h97, cond_false]
      exact he
    | true =>
      have hl := wrL_len true o n.c2
      have hs := sumS_len true (wrL true o n.c2)
      have sr := sumB_range (wrL true o n.c2)
      refine .suc (((f27_s2 R n.c0).and h).imp3 ((f108_v (wrL true o n.c2) (by rw [reachV]; omega) R).and ((f61_4 R).and (f53_3 R [237, 132] (beB 4 (sumB (wrL true o n.c2))) (wrL true o n.c2) (by rw [beB_len]; simp only [List.length_cons, List.length_nil]; omega)))) (node_end R o n.c0 (sumS true (wrL true o n.c2)) (by omega)) fun k ha hb he K => ?_)
      obtain ⟨h27, h97⟩ := ha
      obtain ⟨h108, h61, h53⟩ := hb
      rw [f106_2_step, f106_2_s]
      obtain ⟨e, h27⟩ := h27 (fun _v1 v2 => bif true then f97 k true o n.c2 (fun v3 => bif true then f108 k v3 (fun v4 => f61 k (IntKind.i64.wrap (v4)) 4 (fun _v5 v6 => f53 k ([[237, 132], v6, v3]) (fun v7 => f52 k (v7.length : Int) 0 (fun _v8 v9 => f25 k n.c0 (fun _v10 _v11 _v12 _v13 v14 _v15 => bif v14 then bif o then f110 k 1 (fun _v16 v17 => f53 k ([v2, v17, v7]) K) else f53 k ([v2, v9, v7]) K else f53 k ([v2, v9, v7]) K))))) else f52 k (v3.length : Int) 0 (fun _v21 v22 => f25 k n.c0 (fun _v23 _v24 _v25 _v26 v27 _v28 => bif v27 then bif o then f110 k 1 (fun _v29 v30 => f53 k ([v2, v30, v3]) K) else f53 k ([v2, v22, v3]) K else f53 k ([v2, v22, v3]) K))) else f52 k (n.c1.length : Int) 0 (fun _v34 v35 => f25 k n.c0 (fun _v36 _v37 _v38 _v39 v40 _v41 => bif v40 then bif o then f110 k 1 (fun _v42 v43 => f53 k ([v2, v43, n.c1]) K) else f53 k ([v2, v35, n.c1]) K else f53 k ([v2, v35, n.c1]) K)))
      refine h27.trans ?_
      obtain ⟨_, he⟩ := he K
      rw [wrN_eta]
      unfold contN
      rw [hg]
      have w : IntKind.i64.wrap (sumB (wrL true o n.c2)) = sumB (wrL true o n.c2) := wr (by omega)
      simp only [cond_true, h97, h108, w]
      rw [h61 _ _ sr.1 sr.2, h53]
      exact he
theorem wt_drop (l : List D2) (i : Nat) (hi : i < l.length) : wtL (l.drop i) = wtN l[i] + wtL (l.drop (i + 1)) := by
  rw [List.drop_eq_getElem_cons hi, wtL]
theorem wt_drop_le : ∀ (l : List D2) (i : Nat), wtL (l.drop i) ≤ wtL l
  | _, 0 => by simp
  | [], i + 1 => by simp
  | x :: l, i + 1 => by rw [List.drop_succ_cons, wtL]; have := wt_drop_le l i; omega
theorem f97_list (R : Type) (s o : Bool) (l : List D2) (hb : l.length * 64 ≤ reachBytes) (h : ∀ x ∈ l, OkN x → wtL x.c2 ≤ 10000000000 → Ev fun k => ∀ (K : List Int → Option R), f97 k s o x.c2 K = K (wrL s o x.c2)) (ho : ∀ x ∈ l, OkN x) (hw : wtL l ≤ 10000000000) :
    Ev fun k => ∀ (K : List Int → Option R), f97 k s o l K = K (wrL s o l) := by
  rw [reachV] at hb
  have lp : ∀ i, i ≤ l.length → EvB fun q j => ∀ (acc : List Int) (X0 : List Int → Option R), acc.length + 20 * wtL (l.drop i) ≤ 200000000000 → f97_l3 (fun _ => f106_2 q) j l (l.length : Int) (i : Int) s o acc X0 = X0 (acc ++ wrL s o (l.drop i)) := by
    refine EvB.down l.length ?_ ?_
    · refine EvB.suc (.all fun q j acc X0 _ => ?_)
      rw [f97_l3, ifF (by omega), List.drop_length, wrL, List.append_nil]
    · intro i hi ih
      have m1 := wt_drop l i hi
      have m2 := wt_drop_le l i
      have m3 := wtN_eta l[i]
      have m4 := wrN_len s o l[i]
      refine EvB.suc ((ih.and (.left (f106_v R s o l[i] (by omega) (h _ (List.getElem_mem hi) (ho _ (List.getElem_mem hi)) (by omega))))).imp fun q j hk acc X0 ha => ?_)
      rw [f97_l3, lt_nat, inb_nat, wrapSuc (by omega)]
      simp only [hi, decide_true, cond_true, Int.toNat_natCast, getD_get hi, hk.2]
      rw [roT (by omega), cond_true, hk.1 _ _ (by rw [List.length_append]; omega), List.drop_eq_getElem_cons hi, wrL, List.append_assoc]
  refine .suc ((lp 0 (by omega)).diag.imp fun k hk K => ?_)
  rw [f97_step, f97_s]
  have := hk [] K (by simp; omega)
  rw [Int.natCast_zero, List.drop_zero] at this
  rw [this, List.nil_append]
theorem f97_v (R : Type) (s o : Bool) {l : List D2} (hl : OkL l) (hw : wtL l ≤ 10000000000) : Ev fun k => ∀ (K : List Int → Option R), f97 k s o l K = K (wrL s o l) := by
  have key : ∀ n : D2, OkN n → wtL n.c2 ≤ 10000000000 → Ev fun k => ∀ (K : List Int → Option R), f97 k s o n.c2 K = K (wrL s o n.c2) := by
    intro n
    refine D2.ind (P := fun n => OkN n → wtL n.c2 ≤ 10000000000 → Ev fun k => ∀ (K : List Int → Option R), f97 k s o n.c2 K = K (wrL s o n.c2)) (fun i d ks g ih ho hw => ?_) n
    exact f97_list R s o ks ho.kids.1 ih ho.kids.2 hw
  exact f97_list R s o l hl.1 (fun x _ => key x) hl.2 hw
noncomputable def writeR (s o : Bool) (l : List D2) : Int × List Int := if checkR l ≠ 0 then (checkR l, []) else if 1048576 < (wrL s o l).length then (2, []) else (0, wrL s o l)
theorem f79_v (R : Type) (s o : Bool) {l : List D2} (hl : OkL l) (hw : wtL l ≤ 10000000000) : Ev fun k => ∀ (K : Int → List Int → Option R), f79 k s o l K = K (writeR s o l).1 (writeR s o l).2 := by
  refine (f37_v R hl).imp2 (f97_v R s o hl hw) fun k h37 h97 K => ?_
  simp only [f79, h37]
  unfold writeR
  by_cases c : checkR l ≠ 0
  · rw [if_pos c, bnT c]; rfl
  · rw [if_neg c, bnF (by simpa using c)]
    simp only [cond_false, h97]
    by_cases d : 1048576 < (wrL s o l).length
    · rw [if_pos d, ifT (by omega)]
    · rw [if_neg d, ifF (by omega)]
theorem valF_snoc (l : List Int) (c v : Int) : valF (l ++ [c]) v = valF l v * 256 + c := by
  unfold valF; rw [List.foldl_append]; rfl
theorem valF_beB : ∀ (n : Nat) (w : Int), 0 ≤ w → w < 256 ^ n → valF (beB n w) 0 = w
  | 0, w, h0, h1 => by simp at h1; simp [beB, valF]; omega
  | n + 1, w, h0, h1 => by
    rw [Int.pow_succ] at h1
    rw [beB, valF_snoc, valF_beB n (w / 256) (by omega) (by omega)]
    omega
theorem idLen_of {c : Int} {n : Nat} (h1 : 1 ≤ n) (h4 : n ≤ 4) (a : (2 : Int) ^ (8 - n) ≤ c) (b : c < 2 ^ (9 - n)) : idLen c = n := by
  have : n = 1 ∨ n = 2 ∨ n = 3 ∨ n = 4 := by omega
  unfold idLen
  rcases this with rfl | rfl | rfl | rfl <;> simp at a b <;> repeat' split
  all_goals omega
theorem beB_first {i : Int} {n : Nat} (h1 : 1 ≤ n) (h4 : n ≤ 4) (h : isIdB i n = true) : ∃ c t, beB n i = c :: t ∧ idLen c = n := by
  unfold isIdB at h
  have h := of_decide_eq_true h
  have : n = 1 ∨ n = 2 ∨ n = 3 ∨ n = 4 := by omega
  rcases this with rfl | rfl | rfl | rfl
  · exact ⟨_, _, rfl, idLen_of (by omega) (by omega) (by simp at h ⊢; omega) (by simp at h ⊢; omega)⟩
  · exact ⟨_, _, rfl, idLen_of (by omega) (by omega) (by simp at h ⊢; omega) (by simp at h ⊢; omega)⟩
  · exact ⟨_, _, rfl, idLen_of (by omega) (by omega) (by simp at h ⊢; omega) (by simp at h ⊢; omega)⟩
  · exact ⟨_, _, rfl, idLen_of (by omega) (by omega) (by simp at h ⊢; omega) (by simp at h ⊢; omega)⟩
theorem idN_is {i : Int} (h : idN i ≠ 0) : isIdB i (idN i) = true ∧ 1 ≤ idN i ∧ idN i ≤ 4 := by
  refine ⟨?_, by omega, idN_le i⟩
  revert h
  unfold idN
  by_cases c1 : isIdB i 1 = true
  · rw [if_pos c1]; exact fun _ => c1
  · by_cases c2 : isIdB i 2 = true
    · rw [if_neg c1, if_pos c2]; exact fun _ => c2
    · by_cases c3 : isIdB i 3 = true
      · rw [if_neg c1, if_neg c2, if_pos c3]; exact fun _ => c3
      · by_cases c4 : isIdB i 4 = true
        · rw [if_neg c1, if_neg c2, if_neg c3, if_pos c4]; exact fun _ => c4
        · rw [if_neg c1, if_neg c2, if_neg c3, if_neg c4]; exact fun h => absurd rfl h
theorem get_of_drop {b : List Int} {p : Nat} {c : Int} {t : List Int} (h : b.drop p = c :: t) : ∃ hp : p < b.length, b[p] = c := by
  have hp : p < b.length := by
    have := congrArg List.length h
    simp at this; omega
  refine ⟨hp, ?_⟩
  rw [List.drop_eq_getElem_cons hp] at h
  exact (List.cons.inj h).1
theorem vl_small {c : Int} (h0 : 0 ≤ c) (h1 : c < 2097151) : (vl c = 1 ∧ c < 127) ∨ (vl c = 2 ∧ 127 ≤ c ∧ c < 16383) ∨ (vl c = 3 ∧ 16383 ≤ c) := by
  unfold vl
  by_cases a : c < 127
  · left; refine ⟨?_, a⟩
    rw [vlFrom, if_neg (by simp; omega)]
  · by_cases b : c < 16383
    · right; left; refine ⟨?_, by omega, b⟩
      rw [vlFrom, if_pos (by simp; omega), vlFrom, if_neg (by simp; omega)]
    · right; right; refine ⟨?_, by omega⟩
      rw [vlFrom, if_pos (by simp; omega), vlFrom, if_pos (by simp; omega), vlFrom, if_neg (by simp; omega)]
theorem vintS_small {c : Int} (h0 : 0 ≤ c) (h1 : c < 2097151) : vintS c = vintW c ∧ (vintS c).length = vl c := by
  have e : vintS c = vintW c := by
    unfold vintS
    rw [if_neg]
    rcases vl_small h0 h1 with ⟨e, h⟩ | ⟨e, h⟩ | ⟨e, h⟩ <;> rw [e] <;> simp <;> omega
  exact ⟨e, by rw [e, vintW, beB_len]⟩
theorem readV_wr {b : List Int} {p : Nat} {c : Int} {t : List Int} (h0 : 0 ≤ c) (h1 : c < 2097151) (h : b.drop p = vintS c ++ t) : readV b p = (c, (vl c : Int), false, 0) := by
  rw [(vintS_small h0 h1).1, vintW] at h
  have key : ∀ (n x : Nat) (r : List Int), b.drop p = (x : Int) :: (r ++ t) → x ≠ 0 → vsz x = n → r.length = n - 1 → 1 ≤ n → vl c = n → valF r ((x : Int) - 2 ^ (8 - n)) = c → ¬ c = 2 ^ (7 * n) - 1 → readV b p = (c, (vl c : Int), false, 0) := by
    intro n x r hd hx hv hr hn hvl hval hne
    obtain ⟨hp, hg⟩ := get_of_drop hd
    have hlen := congrArg List.length hd
    simp at hlen
    have hdr : (b.drop (p + 1)).take (vsz x - 1) = r := by
      have : b.drop (p + 1) = r ++ t := by
        rw [List.drop_eq_getElem_cons hp] at hd
        exact (List.cons.inj hd).2
      rw [this, hv, ← hr, List.take_left]
    rw [readV_val hp hg hx (by rw [hv]; omega), hdr, hv, hval, if_neg hne, hvl]
  rcases vl_small h0 h1 with ⟨e, hb⟩ | ⟨e, hb, hb'⟩ | ⟨e, hb⟩
  · rw [e] at h
    obtain ⟨m, rfl⟩ : ∃ m : Nat, c = m := ⟨c.toNat, by omega⟩
    refine key 1 (m + 128) [] ?_ (by omega) (by unfold vsz; rw [if_pos (by omega)]) rfl (by omega) e (by simp [valF]) (by simp; omega)
    rw [h]; simp [beB]; omega
  · rw [e] at h
    obtain ⟨m, rfl⟩ : ∃ m : Nat, c = m := ⟨c.toNat, by omega⟩
    obtain ⟨w, hw⟩ : ∃ w : Nat, w = m + 16384 := ⟨_, rfl⟩
    have e2 : (m : Int) + 2 ^ (7 * 2) = (w : Int) := by rw [show (2 : Int) ^ (7 * 2) = 16384 by decide]; omega
    have e3 : (2 : Int) ^ (8 - 2) = 64 := by decide
    have e4 : (2 : Int) ^ (7 * 2) - 1 = 16383 := by decide
    refine key 2 (w / 256) [((w % 256 : Nat) : Int)] ?_ (by omega) (by unfold vsz; rw [if_neg (by omega), if_pos (by omega)]) rfl (by omega) e (by rw [e3]; simp [valF]; omega) (by rw [e4]; omega)
    rw [h, e2]
    simp only [beB, List.nil_append, List.cons_append, List.cons.injEq, and_true, true_and]
    omega
  · rw [e] at h
    obtain ⟨m, rfl⟩ : ∃ m : Nat, c = m := ⟨c.toNat, by omega⟩
    obtain ⟨w, hw⟩ : ∃ w : Nat, w = m + 2097152 := ⟨_, rfl⟩
    have e2 : (m : Int) + 2 ^ (7 * 3) = (w : Int) := by rw [show (2 : Int) ^ (7 * 3) = 2097152 by decide]; omega
    have e3 : (2 : Int) ^ (8 - 3) = 32 := by decide
    have e4 : (2 : Int) ^ (7 * 3) - 1 = 2097151 := by decide
    refine key 3 (w / 65536) [((w / 256 % 256 : Nat) : Int), ((w % 256 : Nat) : Int)] ?_ (by omega) (by unfold vsz; rw [if_neg (by omega), if_neg (by omega), if_pos (by omega)]) rfl (by omega) e (by rw [e3]; simp [valF]; omega) (by rw [e4]; omega)
    rw [h, e2]
    simp only [beB, List.nil_append, List.cons_append, List.cons.injEq, and_true, true_and]
    omega
/-- A head that was written is read. -/
theorem head_wr {b : List Int} {p : Nat} {i : Int} {c : Nat} {t : List Int} (hi : idN i ≠ 0) (hc : c < 2097151) (ht : 0 < (vintS (c : Int)).length) (h : b.drop p = idS i ++ (vintS (c : Int) ++ t)) : headR b p = .ok i (idN i + vl (c : Int)) c false := by
  obtain ⟨i1, i2, i3⟩ := idN_is hi
  obtain ⟨x, r, hx, hl⟩ := beB_first i2 i3 i1
  have hs : idS i = beB (idN i) i := by unfold idS; rw [if_neg hi]
  have hd : b.drop p = x :: (r ++ (vintS (c : Int) ++ t)) := by rw [h, hs, hx]; rfl
  obtain ⟨hp, hg⟩ := get_of_drop hd
  have hlen := congrArg List.length h
  rw [hs] at hlen
  simp only [List.length_drop, List.length_append, beB_len] at hlen
  have hgd : b.getD p 0 = x := by rw [getD_get hp, hg]
  have hnum : numB b p (idN i) = i := by
    unfold numB
    rw [h, hs, List.take_left' (beB_len _ _)]
    obtain ⟨m, l1, l2⟩ := isId_lt i3 i1
    refine valF_beB _ _ l1 ?_
    have m2 := m.2
    have e : idN i = 1 ∨ idN i = 2 ∨ idN i = 3 ∨ idN i = 4 := by omega
    rcases e with e | e | e | e <;> rw [e] at m2 ⊢ <;> simp at m2 ⊢ <;> omega
  have hdv : b.drop (p + idN i) = vintS (c : Int) ++ t := by
    rw [← List.drop_drop, h, hs, List.drop_left' (beB_len _ _)]
  have hv := readV_wr (b := b) (p := p + idN i) (c := (c : Int)) (t := t) (by omega) (by omega) hdv
  unfold headR
  rw [hgd, hl, if_neg hi, if_neg (by omega), hnum, i1, hv]
  simp
def valN (n : D2) (par dp : Int) : Prop := anyN formP n par dp = false ∧ anyN parP n par dp = false ∧ anyN deepP n par dp = false
def valL (l : List D2) (par dp : Int) : Prop := anyL formP l par dp = false ∧ anyL parP l par dp = false ∧ anyL deepP l par dp = false
theorem valL_cons {x : D2} {l : List D2} {par dp : Int} (h : valL (x :: l) par dp) : valN x par dp ∧ valL l par dp := by
  obtain ⟨h1, h2, h3⟩ := h
  rw [anyL, Bool.or_eq_false_iff] at h1 h2 h3
  exact ⟨⟨h1.1, h2.1, h3.1⟩, h1.2, h2.2, h3.2⟩
theorem ids_chk : (tabP.all fun s => !(idN s.1 == 0)) = true := by kernel_rfl
theorem known_idN {i : Int} (h : known i = true) : idN i ≠ 0 := by
  unfold known at h
  cases h1 : rowAt tabP i with
  | none => rw [h1] at h; simp at h
  | some s =>
    obtain ⟨m, rfl⟩ := rowAt_some h1
    have := List.all_eq_true.1 ids_chk s m
    simpa using this
/-- What a node in order is. -/
theorem val_node {n : D2} {par : Int} {dp : Nat} (h : valN n par (dp : Int)) : known n.c0 = true ∧ free n.c0 = false ∧ (rowOf n.c0).2.2.2.1 = n.c3 ∧ (n.c3 = false → n.c2 = []) ∧ (n.c3 = true → n.c1 = []) ∧ within (rowOf n.c0) par = true ∧ dp ≤ 8 ∧ valL n.c2 n.c0 ((dp + 1 : Nat) : Int) := by
  obtain ⟨h1, h2, h3⟩ := h
  rw [anyN_eta, Bool.or_eq_false_iff] at h1 h2 h3
  obtain ⟨f1, f2⟩ := h1
  unfold formP at f1
  simp only [Bool.or_eq_false_iff, Bool.not_eq_false', Bool.and_eq_false_iff, decide_eq_false_iff_not] at f1
  obtain ⟨a1, a2, a3, a4, a5⟩ := f1
  have dp8 : dp ≤ 8 := by
    have := h3.1
    unfold deepP at this
    have := of_decide_eq_false this
    omega
  have w : IntKind.i64.wrap ((dp : Int) + 1) = ((dp + 1 : Nat) : Int) := wrapSuc (by omega)
  rw [w] at f2 h2 h3
  refine ⟨a1, ?_, by simpa using a3, fun hg => ?_, fun hg => ?_, ?_, dp8, f2, h2.2, h3.2⟩
  · unfold free; rw [a1]; simpa using a2
  · rcases a4 with a4 | a4
    · rw [hg] at a4; simp at a4
    · exact List.length_eq_zero_iff.1 (by omega)
  · rcases a5 with a5 | a5
    · rw [hg] at a5; simp at a5
    · exact List.length_eq_zero_iff.1 (by omega)
  · have := h2.1; unfold parP at this; simpa using this
theorem okBy_append {a b : List Int} (h : okBy a) (h' : okBy b) : okBy (a ++ b) := fun n hn => by
  rcases List.mem_append.1 hn with hn | hn
  · exact h n hn
  · exact h' n hn
theorem idS_ok (i : Int) : okBy (idS i) := by
  unfold idS; split
  · intro n hn; simp at hn
  · exact beB_ok _ _
theorem szS_ok (o : Bool) (i : Int) (n : Nat) : okBy (szS o i n) := by
  unfold szS vintS vintW; split
  · intro n hn; simp at hn; omega
  · split
    · intro n hn; simp at hn
    · exact beB_ok _ _
theorem sumS_ok (s : Bool) {c : List Int} (h : okBy c) : okBy (sumS s c) := by
  unfold sumS; split
  · exact okBy_append (by intro n hn; simp at hn; omega) (okBy_append (beB_ok _ _) h)
  · exact h
theorem wrL_ok (s o : Bool) : ∀ l : List D2, (∀ x ∈ l, okBy (wrN s o x)) → okBy (wrL s o l)
  | [], _ => by rw [wrL]; intro n hn; simp at hn
  | x :: l, h => by rw [wrL]; exact okBy_append (h x (by simp)) (wrL_ok s o l fun y hy => h y (by simp [hy]))
theorem wrN_ok (s o : Bool) (n : D2) : OkN n → okBy (wrN s o n) := by
  refine D2.ind (P := fun n => OkN n → okBy (wrN s o n)) (fun i d ks g ih hn => ?_) n
  have hk := wrL_ok s o ks fun x hx => ih x hx (hn.kids.2 x hx)
  rw [wrN]; split
  · exact okBy_append (idS_ok i) (okBy_append (szS_ok _ _ _) (sumS_ok s hk))
  · exact okBy_append (idS_ok i) (okBy_append (szS_ok _ _ _) hn.by)
theorem check_val {l : List D2} (h : checkR l = 0) : valL l 0 1 := by
  unfold checkR at h
  cases a : anyL formP l 0 1 with
  | true => rw [a] at h; simp at h
  | false =>
    cases b : anyL parP l 0 1 with
    | true => rw [a, b] at h; simp at h
    | false =>
      cases c : anyL deepP l 0 1 with
      | true => rw [a, b, c] at h; simp at h
      | false => exact ⟨a, b, c⟩
mutual
theorem bulkD_eq {H : Type} : ∀ d : DataW H, bulkD d = Rows.uptoBulk d
  | .lit (.string _) => by rw [bulkD, Rows.uptoBulk]
  | .lit (.bool _) => by rw [bulkD, Rows.uptoBulk] <;> simp
  | .lit (.int _ _) => by rw [bulkD, Rows.uptoBulk] <;> simp
  | .lit (.float _ _) => by rw [bulkD, Rows.uptoBulk] <;> simp
  | .lit .nil => by rw [bulkD, Rows.uptoBulk] <;> simp
  | .nil => by rw [bulkD, Rows.uptoBulk]
  | .ptr d => by rw [bulkD, Rows.uptoBulk, bulkD_eq d]
  | .slice e s => by rw [bulkD, Rows.uptoBulk, bulkA_eq e, bulkA_eq s]
  | .agg p => by rw [bulkD, Rows.uptoBulk, bulkA_eq p]
  | .iface _ d => by rw [bulkD, Rows.uptoBulk, bulkD_eq d]
  | .map e => by rw [bulkD, Rows.uptoBulk, bulkEs_eq e]
  | .held _ => by rw [bulkD, Rows.uptoBulk]
theorem bulkA_eq {H : Type} : ∀ l : List (DataW H), bulkA l = Rows.uptoBulkAll l
  | [] => by rw [bulkA, Rows.uptoBulkAll]
  | d :: r => by rw [bulkA, Rows.uptoBulkAll, bulkD_eq d, bulkA_eq r]
theorem bulkEs_eq {H : Type} : ∀ l : List (Lit × DataW H), bulkEs l = Rows.uptoBulkEntries l
  | [] => by rw [bulkEs, Rows.uptoBulkEntries]
  | x :: r => by rw [bulkEs, Rows.uptoBulkEntries, bulkE_eq x, bulkEs_eq r]
theorem bulkE_eq {H : Type} : ∀ x : Lit × DataW H, bulkE x = Rows.uptoBulkEntry x
  | (.string _, d) => by rw [bulkE, Rows.uptoBulkEntry, bulkD_eq d]
  | (.bool _, d) => by rw [bulkE, Rows.uptoBulkEntry, bulkD_eq d] <;> simp
  | (.int _ _, d) => by rw [bulkE, Rows.uptoBulkEntry, bulkD_eq d] <;> simp
  | (.float _ _, d) => by rw [bulkE, Rows.uptoBulkEntry, bulkD_eq d] <;> simp
  | (.nil, d) => by rw [bulkE, Rows.uptoBulkEntry, bulkD_eq d] <;> simp
end
theorem small_bulk (H : Type) (ds : List (DataW H)) (h : Rows.uptoSmall H ds = true) : bulkA ds ≤ 1048576 := by
  rw [bulkA_eq]; exact of_decide_eq_true h
theorem bulk_bytes : ∀ d : List Int, ivBB (d.map fun y => [IV.int .u8 y]) = d.length
  | [] => by rw [List.map_nil, ivBB]; rfl
  | x :: d => by rw [List.map_cons, ivBB, bulk_bytes d, ivBL, ivBL, ivB, List.length_cons]; omega
theorem wt_bulk (n : D2) : wtN n ≤ ivBL (deep2 n) := by
  refine D2.ind (P := fun n => wtN n ≤ ivBL (deep2 n)) (fun i d ks g ih => ?_) n
  have : ∀ l : List D2, (∀ x ∈ l, wtN x ≤ ivBL (deep2 x)) → wtL l ≤ ivBB (l.map deep2) := by
    intro l
    induction l with
    | nil => intro _; rw [wtL]; omega
    | cons x l ih =>
      intro h
      have h1 := h x (by simp)
      have h2 := ih fun y hy => h y (by simp [hy])
      rw [List.map_cons, ivBB, wtL]; omega
  have h := this ks ih
  rw [deep2_mk, wtN, deep2s_map]
  simp only [ivBL, ivB, bulk_bytes]
  omega
def R32 (x : Int) : Prop := 0 ≤ x ∧ x < 4294967296
theorem wrapU32 {x : Int} (h : R32 x) : IntKind.u32.wrap x = x := by
  obtain ⟨h0, h1⟩ := h
  simp [IntKind.wrap, IntKind.signed, IntKind.bits]; omega
theorem xor32 {a b : Int} (ha : R32 a) (hb : R32 b) : xorI .u32 a b = ((a.toNat ^^^ b.toNat : Nat) : Int) ∧ a.toNat ^^^ b.toNat < 4294967296 := by
  obtain ⟨a0, a1⟩ := ha
  obtain ⟨b0, b1⟩ := hb
  obtain ⟨n, rfl⟩ := Int.eq_ofNat_of_zero_le a0
  obtain ⟨m, rfl⟩ := Int.eq_ofNat_of_zero_le b0
  have hlt : n ^^^ m < 2 ^ 32 := Nat.xor_lt_two_pow (by omega) (by omega)
  refine ⟨?_, by simpa using hlt⟩
  have e : (BitVec.ofInt IntKind.u32.bits (n : Int) ^^^ BitVec.ofInt IntKind.u32.bits (m : Int)).toNat = n ^^^ m := by
    show (BitVec.ofInt 32 (n : Int) ^^^ BitVec.ofInt 32 (m : Int)).toNat = n ^^^ m
    rw [BitVec.toNat_xor, BitVec.ofInt_natCast, BitVec.ofInt_natCast, BitVec.toNat_ofNat, BitVec.toNat_ofNat, Nat.mod_eq_of_lt (by omega), Nat.mod_eq_of_lt (by omega)]
  unfold xorI
  rw [e, wrapU32 ⟨by omega, by omega⟩]
  simp
theorem xor_r32 {a b : Int} (ha : R32 a) (hb : R32 b) : R32 (xorI .u32 a b) := by
  obtain ⟨h1, h2⟩ := xor32 ha hb
  rw [h1]; exact ⟨by omega, by omega⟩
theorem xor_inj {a b c : Int} (ha : R32 a) (hb : R32 b) (hc : R32 c) (h : xorI .u32 c a = xorI .u32 c b) : a = b := by
  rw [(xor32 hc ha).1, (xor32 hc hb).1] at h
  have h : c.toNat ^^^ a.toNat = c.toNat ^^^ b.toNat := by exact_mod_cast h
  have := congrArg (fun x => c.toNat ^^^ x) h
  simp only [← Nat.xor_assoc, Nat.xor_self, Nat.zero_xor] at this
  have := ha.1
  have := hb.1
  omega
theorem crc1_eq {s : Int} (hs : R32 s) : crc1 s = if s % 2 = 1 then xorI .u32 (s / 2) 3558460437 else s / 2 := by
  have e : shrI .u32 s 1 = s / 2 := by
    show s.fdiv 2 = _
    exact Int.fdiv_eq_ediv_of_nonneg _ (by omega)
  obtain ⟨s0, s1⟩ := hs
  obtain ⟨n, rfl⟩ := Int.eq_ofNat_of_zero_le s0
  have a : andI .u32 (n : Int) 1 = ((n % 2 : Nat) : Int) := by
    have e : (BitVec.ofInt IntKind.u32.bits (n : Int) &&& BitVec.ofInt IntKind.u32.bits 1).toNat = n % 2 := by
      show (BitVec.ofInt 32 (n : Int) &&& BitVec.ofInt 32 ((1 : Nat) : Int)).toNat = n % 2
      rw [BitVec.toNat_and, BitVec.ofInt_natCast, BitVec.ofInt_natCast, BitVec.toNat_ofNat, BitVec.toNat_ofNat, Nat.mod_eq_of_lt (by omega)]
      exact Nat.and_one_is_mod n
    unfold andI
    rw [e, wrapU32 ⟨by omega, by omega⟩]
  unfold crc1
  rw [e, a]
  by_cases c : (n : Int) % 2 = 1
  · rw [if_pos c, show ((n % 2 : Nat) : Int) = 1 by omega]; rfl
  · rw [if_neg c, show ((n % 2 : Nat) : Int) = 0 by omega]; rfl
theorem half_r32 {s : Int} (hs : R32 s) : R32 (s / 2) := by obtain ⟨h0, h1⟩ := hs; exact ⟨by omega, by omega⟩
theorem poly_r32 : R32 3558460437 := ⟨by omega, by omega⟩
theorem crc1_r32 {s : Int} (hs : R32 s) : R32 (crc1 s) := by
  rw [crc1_eq hs]; split
  · exact xor_r32 (half_r32 hs) poly_r32
  · exact half_r32 hs
/-- The odd ones are great. -/
theorem odd_big {s : Int} (hs : R32 s) : 2147483648 ≤ xorI .u32 (s / 2) 3558460437 := by
  rw [(xor32 (half_r32 hs) poly_r32).1]
  have h0 := hs.1
  have h1 := hs.2
  have hp : (3558460437 : Int).toNat = 3558460437 := rfl
  rw [hp]
  have t1 : ((s / 2).toNat).testBit 31 = false := Nat.testBit_lt_two_pow (by omega)
  have t2 : (3558460437 : Nat).testBit 31 = true := by decide
  have t : ((s / 2).toNat ^^^ 3558460437).testBit 31 = true := by rw [Nat.testBit_xor, t1, t2]; rfl
  have := Nat.ge_two_pow_of_testBit t
  omega
theorem crc1_inj {s t : Int} (hs : R32 s) (ht : R32 t) (h : crc1 s = crc1 t) : s = t := by
  rw [crc1_eq hs, crc1_eq ht] at h
  have bs := odd_big hs
  have bt := odd_big ht
  have hs' := hs.2
  have ht' := ht.2
  have s0 := hs.1
  have t0 := ht.1
  by_cases c1 : s % 2 = 1 <;> by_cases c2 : t % 2 = 1
  · rw [if_pos c1, if_pos c2, xor_comm32, xor_comm32 (t / 2)] at h
    have := xor_inj (half_r32 hs) (half_r32 ht) poly_r32 h
    omega
  · rw [if_pos c1, if_neg c2] at h; omega
  · rw [if_neg c1, if_pos c2] at h; omega
  · rw [if_neg c1, if_neg c2] at h; omega
theorem crcN_r32 : ∀ (n : Nat) {s : Int}, R32 s → R32 (crcN n s)
  | 0, _, h => h
  | n + 1, _, h => crcN_r32 n (crc1_r32 h)
theorem crcN_inj : ∀ (n : Nat) {s t : Int}, R32 s → R32 t → crcN n s = crcN n t → s = t
  | 0, _, _, _, _, h => h
  | n + 1, _, _, hs, ht, h => crc1_inj hs ht (crcN_inj n (crc1_r32 hs) (crc1_r32 ht) h)
theorem byte_r32 {c : Int} (h : 0 ≤ c ∧ c < 256) : R32 (IntKind.u32.wrap c) ∧ IntKind.u32.wrap c = c := by
  have r : R32 c := ⟨h.1, by omega⟩
  rw [wrapU32 r]; exact ⟨r, rfl⟩
theorem crcF_inj : ∀ (l : List Int), okBy l → ∀ {s t : Int}, R32 s → R32 t → crcF l s = crcF l t → s = t
  | [], _, _, _, _, _, h => h
  | c :: l, hl, s, t, hs, ht, h => by
    have hc := (byte_r32 (hl c (by simp))).1
    rw [crcF_cons, crcF_cons] at h
    have h1 := crcF_inj l (fun n hn => hl n (by simp [hn])) (crcN_r32 8 (xor_r32 hs hc)) (crcN_r32 8 (xor_r32 ht hc)) h
    have h2 := crcN_inj 8 (xor_r32 hs hc) (xor_r32 ht hc) h1
    rw [xor_comm32, xor_comm32 t] at h2
    exact xor_inj hs ht hc h2
theorem crcF_ne : ∀ (l : List Int), okBy l → ∀ (j : Nat) (hj : j < l.length) (y : Int), 0 ≤ y ∧ y < 256 → y ≠ l[j] → ∀ {s : Int}, R32 s → crcF (l.set j y) s ≠ crcF l s
  | c :: l, hl, 0, _, y, hy, hne, s, hs => by
    intro h
    have hc := byte_r32 (hl c (by simp))
    have hy := byte_r32 hy
    rw [List.set_cons_zero, crcF_cons, crcF_cons] at h
    have h1 := crcF_inj l (fun n hn => hl n (by simp [hn])) (crcN_r32 8 (xor_r32 hs hy.1)) (crcN_r32 8 (xor_r32 hs hc.1)) h
    have h2 := crcN_inj 8 (xor_r32 hs hy.1) (xor_r32 hs hc.1) h1
    have h3 := xor_inj hy.1 hc.1 hs h2
    rw [hy.2, hc.2] at h3
    exact hne h3
  | c :: l, hl, j + 1, hj, y, hy, hne, s, hs => by
    rw [List.set_cons_succ, crcF_cons, crcF_cons]
    exact crcF_ne l (fun n hn => hl n (by simp [hn])) j (by simpa using hj) y hy (by simpa using hne) (crcN_r32 8 (xor_r32 hs (byte_r32 (hl c (by simp))).1))
theorem crcF_r32 : ∀ (l : List Int), okBy l → ∀ {s : Int}, R32 s → R32 (crcF l s)
  | [], _, _, h => h
  | c :: l, hl, s, h => by
    rw [crcF_cons]
    exact crcF_r32 l (fun n hn => hl n (by simp [hn])) (crcN_r32 8 (xor_r32 h (byte_r32 (hl c (by simp))).1))
theorem okBy_set {l : List Int} (hl : okBy l) (j : Nat) {y : Int} (hy : 0 ≤ y ∧ y < 256) : okBy (l.set j y) := fun n hn => by
  rcases List.mem_or_eq_of_mem_set hn with h | h
  · exact hl n h
  · rw [h]; exact hy
theorem sumB_ne {l : List Int} (hl : okBy l) (j : Nat) (hj : j < l.length) {y : Int} (hy : 0 ≤ y ∧ y < 256) (hne : y ≠ l[j]) : sumB (l.set j y) ≠ sumB l := by
  have r : R32 4294967295 := ⟨by omega, by omega⟩
  intro h
  exact crcF_ne l hl j hj y hy hne r (xor_inj (crcF_r32 _ (okBy_set hl j hy) r) (crcF_r32 _ hl r) r h)
theorem top_start {i : Int} {c : List Int} (h1 : known i = true) (h2 : free i = false) (h6 : within (rowOf i) 0 = true) (hc : c.length ≤ 1048576) (N : Nat) :
    lev2 (idS i ++ (vintS (c.length : Int) ++ c)) (N + 1) (top (idS i ++ (vintS (c.length : Int) ++ c))) true 0 0 =
      if (rowOf i).2.2.2.1 = false then (lev2 (idS i ++ (vintS (c.length : Int) ++ c)) N (top (idS i ++ (vintS (c.length : Int) ++ c))) false (idN i + vl (c.length : Int) + c.length) 1).map (Res.add [D2.mk i c [] false] [plc i 0 (idN i + vl (c.length : Int)) c.length 1 false])
      else match lev2 (idS i ++ (vintS (c.length : Int) ++ c)) N ⟨i, idN i + vl (c.length : Int) + c.length, true, false, 2⟩ true (idN i + vl (c.length : Int)) 1 with
          | some (.fine kids a nd' ps) => (lev2 (idS i ++ (vintS (c.length : Int) ++ c)) N (top (idS i ++ (vintS (c.length : Int) ++ c))) false a nd').map (Res.add [D2.mk i [] kids true] (plc i 0 (idN i + vl (c.length : Int)) (a - (idN i + vl (c.length : Int))) 1 false :: ps))
          | r => r := by
  have hi := known_idN h1
  have hid : (idS i).length = idN i := by unfold idS; rw [if_neg hi, beB_len]
  obtain ⟨vs1, vs2⟩ := vintS_small (c := (c.length : Int)) (by omega) (by omega)
  have vr := vl_range (c.length : Int)
  generalize hb : idS i ++ (vintS (c.length : Int) ++ c) = b
  have hl : b.length = idN i + vl (c.length : Int) + c.length := by rw [← hb]; simp only [List.length_append, hid, vs2]; omega
  have hd : b.drop 0 = idS i ++ (vintS (c.length : Int) ++ c) := by rw [hb]; rfl
  have hhd := head_wr hi (by omega) (by omega) hd
  have hen : (top b).en = b.length := rfl
  have lt : 0 < (top b).en := by rw [hen]; omega
  have n237 : ((rowOf i).1 == 237) = false := by
    rw [row_id h1]
    rw [free_known h1, Bool.or_eq_false_iff] at h2
    exact h2.2
  have hck : chkE b (top b) true 0 (idN i + vl (c.length : Int)) c.length false i = 0 := by
    unfold chkE
    rw [if_neg (by simp [top]), if_neg (by omega), if_neg (by rw [h2, n237, show (top b).id = 0 from rfl, h6]; simp), if_neg (by show ¬ 8 < 1; omega), if_neg (by rw [n237]; simp)]
  have hdc : b.drop (0 + (idN i + vl (c.length : Int))) = c := by
    rw [show 0 + (idN i + vl (c.length : Int)) = (idS i).length + (vintS (c.length : Int)).length by rw [hid, vs2]; omega, ← List.drop_drop, ← hb, List.drop_left, List.drop_left]
  rw [lev2, if_pos lt, hhd]
  dsimp only
  rw [if_neg (by simp [top]), if_neg (by rw [hck]; simp), if_neg (by rw [h2]; simp), if_neg (by omega), hdc, List.take_length]
  simp only [Nat.zero_add]
  rfl
theorem sum_free : free 237 = true := by rw [free_known known_sum.1]; rfl
/-- The Sum at the beginning of a group. -/
theorem sum_start {b kb t : List Int} {v : Int} (hv : 0 ≤ v ∧ v < 4294967296) {i : Int} (hi : i ≠ 0) {p : Nat} (hd : b.drop p = [237, 132] ++ (beB 4 v ++ kb)) (hl : p + (6 + kb.length) = b.length) (N : Nat) :
    lev2 b (N + 1) ⟨i, b.length, true, false, 2⟩ true p 1 = if v ≠ sumB kb then some (.bad 6 p) else (lev2 b N ⟨i, b.length, true, false, 2⟩ false (p + 6) 1).map (Res.add [] [plc 237 p 2 4 2 false]) := by
  have i1 : idN 237 = 1 := by decide
  have i2 : idS 237 = [237] := by decide
  have i3 : vintS ((4 : Nat) : Int) = [132] := by decide
  have i4 : vl ((4 : Nat) : Int) = 1 := by decide
  have hd2 : b.drop p = idS 237 ++ (vintS ((4 : Nat) : Int) ++ (beB 4 v ++ kb)) := by rw [hd, i2, i3]; rfl
  have hhd := head_wr (i := 237) (c := 4) (by rw [i1]; decide) (by omega) (by rw [i3]; decide) hd2
  rw [i1, i4] at hhd
  have d2 : b.drop (p + 2) = beB 4 v ++ kb := by
    rw [← List.drop_drop, hd]; rfl
  have d6 : b.drop (p + 2 + 4) = kb := by
    rw [← List.drop_drop, d2]
    exact List.drop_left' (beB_len 4 v)
  have hnum : numB b (p + 2) 4 = v := by
    unfold numB
    rw [d2, List.take_left' (beB_len _ _)]
    exact valF_beB 4 v hv.1 (by simpa using hv.2)
  have sr := sumB_range kb
  have hck : chkE b ⟨i, b.length, true, false, 2⟩ true p 2 4 false 237 = if v ≠ sumB kb then 6 else 0 := by
    unfold chkE
    have r1 : ((rowOf 237).1 == 237) = true := by rw [known_sum.2]; rfl
    have hi0 : (i == 0) = false := by simpa using hi
    rw [if_neg (by simp; omega), if_neg (by omega), if_neg (by rw [sum_free, r1]; simp [hi]), if_neg (by show ¬ 8 < 2; omega), if_pos r1, if_neg (by simp), hnum, List.take_length, d6, wr (by omega)]
  have lt : p < b.length := by omega
  rw [lev2, if_pos (show p < (Ho.mk i b.length true false 2).en from lt), hhd]
  dsimp only
  rw [if_neg (by simp)]
  rw [show (1 : Nat) + 1 = 2 from rfl, hck]
  by_cases c : v ≠ sumB kb
  · rw [if_pos c, if_pos (by decide), if_pos c]
  · rw [if_neg c, if_neg (by simp), if_pos sum_free, if_neg c]
theorem xor64 {a b : Int} (ha : 0 ≤ a ∧ a < 256) (hb : 0 ≤ b ∧ b < 256) : xorI .i64 a b = ((a.toNat ^^^ b.toNat : Nat) : Int) ∧ a.toNat ^^^ b.toNat < 256 := by
  obtain ⟨a0, a1⟩ := ha
  obtain ⟨b0, b1⟩ := hb
  obtain ⟨n, rfl⟩ := Int.eq_ofNat_of_zero_le a0
  obtain ⟨m, rfl⟩ := Int.eq_ofNat_of_zero_le b0
  have hlt : n ^^^ m < 2 ^ 8 := Nat.xor_lt_two_pow (by omega) (by omega)
  refine ⟨?_, by simpa using hlt⟩
  have e : (BitVec.ofInt IntKind.i64.bits (n : Int) ^^^ BitVec.ofInt IntKind.i64.bits (m : Int)).toNat = n ^^^ m := by
    show (BitVec.ofInt 64 (n : Int) ^^^ BitVec.ofInt 64 (m : Int)).toNat = n ^^^ m
    rw [BitVec.toNat_xor, BitVec.ofInt_natCast, BitVec.ofInt_natCast, BitVec.toNat_ofNat, BitVec.toNat_ofNat, Nat.mod_eq_of_lt (by omega), Nat.mod_eq_of_lt (by omega)]
  unfold xorI
  rw [e, wr (by omega)]
  simp
theorem hurt_byte {x z : Int} (hx : 0 ≤ x ∧ x < 256) (h1 : 1 ≤ z) (h2 : z ≤ 255) : (0 ≤ IntKind.u8.wrap (xorI .i64 (IntKind.i64.wrap x) z) ∧ IntKind.u8.wrap (xorI .i64 (IntKind.i64.wrap x) z) < 256) ∧ IntKind.u8.wrap (xorI .i64 (IntKind.i64.wrap x) z) ≠ x := by
  rw [wr (n := x) (by omega)]
  obtain ⟨e, hlt⟩ := xor64 hx ⟨by omega, by omega⟩ (b := z)
  rw [e, wrapU8]
  refine ⟨by omega, fun h => ?_⟩
  have h : x.toNat ^^^ z.toNat = x.toNat := by omega
  have := congrArg (fun q => x.toNat ^^^ q) h
  simp only [← Nat.xor_assoc, Nat.xor_self, Nat.zero_xor] at this
  omega
/-- What the law needs to know of a group written with its sums. -/
theorem hurt_key {n : D2} (val : valN n 0 1) (hl : (wrN true false n).length ≤ 1048576) (okk : okBy (wrL true false n.c2)) {kids : List D2} {a nd : Nat} {ps : List D1} (hp : parseR (wrN true false n) = .fine kids a nd ps) (h2 : 2 ≤ ps.length) :
    ∃ hb : Nat, ps.getD 1 zero1 = plc 237 hb 2 4 2 false ∧ hb + 6 ≤ (wrN true false n).length ∧ ∀ (j : Nat) (hj : j < (wrN true false n).length) (y : Int), hb + 6 ≤ j → 0 ≤ y ∧ y < 256 → y ≠ (wrN true false n)[j] → ∃ c a, parseR ((wrN true false n).set j y) = .bad c a := by
  have val : valN n 0 ((1 : Nat) : Int) := val
  obtain ⟨v1, v2, v3, v4, v5, v6, v7, v8⟩ := val_node val
  have hw : wrN true false n = idS n.c0 ++ (vintS ((contN true false n).length : Int) ++ contN true false n) := wrN_eta true false n
  have cl : (contN true false n).length ≤ 1048576 := by rw [hw] at hl; simp only [List.length_append] at hl; omega
  have i0 : n.c0 ≠ 0 := by
    intro e; rw [e] at v1
    have : known 0 = false := by kernel_rfl
    rw [this] at v1; simp at v1
  have hi := known_idN v1
  have hid : (idS n.c0).length = idN n.c0 := by unfold idS; rw [if_neg hi, beB_len]
  have big : ∀ b : List Int, b.length = (wrN true false n).length → ¬ 1048576 < b.length := fun b h => by omega
  cases hg : n.c3 with
  | false =>
    exfalso
    have ts := top_start v1 v2 v6 cl
    rw [← hw] at ts
    obtain ⟨vs1, vs2⟩ := vintS_small (c := ((contN true false n).length : Int)) (by omega) (by omega)
    have hlen : (wrN true false n).length = idN n.c0 + vl ((contN true false n).length : Int) + (contN true false n).length := by rw [hw]; simp only [List.length_append, hid, vs2]; omega
    unfold parseR at hp
    rw [if_neg (by omega), ts, if_pos (by rw [v3, hg])] at hp
    obtain ⟨m, hm⟩ : ∃ m, (wrN true false n).length = m + 1 := ⟨(wrN true false n).length - 1, by omega⟩
    rw [← hlen] at hp
    rw [show lev2 (wrN true false n) (wrN true false n).length (top (wrN true false n)) false (wrN true false n).length 1 = some (.fine [] (wrN true false n).length 1 []) by
      rw [show ∀ q, lev2 (wrN true false n) (wrN true false n).length (top (wrN true false n)) false q 1 = lev2 (wrN true false n) (m + 1) (top (wrN true false n)) false q 1 from fun q => by rw [hm]]
      rw [lev2, if_neg (by show ¬ (wrN true false n).length < (wrN true false n).length; omega)]] at hp
    simp only [Option.map_some, Option.getD_some, Res.add, Res.fine.injEq] at hp
    rw [← hp.2.2.2] at h2
    simp at h2
  | true =>
    have hc : contN true false n = [237, 132] ++ (beB 4 (sumB (wrL true false n.c2)) ++ wrL true false n.c2) := by unfold contN sumS; rw [hg]; simp
    generalize hk : wrL true false n.c2 = kb at *
    generalize contN true false n = c at *
    have hcl : c.length = 6 + kb.length := by rw [hc]; simp only [List.length_append, List.length_cons, List.length_nil, beB_len]; omega
    have sr := sumB_range kb
    obtain ⟨vs1, vs2⟩ := vintS_small (c := (c.length : Int)) (by omega) (by omega)
    generalize hhb : idN n.c0 + vl (c.length : Int) = hb at *
    -- both, with any bytes behind the Sum
    have both : ∀ kb' : List Int, kb'.length = kb.length → ∀ b : List Int, b = idS n.c0 ++ (vintS (c.length : Int) ++ ([237, 132] ++ (beB 4 (sumB kb) ++ kb'))) → b.length = hb + (6 + kb.length) ∧ ∀ N,
        lev2 b (N + 2) (top b) true 0 0 = match (if sumB kb ≠ sumB kb' then some (.bad 6 hb) else (lev2 b N ⟨n.c0, b.length, true, false, 2⟩ false (hb + 6) 1).map (Res.add [] [plc 237 hb 2 4 2 false])) with
          | some (.fine kids a nd' ps) => (lev2 b (N + 1) (top b) false a nd').map (Res.add [D2.mk n.c0 [] kids true] (plc n.c0 0 hb (a - hb) 1 false :: ps))
          | r => r := by
      intro kb' hk' b hb'
      have hc' : ([237, 132] ++ (beB 4 (sumB kb) ++ kb')).length = c.length := by rw [hcl]; simp only [List.length_append, List.length_cons, List.length_nil, beB_len]; omega
      have hbl : b.length = hb + (6 + kb.length) := by rw [hb']; simp only [List.length_append, hid, vs2, List.length_cons, List.length_nil, beB_len]; omega
      refine ⟨hbl, fun N => ?_⟩
      have ts := top_start v1 v2 v6 (c := [237, 132] ++ (beB 4 (sumB kb) ++ kb')) (by omega) (N + 1)
      rw [hc', ← hb', hhb, if_neg (by rw [v3, hg]; simp)] at ts
      have hd : b.drop hb = [237, 132] ++ (beB 4 (sumB kb) ++ kb') := by
        rw [← hhb, show idN n.c0 + vl (c.length : Int) = (idS n.c0).length + (vintS (c.length : Int)).length by rw [hid, vs2], ← List.drop_drop, hb', List.drop_left, List.drop_left]
      have ss := sum_start (t := []) ⟨sr.1, sr.2⟩ i0 hd (by rw [hbl, hk']) N
      rw [show hb + c.length = b.length by rw [hbl, hcl], ss] at ts
      exact ts
    obtain ⟨b1, b2⟩ := both kb rfl (wrN true false n) (by rw [hw, ← hc])
    refine ⟨hb, ?_, by omega, fun j hj y h6 hy hne => ?_⟩
    · unfold parseR at hp
      obtain ⟨m, hm⟩ : ∃ m, (wrN true false n).length + 1 = m + 2 := ⟨(wrN true false n).length - 1, by omega⟩
      rw [if_neg (by omega), hm, b2, if_neg (by simp)] at hp
      cases e1 : lev2 (wrN true false n) m ⟨n.c0, (wrN true false n).length, true, false, 2⟩ false (hb + 6) 1 with
      | none => rw [e1] at hp; simp at hp
      | some x =>
        rw [e1] at hp
        cases x with
        | bad c a => simp [Res.add] at hp
        | fine k2 a2 n2 p2 =>
          simp only [Option.map_some, Res.add] at hp
          cases e2 : lev2 (wrN true false n) (m + 1) (top (wrN true false n)) false a2 n2 with
          | none => rw [e2] at hp; simp at hp
          | some x2 =>
            rw [e2] at hp
            cases x2 with
            | bad c a => simp [Res.add] at hp
            | fine k3 a3 n3 p3 =>
              simp only [Option.map_some, Option.getD_some, Res.add, Res.fine.injEq] at hp
              rw [← hp.2.2.2]; rfl
    · refine ⟨6, hb, ?_⟩
      have hset : (wrN true false n).set j y = idS n.c0 ++ (vintS (c.length : Int) ++ ([237, 132] ++ (beB 4 (sumB kb) ++ kb.set (j - hb - 6) y))) := by
        have g : ∀ d : List Int, d = [237, 132] ++ (beB 4 (sumB kb) ++ kb) → (idS n.c0 ++ (vintS (c.length : Int) ++ d)).set j y = idS n.c0 ++ (vintS (c.length : Int) ++ ([237, 132] ++ (beB 4 (sumB kb) ++ kb.set (j - hb - 6) y))) := by
          intro d hd
          subst hd
          have l1 : ([237, 132] : List Int).length = 2 := rfl
          rw [List.set_append_right _ _ (by omega), List.set_append_right _ _ (by omega), List.set_append_right _ _ (by omega), List.set_append_right _ _ (by rw [beB_len]; omega), beB_len, l1, hid, vs2, show j - idN n.c0 - vl (c.length : Int) - 2 - 4 = j - hb - 6 by omega]
        rw [hw]
        exact g c hc
      have hjk : j - hb - 6 < kb.length := by omega
      have hb6 : (wrN true false n)[j] = kb[j - hb - 6] := by
        have e : (wrN true false n).drop (hb + 6) = kb := by
          have g : ∀ d : List Int, d = [237, 132] ++ (beB 4 (sumB kb) ++ kb) → (idS n.c0 ++ (vintS (c.length : Int) ++ d)).drop (hb + 6) = kb := by
            intro d hd
            subst hd
            rw [show hb + 6 = (idS n.c0).length + ((vintS (c.length : Int)).length + (2 + 4)) by rw [hid, vs2]; omega, ← List.drop_drop, List.drop_left, ← List.drop_drop, List.drop_left, ← List.drop_drop]
            exact List.drop_left' (beB_len 4 _)
          rw [hw]
          exact g c hc
        have := congrArg (fun l : List Int => l[j - hb - 6]?) e
        simp only [List.getElem?_drop] at this
        rw [show hb + 6 + (j - hb - 6) = j by omega, List.getElem?_eq_getElem hj, List.getElem?_eq_getElem hjk] at this
        exact Option.some.inj this
      rw [hb6] at hne
      have hs := sumB_ne okk (j - hb - 6) hjk hy hne
      obtain ⟨q1, q2⟩ := both (kb.set (j - hb - 6) y) (by simp) _ hset
      unfold parseR
      obtain ⟨m, hm⟩ : ∃ m, ((wrN true false n).set j y).length + 1 = m + 2 := ⟨((wrN true false n).set j y).length - 1, by omega⟩
      rw [if_neg (by omega), hm, q2, if_pos (fun e => hs e.symm)]
      rfl
theorem f14_quiet {k : Nat} {n : D2} {at_ by_ : Int} {b : List Int} (h79 : ∀ K : Int → List Int → Option Bool, f79 k true false [n] K = K 0 b) (aw : ∀ (R : Type) (K : Bool → Option R), f18 k K = K true) {e : Int} (he : e ≠ 0) {a : Int} {ps : List D1} (h21 : ∀ K : Int → Int → List D1 → Option Bool, f21 k b K = K a e ps) : f14 (R := Bool) k n.c0 n.c1 n.c2 n.c3 at_ by_ some = some true := by
  simp only [f14, f47, D2.eta, h79, h21, bnF rfl, bnT he, cond_true, cond_false, aw]
theorem elementHurt_plain (n : D2) (at_ by_ : Int) (hn : OkN n) (hw : wtN n ≤ 10000000000) : ∃ k, f14 (R := Bool) k n.c0 n.c1 n.c2 n.c3 at_ by_ some = some true := by
  refine Ev.some ?_
  have ol : OkL [n] := ⟨by rw [reachV]; simp, by intro x hx; simp at hx; rw [hx]; exact hn⟩
  have h79 := f79_v Bool true false ol (by rw [wtL, wtL]; omega)
  by_cases ce : (writeR true false [n]).1 = 0
  · have cw : checkR [n] = 0 ∧ (wrL true false [n]).length ≤ 1048576 ∧ (writeR true false [n]) = (0, wrL true false [n]) := by
      unfold writeR at ce ⊢
      by_cases c : checkR [n] ≠ 0
      · rw [if_pos c] at ce; exact absurd ce c
      · rw [if_neg c] at ce ⊢
        by_cases d : 1048576 < (wrL true false [n]).length
        · rw [if_pos d] at ce; exact absurd ce (by decide)
        · rw [if_neg d]; exact ⟨by simpa using c, by omega, rfl⟩
    obtain ⟨c1, c2, c3⟩ := cw
    rw [c3] at h79
    have e1 : wrL true false [n] = wrN true false n := by rw [wrL, wrL, List.append_nil]
    rw [e1] at h79 c2
    have okw : okBy (wrN true false n) := wrN_ok true false n hn
    have okk : okBy (wrL true false n.c2) := wrL_ok true false n.c2 fun x hx => wrN_ok true false x (hn.kids.2 x hx)
    have val := (valL_cons (check_val c1)).1
    have h21 := f21_v _ okw Bool
    cases hp : parseR (wrN true false n) with
    | bad c a =>
      rw [hp] at h21
      exact h79.imp3 h21 awake_v fun k a1 a2 a3 => f14_quiet a1 a3 (parse_bad okw hp) a2
    | fine kids a nd ps =>
      rw [hp] at h21
      by_cases l2 : (ps.length : Int) < 2
      · refine h79.imp3 h21 awake_v fun k a1 a2 a3 => ?_
        have a2 : ∀ K : Int → Int → List D1 → Option Bool, f21 k (wrN true false n) K = K 0 0 ps := a2
        simp only [f14, f47, D2.eta, a1, a2, bnF rfl, cond_false, deT l2, cond_true, a3]
      · obtain ⟨hb, k1, k2, k3⟩ := hurt_key val c2 okk hp (by omega)
        have i1 : inb 1 ps.length = true := inT (by omega)
        have w1 : IntKind.i64.wrap ((hb : Int) + 2) = (hb : Int) + 2 := wr (by omega)
        have w2 : IntKind.i64.wrap ((hb : Int) + 2 + 4) = (hb : Int) + 2 + 4 := wr (by omega)
        have front : ∀ k, (∀ K : Int → List Int → Option Bool, f79 k true false [n] K = K 0 (wrN true false n)) → (∀ K : Int → Int → List D1 → Option Bool, f21 k (wrN true false n) K = K 0 0 ps) →
            f14 (R := Bool) k n.c0 n.c1 n.c2 n.c3 at_ by_ some = bif decide (at_ < (hb : Int) + 2 + 4) then f18 k some else bif decide (at_ ≥ ((wrN true false n).length : Int)) then f18 k some else bif decide (by_ < 1) then f18 k some else bif decide (by_ > 255) then f18 k some else
              bif inb at_ (wrN true false n).length then bif inb at_ (wrN true false n).length then f19 k ((wrN true false n).set at_.toNat (IntKind.u8.wrap (xorI .i64 (IntKind.i64.wrap ((wrN true false n).getD at_.toNat 0)) by_))) (fun _ v15 _ => bif (v15 != 0) then f18 k some else some false) else none else none := by
          intro k a1 a2
          have z : ((237 : Int) != 237) = false := by decide
          simp only [f14, f47, D2.eta, a1, a2, bnF rfl, cond_false, deF l2, i1, cond_true, k1, plc, z]
          rw [show ((2 : Nat) : Int) = 2 from rfl, show ((4 : Nat) : Int) = 4 from rfl, w1, w2]
        by_cases r1 : at_ < (hb : Int) + 2 + 4
        · refine h79.imp3 h21 awake_v fun k a1 a2 a3 => ?_
          rw [front k a1 a2, deT r1, cond_true, a3]
        · by_cases r2 : at_ ≥ ((wrN true false n).length : Int)
          · refine h79.imp3 h21 awake_v fun k a1 a2 a3 => ?_
            rw [front k a1 a2, deF r1, deT r2, cond_false, cond_true, a3]
          · by_cases r3 : by_ < 1
            · refine h79.imp3 h21 awake_v fun k a1 a2 a3 => ?_
              rw [front k a1 a2, deF r1, deF r2, deT r3, cond_false, cond_false, cond_true, a3]
            · by_cases r4 : by_ > 255
              · refine h79.imp3 h21 awake_v fun k a1 a2 a3 => ?_
                rw [front k a1 a2, deF r1, deF r2, deF r3, deT r4, cond_false, cond_false, cond_false, cond_true, a3]
              · have hj : at_.toNat < (wrN true false n).length := by omega
                have hx : (wrN true false n).getD at_.toNat 0 = (wrN true false n)[at_.toNat] := getD_get hj
                obtain ⟨y1, y2⟩ := hurt_byte (okw _ (List.getElem_mem hj)) (z := by_) (by omega) (by omega)
                obtain ⟨c, a', hbad⟩ := k3 at_.toNat hj _ (by omega) y1 y2
                have oks := okBy_set okw at_.toNat y1
                have h19 := f19_v _ oks Bool
                rw [hbad] at h19
                have hc := parse_bad oks hbad
                refine (h79.and h21).imp3 h19 awake_v fun k a1 a2 a3 => ?_
                rw [front k a1.1 a1.2, deF r1, deF r2, deF r3, deF r4, inT ⟨by omega, by omega⟩, hx]
                simp only [cond_false, cond_true, a2, bnT hc, a3]
  · have okw : okBy (writeR true false [n]).2 := by
      unfold writeR
      split
      · intro m hm; simp at hm
      · split
        · intro m hm; simp at hm
        · exact wrL_ok true false [n] fun x hx => wrN_ok true false x (ol.2 x hx)
    have h21 := f21_v _ okw Bool
    refine h79.imp3 h21 awake_v fun k a1 a2 a3 => ?_
    simp only [f14, f47, D2.eta, a1]
    cases hp : parseR (writeR true false [n]).2 with
    | bad c a =>
      rw [hp] at a2
      have a2 : ∀ K : Int → Int → List D1 → Option Bool, f21 k (writeR true false [n]).2 K = K a c [] := a2
      simp only [a2, bnT ce, cond_true, a3]
    | fine kids a nd ps =>
      rw [hp] at a2
      have a2 : ∀ K : Int → Int → List D1 → Option Bool, f21 k (writeR true false [n]).2 K = K 0 0 ps := a2
      simp only [a2, bnT ce, cond_true, a3]
end Go.Proofs.Ytklhjegfkpmdoaa
