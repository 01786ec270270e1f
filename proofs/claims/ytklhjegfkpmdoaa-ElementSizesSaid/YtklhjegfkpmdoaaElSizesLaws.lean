/- Proved: how many bytes any node has. Conditions: the node lies in memory. -/
import Derived.Test.YtklhjegfkpmdoaaElWalk1
import Derived.Test.YtklhjegfkpmdoaaRows
import Derived.JoinedOf

namespace Go.Proofs.Ytklhjegfkpmdoaa
open Go Go.Am
theorem awake_v : Ev fun k => ∀ (R : Type) (K : Bool → Option R), f18 k K = K true := by
  refine .plus 100 (.all fun k R K => ?_)
  kernel_rfl
theorem wrapU8 (x : Int) : IntKind.u8.wrap x = x % 256 := by
  simp [IntKind.wrap, IntKind.signed, IntKind.bits]
theorem wrapU64 {x : Int} (h : 0 ≤ x) (h' : x < 18446744073709551616) : IntKind.u64.wrap x = x := by
  simp [IntKind.wrap, IntKind.signed, IntKind.bits]; omega
theorem shr8 (w : Int) : shrI .u64 w 8 = w / 256 := by
  have : (min (8 : Int).toNat IntKind.u64.bits) = 8 := rfl
  unfold shrI
  rw [this, Int.fdiv_eq_ediv_of_nonneg _ (by decide)]
  rfl
theorem or_add {a : Int} {m : Nat} (h : 0 ≤ a) (h' : a < 2 ^ m) (hm : m < 60) : orI .u64 a (2 ^ m) = a + 2 ^ m := by
  obtain ⟨n, rfl⟩ : ∃ n : Nat, a = n := ⟨a.toNat, by omega⟩
  have h2 : n < 2 ^ m := by exact_mod_cast h'
  have h3 : 2 ^ m < 2 ^ 60 := Nat.pow_lt_pow_right (by decide) hm
  have e1 : (BitVec.ofInt IntKind.u64.bits (n : Int)).toNat = n := by
    show (BitVec.ofInt 64 (n : Int)).toNat = n
    rw [BitVec.toNat_ofInt]
    have : ((n : Int) % ((2 ^ 64 : Nat) : Int)) = n := by
      rw [Int.emod_eq_of_lt (by omega)]
      have : 2 ^ 60 < 2 ^ 64 := by decide
      omega
    rw [this]; rfl
  have e2 : (BitVec.ofInt IntKind.u64.bits ((2 : Int) ^ m)).toNat = 2 ^ m := by
    show (BitVec.ofInt 64 ((2 : Int) ^ m)).toNat = 2 ^ m
    have e : ((2 : Int) ^ m) = ((2 ^ m : Nat) : Int) := by simp
    rw [e, BitVec.toNat_ofInt]
    have : (((2 ^ m : Nat) : Int) % ((2 ^ 64 : Nat) : Int)) = ((2 ^ m : Nat) : Int) := by
      rw [Int.emod_eq_of_lt (by omega)]
      have : 2 ^ 60 < 2 ^ 64 := by decide
      omega
    rw [this]; rfl
  unfold orI
  rw [BitVec.toNat_or, e1, e2, Nat.or_comm]
  have := Nat.two_pow_add_eq_or_of_lt h2 1
  rw [Nat.mul_one] at this
  rw [← this, wrapU64 (by omega) (by omega)]
  simp; omega
def c1 (w : Int) : List Int := [w % 256]
def c2 (w : Int) : List Int := [w / 256 % 256, w % 256]
def c3 (w : Int) : List Int := [w / 256 / 256 % 256, w / 256 % 256, w % 256]
theorem reachV : reachBytes = 140737488351232 := rfl
def okBy (b : List Int) : Prop := ∀ n ∈ b, 0 ≤ n ∧ n < 256
theorem okBy.drop {b : List Int} (h : okBy b) (i : Nat) : okBy (b.drop i) := fun n hn => h n (List.mem_of_mem_drop hn)
theorem ofInt_nat {n : Nat} (h : n < 18446744073709551616) : (BitVec.ofInt 64 (n : Int)).toNat = n := by
  rw [BitVec.toNat_ofInt]
  have e : (2 ^ 64 : Nat) = 18446744073709551616 := by decide
  rw [e, Int.emod_eq_of_lt (by omega) (by omega)]
  omega
theorem and_mask {v : Nat} {m : Nat} (h : v < 9223372036854775808) (hm : m ≤ 60) : andI .i64 (v : Int) ((2 ^ m - 1 : Nat) : Int) = ((v % 2 ^ m : Nat) : Int) := by
  have h3 : 2 ^ m ≤ 2 ^ 60 := Nat.pow_le_pow_right (by decide) hm
  have h4 : (2 : Nat) ^ 60 = 1152921504606846976 := by decide
  have e1 : (BitVec.ofInt IntKind.i64.bits (v : Int)).toNat = v := ofInt_nat (by omega)
  have e2 : (BitVec.ofInt IntKind.i64.bits ((2 ^ m - 1 : Nat) : Int)).toNat = 2 ^ m - 1 := ofInt_nat (by omega)
  unfold andI
  rw [BitVec.toNat_and, e1, e2, Nat.and_two_pow_sub_one_eq_mod]
  have := Nat.mod_le v (2 ^ m)
  exact wrapNat (by omega)
/-- A number with the mark of so many bytes. -/
def Marked (v : Int) (n : Nat) : Prop := (2 : Int) ^ (7 * n) ≤ v ∧ v < 2 * 2 ^ (7 * n)
def isIdB (v : Int) (n : Nat) : Bool := decide (2 ^ (7 * n) < v ∧ v < 2 * 2 ^ (7 * n) - 1)
theorem f60_v {v : Int} {n : Nat} (h1 : 1 ≤ n) (h4 : n ≤ 4) (h : Marked v n) (k : Nat) (R : Type) (K : Bool → Option R) : f60 k v (n : Int) K = K (isIdB v n) := by
  obtain ⟨l1, l2⟩ := h
  obtain ⟨m, rfl⟩ : ∃ m : Nat, v = m := ⟨v.toNat, by
    have : (0 : Int) < 2 ^ (7 * n) := Int.pow_pos (by decide)
    omega⟩
  have main : ∀ (p : Nat), p ≤ 28 → (2 : Nat) ^ p ≤ m → m < 2 * 2 ^ p → andI .i64 (m : Int) ((2 ^ p - 1 : Nat) : Int) = ((m - 2 ^ p : Nat) : Int) := by
    intro p hp a1 a2
    have hb : (2 : Nat) ^ p ≤ 2 ^ 28 := Nat.pow_le_pow_right (by decide) hp
    have e28 : (2 : Nat) ^ 28 = 268435456 := by decide
    rw [and_mask (by omega) (by omega)]
    congr 1
    rw [Nat.mod_eq_sub_mod (by omega), Nat.mod_eq_of_lt (by omega)]
  have fin : ∀ (p : Nat) (x : Int), p ≤ 28 → (2 : Nat) ^ p ≤ m → m < 2 * 2 ^ p → x = ((2 ^ p - 1 : Nat) : Int) → 2 ≤ p → (bif (andI .i64 (m : Int) x != 0) then K (andI .i64 (m : Int) x != x) else K false) = K (decide ((2 : Int) ^ p < m ∧ (m : Int) < 2 * 2 ^ p - 1)) := by
    intro p x hp a1 a2 hx h2
    have e0 : ((2 ^ p : Nat) : Int) = (2 : Int) ^ p := Int.natCast_pow 2 p
    have hb : (2 : Nat) ^ 2 ≤ 2 ^ p := Nat.pow_le_pow_right (by decide) h2
    subst hx
    rw [main p hp a1 a2, bne_dec, bne_dec]
    by_cases z : m = 2 ^ p
    · rw [decide_eq_true (show ((m - 2 ^ p : Nat) : Int) = 0 by omega), decide_eq_false (show ¬ ((2 : Int) ^ p < m ∧ (m : Int) < 2 * 2 ^ p - 1) by omega)]; rfl
    · rw [decide_eq_false (show ¬ ((m - 2 ^ p : Nat) : Int) = 0 by omega)]
      simp only [Bool.not_false, cond_true]
      by_cases y : m = 2 * 2 ^ p - 1
      · rw [decide_eq_true (show ((m - 2 ^ p : Nat) : Int) = ((2 ^ p - 1 : Nat) : Int) by omega), decide_eq_false (show ¬ ((2 : Int) ^ p < m ∧ (m : Int) < 2 * 2 ^ p - 1) by omega)]; rfl
      · rw [decide_eq_false (show ¬ ((m - 2 ^ p : Nat) : Int) = ((2 ^ p - 1 : Nat) : Int) by omega), decide_eq_true (show ((2 : Int) ^ p < m ∧ (m : Int) < 2 * 2 ^ p - 1) by omega)]; rfl
  have nat : ∀ p : Nat, (2 : Int) ^ p ≤ (m : Int) → (m : Int) < 2 * 2 ^ p → (2 : Nat) ^ p ≤ m ∧ m < 2 * 2 ^ p := by
    intro p a b
    have e0 : ((2 ^ p : Nat) : Int) = (2 : Int) ^ p := Int.natCast_pow 2 p
    omega
  obtain ⟨b1, b2⟩ := nat _ l1 l2
  have : n = 1 ∨ n = 2 ∨ n = 3 ∨ n = 4 := by omega
  unfold isIdB
  rcases this with rfl | rfl | rfl | rfl
  · exact fin 7 _ (by decide) b1 b2 (by decide) (by decide)
  · exact fin 14 _ (by decide) b1 b2 (by decide) (by decide)
  · exact fin 21 _ (by decide) b1 b2 (by decide) (by decide)
  · exact fin 28 _ (by decide) b1 b2 (by decide) (by decide)
theorem f62_v (v : Int) {n : Nat} (h1 : 1 ≤ n) (h4 : n ≤ 4) : Ev fun k => ∀ (R : Type) (K : Bool → Option R), f62 k v (n : Int) K = K (isIdB v n) := by
  have fin : ∀ (p : Int), p > 0 → p < 1000000000 → ∀ (R : Type) (K : Bool → Option R), (bif decide (v > p) then K (decide (v < IntKind.i64.wrap (IntKind.i64.wrap (2 * p) - 1))) else K false) = K (decide (p < v ∧ v < 2 * p - 1)) := by
    intro p h0 hp R K
    have w1 : IntKind.i64.wrap (2 * p) = 2 * p := wrap64 (by omega) (by omega)
    have w2 : IntKind.i64.wrap (2 * p - 1) = 2 * p - 1 := wrap64 (by omega) (by omega)
    rw [w1, w2]
    by_cases a : v > p
    · rw [decide_eq_true a]
      by_cases b : v < 2 * p - 1
      · rw [decide_eq_true b, decide_eq_true (show p < v ∧ v < 2 * p - 1 from ⟨a, b⟩)]; rfl
      · rw [decide_eq_false b, decide_eq_false (show ¬ (p < v ∧ v < 2 * p - 1) from fun h => b h.2)]; rfl
    · rw [decide_eq_false a, decide_eq_false (show ¬ (p < v ∧ v < 2 * p - 1) from fun h => a h.1)]; rfl
  unfold isIdB
  have : n = 1 ∨ n = 2 ∨ n = 3 ∨ n = 4 := by omega
  rcases this with rfl | rfl | rfl | rfl
  · exact .suc (.suc (.all fun k R K => fin 128 (by decide) (by decide) R K))
  · exact .suc (.suc (.suc (.all fun k R K => fin 16384 (by decide) (by decide) R K)))
  · exact .suc (.suc (.suc (.suc (.all fun k R K => fin 2097152 (by decide) (by decide) R K))))
  · exact .suc (.suc (.suc (.suc (.suc (.all fun k R K => fin 268435456 (by decide) (by decide) R K)))))
theorem al1 (k : Nat) (R : Type) (K : Int → Option R) : f82 k ((1 : Nat) : Int) K = K (2 ^ (7 * 1) - 1) := by kernel_rfl
theorem mo1 (k : Nat) (R : Type) (K : Int → Option R) : f85 k ((1 : Nat) : Int) K = K (2 ^ (7 * 1) - 1) := by kernel_rfl
theorem al2 (k : Nat) (R : Type) (K : Int → Option R) : f82 k ((2 : Nat) : Int) K = K (2 ^ (7 * 2) - 1) := by kernel_rfl
theorem mo2 (k : Nat) (R : Type) (K : Int → Option R) : f85 k ((2 : Nat) : Int) K = K (2 ^ (7 * 2) - 1) := by kernel_rfl
theorem al3 (k : Nat) (R : Type) (K : Int → Option R) : f82 k ((3 : Nat) : Int) K = K (2 ^ (7 * 3) - 1) := by kernel_rfl
theorem mo3 (k : Nat) (R : Type) (K : Int → Option R) : f85 k ((3 : Nat) : Int) K = K (2 ^ (7 * 3) - 1) := by kernel_rfl
theorem al4 (k : Nat) (R : Type) (K : Int → Option R) : f82 k ((4 : Nat) : Int) K = K (2 ^ (7 * 4) - 1) := by kernel_rfl
theorem mo4 (k : Nat) (R : Type) (K : Int → Option R) : f85 k ((4 : Nat) : Int) K = K (2 ^ (7 * 4) - 1) := by kernel_rfl
theorem al5 (k : Nat) (R : Type) (K : Int → Option R) : f82 k ((5 : Nat) : Int) K = K (2 ^ (7 * 5) - 1) := by kernel_rfl
theorem mo5 (k : Nat) (R : Type) (K : Int → Option R) : f85 k ((5 : Nat) : Int) K = K (2 ^ (7 * 5) - 1) := by kernel_rfl
theorem al6 (k : Nat) (R : Type) (K : Int → Option R) : f82 k ((6 : Nat) : Int) K = K (2 ^ (7 * 6) - 1) := by kernel_rfl
theorem mo6 (k : Nat) (R : Type) (K : Int → Option R) : f85 k ((6 : Nat) : Int) K = K (2 ^ (7 * 6) - 1) := by kernel_rfl
theorem al7 (k : Nat) (R : Type) (K : Int → Option R) : f82 k ((7 : Nat) : Int) K = K (2 ^ (7 * 7) - 1) := by kernel_rfl
theorem mo7 (k : Nat) (R : Type) (K : Int → Option R) : f85 k ((7 : Nat) : Int) K = K (2 ^ (7 * 7) - 1) := by kernel_rfl
theorem al8 (k : Nat) (R : Type) (K : Int → Option R) : f82 k ((8 : Nat) : Int) K = K (2 ^ (7 * 8) - 1) := by kernel_rfl
theorem mo8 (k : Nat) (R : Type) (K : Int → Option R) : f85 k ((8 : Nat) : Int) K = K (2 ^ (7 * 8) - 1) := by kernel_rfl
theorem allN (n : Nat) (h : 1 ≤ n) (h' : n ≤ 8) (k : Nat) (R : Type) (K : Int → Option R) : f82 k (n : Int) K = K (2 ^ (7 * n) - 1) := by
  have : n = 1 ∨ n = 2 ∨ n = 3 ∨ n = 4 ∨ n = 5 ∨ n = 6 ∨ n = 7 ∨ n = 8 := by omega
  rcases this with rfl | rfl | rfl | rfl | rfl | rfl | rfl | rfl
  · exact al1 k R K
  · exact al2 k R K
  · exact al3 k R K
  · exact al4 k R K
  · exact al5 k R K
  · exact al6 k R K
  · exact al7 k R K
  · exact al8 k R K
theorem mostN (n : Nat) (h : 1 ≤ n) (h' : n ≤ 8) (k : Nat) (R : Type) (K : Int → Option R) : f85 k (n : Int) K = K (2 ^ (7 * n) - 1) := by
  have : n = 1 ∨ n = 2 ∨ n = 3 ∨ n = 4 ∨ n = 5 ∨ n = 6 ∨ n = 7 ∨ n = 8 := by omega
  rcases this with rfl | rfl | rfl | rfl | rfl | rfl | rfl | rfl
  · exact mo1 k R K
  · exact mo2 k R K
  · exact mo3 k R K
  · exact mo4 k R K
  · exact mo5 k R K
  · exact mo6 k R K
  · exact mo7 k R K
  · exact mo8 k R K
theorem D2.ind {P : D2 → Prop} (h : ∀ i d ks g, (∀ x ∈ ks, P x) → P (.mk i d ks g)) : ∀ n, P n := by
  intro n
  refine D2.rec (motive_1 := P) (motive_2 := fun l => ∀ x ∈ l, P x) (fun i d ks g ih => h i d ks g ih) (by simp) (fun a l ha hl => ?_) n
  intro x hx
  rcases List.mem_cons.1 hx with rfl | hx
  · exact ha
  · exact hl x hx
/-- A tree as it lies in memory. -/
inductive OkN : D2 → Prop
  | mk {i : Int} {d : List Int} {ks : List D2} {g : Bool} : -9223372036854775808 ≤ i ∧ i < 9223372036854775808 → okBy d → d.length ≤ reachBytes → ks.length * 64 ≤ reachBytes → (∀ x ∈ ks, OkN x) → OkN (.mk i d ks g)
def OkL (l : List D2) : Prop := l.length * 64 ≤ reachBytes ∧ ∀ x ∈ l, OkN x
theorem OkN.id {n : D2} (h : OkN n) : -9223372036854775808 ≤ n.c0 ∧ n.c0 < 9223372036854775808 := by cases h; assumption
theorem OkN.by {n : D2} (h : OkN n) : okBy n.c1 := by cases h; assumption
theorem OkN.kids {n : D2} (h : OkN n) : OkL n.c2 := by cases h; exact ⟨by assumption, by assumption⟩
/-- Two fuels, both large. -/
def EvB (p : Nat → Nat → Prop) : Prop := ∃ k0, ∀ q, k0 ≤ q → ∀ j, k0 ≤ j → p q j
theorem EvB.suc {p : Nat → Nat → Prop} (h : EvB fun q j => p q (j + 1)) : EvB p := by
  obtain ⟨a, ha⟩ := h
  refine ⟨a + 1, fun q hq j hj => ?_⟩
  obtain ⟨j, rfl⟩ : ∃ i, j = i + 1 := ⟨j - 1, by omega⟩
  exact ha q (by omega) j (by omega)
theorem EvB.all {p : Nat → Nat → Prop} (h : ∀ q j, p q j) : EvB p := ⟨0, fun q _ j _ => h q j⟩
theorem EvB.imp {p p' : Nat → Nat → Prop} (h : EvB p) (f : ∀ q j, p q j → p' q j) : EvB p' := by
  obtain ⟨a, ha⟩ := h
  exact ⟨a, fun q hq j hj => f q j (ha q hq j hj)⟩
theorem EvB.and {p p' : Nat → Nat → Prop} (h : EvB p) (h' : EvB p') : EvB fun q j => p q j ∧ p' q j := by
  obtain ⟨a, ha⟩ := h
  obtain ⟨b, hb⟩ := h'
  exact ⟨max a b, fun q hq j hj => ⟨ha q (by omega) j (by omega), hb q (by omega) j (by omega)⟩⟩
theorem EvB.left {p : Nat → Prop} (h : Ev p) : EvB fun q _ => p q := by
  obtain ⟨a, ha⟩ := h
  exact ⟨a, fun q hq j _ => ha q hq⟩
theorem EvB.diag {p : Nat → Nat → Prop} (h : EvB p) : Ev fun k => p k k := by
  obtain ⟨a, ha⟩ := h
  exact ⟨a, fun k hk => ha k hk k hk⟩
theorem EvB.down {p : Nat → Nat → Nat → Prop} (n : Nat) (h0 : EvB (p n)) (hs : ∀ i, i < n → EvB (p (i + 1)) → EvB (p i)) : ∀ i, i ≤ n → EvB (p i) := by
  intro i hi
  obtain ⟨m, rfl⟩ : ∃ m, n = i + m := ⟨n - i, by omega⟩
  clear hi
  induction m generalizing i with
  | zero => exact h0
  | succ m ih => exact hs i (by omega) (ih (i + 1) (by rw [show i + 1 + m = i + (m + 1) by omega]; exact h0) (fun j hj => hs j (by omega)))
/-- So many bytes of a number. -/
def beB : Nat → Int → List Int
  | 0, _ => []
  | n + 1, w => beB n (w / 256) ++ [w % 256]
theorem beB_len : ∀ (n : Nat) (w : Int), (beB n w).length = n
  | 0, _ => rfl
  | n + 1, w => by rw [beB, List.length_append, beB_len n]; rfl
theorem set_drop {out : List Int} {n : Nat} (h : n < out.length) (x : Int) : (out.set n x).drop n = x :: out.drop (n + 1) := by
  rw [List.drop_eq_getElem_cons (by simpa using h)]
  simp [List.drop_set]
theorem f91_loop (R : Type) : ∀ n, n ≤ 1000 → Ev fun k => ∀ (w : Int) (out : List Int) (X : List Int → Option R), n ≤ out.length → f91_l3 k w ((n : Int) - 1) out X = X (beB n w ++ out.drop n)
  | 0, _ => .suc (.all fun k w out X _ => by
    rw [f91_l3, deF (by omega)]; simp [beB])
  | n + 1, hn => by
    refine .suc ((f91_loop R n (by omega)).imp fun k hk w out X ho => ?_)
    have e : ((n + 1 : Nat) : Int) - 1 = (n : Int) := by omega
    rw [e, f91_l3, inb_nat, wr (by omega), wrapU8, shr8]
    simp only [deT (show (n : Int) ≥ 0 by omega), show n < out.length by omega, decide_true, cond_true, Int.toNat_natCast]
    rw [hk _ _ X (by simp; omega), set_drop (by omega), beB, List.append_assoc]; rfl
theorem f86_loop (R : Type) : ∀ n, n ≤ 1000 → Ev fun k => ∀ (w : Int) (out : List Int) (X : List Int → Option R), 0 ≤ w → w < 9223372036854775808 → n ≤ out.length → f86_l3 k w ((n : Int) - 1) out X = X (beB n w ++ out.drop n)
  | 0, _ => .suc (.all fun k w out X _ _ _ => by
    rw [f86_l3, deF (by omega)]; simp [beB])
  | n + 1, hn => by
    refine .suc ((f86_loop R n (by omega)).imp fun k hk w out X h0 h1 ho => ?_)
    have e : ((n + 1 : Nat) : Int) - 1 = (n : Int) := by omega
    have hd : w.tdiv 256 = w / 256 := Int.tdiv_eq_ediv_of_nonneg h0
    have hm : w.tmod 256 = w % 256 := Int.tmod_eq_emod_of_nonneg h0
    have w8 : IntKind.u8.wrap (w % 256) = w % 256 := wr8 (by omega)
    rw [e, f86_l3, inb_nat, wr (by omega), hd, hm, w8, wr (by omega)]
    simp only [deT (show (n : Int) ≥ 0 by omega), show n < out.length by omega, decide_true, cond_true, Int.toNat_natCast]
    rw [hk _ _ X (by omega) (by omega) (by simp; omega), set_drop (by omega), beB, List.append_assoc]; rfl
theorem f28_bytes (R : Type) : ∀ n, n ≤ 1000 → Ev fun k => ∀ (w : Int) (out : List Int) (X : List Int → Option R), 0 ≤ w → w < 9223372036854775808 → n ≤ out.length → f28_l7 k w ((n : Int) - 1) out X = X (beB n w ++ out.drop n)
  | 0, _ => .suc (.all fun k w out X _ _ _ => by
    rw [f28_l7, deF (by omega)]; simp [beB])
  | n + 1, hn => by
    refine .suc ((f28_bytes R n (by omega)).imp fun k hk w out X h0 h1 ho => ?_)
    have e : ((n + 1 : Nat) : Int) - 1 = (n : Int) := by omega
    have hd : w.tdiv 256 = w / 256 := Int.tdiv_eq_ediv_of_nonneg h0
    have hm : w.tmod 256 = w % 256 := Int.tmod_eq_emod_of_nonneg h0
    have w8 : IntKind.u8.wrap (w % 256) = w % 256 := wr8 (by omega)
    rw [e, f28_l7, inb_nat, wr (by omega), hd, hm, w8, wr (by omega)]
    simp only [deT (show (n : Int) ≥ 0 by omega), show n < out.length by omega, decide_true, cond_true, Int.toNat_natCast]
    rw [hk _ _ X (by omega) (by omega) (by simp; omega), set_drop (by omega), beB, List.append_assoc]; rfl
theorem mk_ok {n : Nat} (hn : n ≤ 1000) : ((decide ((0 : Int) ≤ (n : Int))) && (decide ((n : Int) ≤ (n : Int))) && (decide ((n : Int) * ((1 : Nat) : Int) ≤ 140737488355328))) = true := by
  simp; omega
theorem f91_v (R : Type) {n : Nat} (hn : n ≤ 1000) : Ev fun k => ∀ (w : Int) (K : List Int → Option R), f91 k w (n : Int) K = K (beB n w) :=
  (f91_loop R n hn).imp fun k hk w K => by
    simp only [f91, mk_ok hn, cond_true, Int.toNat_natCast]
    rw [wr (by omega), hk w _ K (by simp)]; simp
theorem f86_v (R : Type) {n : Nat} (hn : n ≤ 1000) : Ev fun k => ∀ (w : Int) (K : List Int → Option R), 0 ≤ w → w < 9223372036854775808 → f86 k w (n : Int) K = K (beB n w) :=
  (f86_loop R n hn).imp fun k hk w K h0 h1 => by
    simp only [f86, mk_ok hn, cond_true, Int.toNat_natCast]
    rw [wr (by omega), hk w _ K h0 h1 (by simp)]; simp
def vlFrom : Nat → Nat → Int → Nat
  | 0, n, _ => n
  | f + 1, n, v => if 2 ^ (7 * n) - 1 ≤ v then vlFrom f (n + 1) v else n
/-- How many bytes a number has. -/
def vl (v : Int) : Nat := vlFrom 7 1 v
theorem vlFrom_range : ∀ (f n : Nat) (v : Int), n ≤ vlFrom f n v ∧ vlFrom f n v ≤ n + f
  | 0, n, v => by simp [vlFrom]
  | f + 1, n, v => by
    rw [vlFrom]
    split
    · have := vlFrom_range f (n + 1) v; omega
    · omega
theorem vl_range (v : Int) : 1 ≤ vl v ∧ vl v ≤ 8 := vlFrom_range 7 1 v
def vintW (v : Int) : List Int := beB (vl v) (v + 2 ^ (7 * vl v))
theorem p7 {n : Nat} (h : n ≤ 8) : (2 : Int) ^ (7 * n) ≤ 72057594037927936 := by
  have h2 : (2 : Nat) ^ (7 * n) ≤ 72057594037927936 := Nat.le_trans (Nat.pow_le_pow_right (by decide) (show 7 * n ≤ 56 by omega)) (by decide)
  have e : ((2 ^ (7 * n) : Nat) : Int) = (2 : Int) ^ (7 * n) := Int.natCast_pow 2 (7 * n)
  omega
theorem f52_loop (R : Type) (v : Int) : ∀ f n : Nat, n + f = 8 → 1 ≤ n → Ev fun k => ∀ (X : Int → Int → Option R), f52_l5 k v (n : Int) X = X v (vlFrom f n v : Int)
  | 0, n, h, _ => .suc (.all fun k X => by
    have : n = 8 := by omega
    subst this
    rw [f52_l5]; rfl)
  | f + 1, n, h, h1 => by
    refine .suc ((f52_loop R v f (n + 1) (by omega) (by omega)).imp fun k hk X => ?_)
    rw [f52_l5, ifT (by omega), allN n h1 (by omega), wrapSuc (by omega), vlFrom]
    by_cases c : 2 ^ (7 * n) - 1 ≤ v
    · rw [ifT c, if_pos c, hk]
    · rw [ifF c, if_neg c]
theorem f54_loop2 (R : Type) (v : Int) : ∀ f n : Nat, n + f = 8 → 1 ≤ n → Ev fun k => ∀ (X : Int → Int → Option R), f54_l5 k v (n : Int) X = X v (vlFrom f n v : Int)
  | 0, n, h, _ => .suc (.all fun k X => by
    have : n = 8 := by omega
    subst this
    rw [f54_l5]; rfl)
  | f + 1, n, h, h1 => by
    refine .suc ((f54_loop2 R v f (n + 1) (by omega) (by omega)).imp fun k hk X => ?_)
    rw [f54_l5, ifT (by omega), mostN n h1 (by omega), wrapSuc (by omega), vlFrom]
    by_cases c : 2 ^ (7 * n) - 1 ≤ v
    · rw [ifT c, if_pos c, hk]
    · rw [ifF c, if_neg c]
theorem shl1 {n : Nat} (h : 1 ≤ n) (h' : n ≤ 8) : IntKind.i64.wrap (7 * (n : Int)) = 7 * n ∧ decide (IntKind.i64.wrap (7 * (n : Int)) < 0) = false ∧ shlI .u64 1 (IntKind.i64.wrap (7 * (n : Int))) = 2 ^ (7 * n) ∧
    decide (IntKind.u64.wrap (IntKind.i64.wrap (7 * (n : Int))) < 0) = false ∧ shlI .i64 1 (IntKind.u64.wrap (IntKind.i64.wrap (7 * (n : Int)))) = 2 ^ (7 * n) := by
  have : n = 1 ∨ n = 2 ∨ n = 3 ∨ n = 4 ∨ n = 5 ∨ n = 6 ∨ n = 7 ∨ n = 8 := by omega
  rcases this with rfl | rfl | rfl | rfl | rfl | rfl | rfl | rfl <;> decide
theorem f83_v (R : Type) {n : Nat} (h : 1 ≤ n) (h' : n ≤ 8) : Ev fun k => ∀ (v : Int) (K : List Int → Option R), 0 ≤ v → v < 2 ^ (7 * n) → f83 k v (n : Int) K = K (beB n (v + 2 ^ (7 * n))) :=
  (f91_v R (n := n) (by omega)).imp fun k hk v K h0 h1 => by
    obtain ⟨a1, a2, a3, _, _⟩ := shl1 h h'
    simp only [f83, a2, cond_false, a3]
    rw [or_add h0 h1 (by omega), hk]
theorem f52_all (R : Type) (v : Int) : Ev fun k => ∀ (K : Int → List Int → Option R), f52 k v 0 K = if v < 0 ∨ 2 ^ (7 * vl v) - 1 ≤ v then K 1 [] else K 0 (vintW v) := by
  have vr := vl_range v
  refine (f52_loop R v 7 1 (by omega) (by omega)).imp2 (f83_v R vr.1 vr.2) fun k hl hm K => ?_
  have z : ((0 : Int) == 0) = true := rfl
  have z0 : decide ((0 : Int) < 0) = false := rfl
  have z8 : decide ((0 : Int) > 8) = false := rfl
  by_cases c : v < 0
  · rw [if_pos (.inl c)]
    simp only [f52, z0, z8, cond_false, deT c, cond_true]
  · simp only [f52, z0, z8, cond_false, deF c, z, cond_true]
    rw [show (1 : Int) = ((1 : Nat) : Int) from rfl, hl]
    show f82 k (vl v : Int) _ = _
    rw [allN (vl v) vr.1 vr.2]
    by_cases d : 2 ^ (7 * vl v) - 1 ≤ v
    · rw [ifT d, if_pos (.inr d)]
    · have pp := p7 vr.2
      rw [ifF d, if_neg (by omega), wrU (by omega)]
      show f83 k v (vl v : Int) _ = _
      rw [hm v _ (by omega) (by omega)]; rfl
theorem f54_all (R : Type) (v : Int) : Ev fun k => ∀ (K : Int → List Int → Option R), f54 k v 0 K = if v < 0 ∨ 2 ^ (7 * vl v) - 1 ≤ v then K 1 [] else K 0 (vintW v) := by
  have vr := vl_range v
  refine (f54_loop2 R v 7 1 (by omega) (by omega)).imp2 (f86_v R (n := vl v) (by omega)) fun k hl hm K => ?_
  have z : ((0 : Int) == 0) = true := rfl
  have z0 : decide ((0 : Int) < 0) = false := rfl
  have z8 : decide ((0 : Int) > 8) = false := rfl
  by_cases c : v < 0
  · rw [if_pos (.inl c)]
    simp only [f54, z0, z8, cond_false, deT c, cond_true]
  · simp only [f54, z0, z8, cond_false, deF c, z, cond_true]
    have hl' : ∀ X, f54_l5 k v 1 X = X v (vlFrom 7 1 v : Int) := hl
    rw [hl']
    show f85 k (vl v : Int) _ = _
    rw [mostN (vl v) vr.1 vr.2]
    by_cases d : 2 ^ (7 * vl v) - 1 ≤ v
    · rw [ifT d, if_pos (.inr d)]
    · have pp := p7 vr.2
      obtain ⟨_, _, _, a4, a5⟩ := shl1 vr.1 vr.2
      have a4' : decide (IntKind.u64.wrap (IntKind.i64.wrap (7 * (vlFrom 7 1 v : Int))) < 0) = false := a4
      have a5' : shlI .i64 1 (IntKind.u64.wrap (IntKind.i64.wrap (7 * (vlFrom 7 1 v : Int)))) = 2 ^ (7 * vl v) := a5
      rw [ifF d, if_neg (by omega), a4', a5', wr (by omega)]
      show f86 k (v + 2 ^ (7 * vl v)) (vl v : Int) _ = _
      rw [hm _ _ (by omega) (by omega)]; rfl
instance (v : Int) (n : Nat) : Decidable (Marked v n) := inferInstanceAs (Decidable (_ ∧ _))
def idN (id : Int) : Nat := if isIdB id 1 = true then 1 else if isIdB id 2 = true then 2 else if isIdB id 3 = true then 3 else if isIdB id 4 = true then 4 else 0
theorem isId_lt {id : Int} {n : Nat} (h4 : n ≤ 4) (h : isIdB id n = true) : Marked id n ∧ 0 ≤ id ∧ id < 1073741824 := by
  unfold isIdB at h
  have h := of_decide_eq_true h
  have hp : (0 : Int) < 2 ^ (7 * n) := Int.pow_pos (by decide)
  have pp : (2 : Int) ^ (7 * n) ≤ 268435456 := by
    have h2 : (2 : Nat) ^ (7 * n) ≤ 268435456 := Nat.le_trans (Nat.pow_le_pow_right (by decide) (show 7 * n ≤ 28 by omega)) (by decide)
    have e : ((2 ^ (7 * n) : Nat) : Int) = (2 : Int) ^ (7 * n) := Int.natCast_pow 2 (7 * n)
    omega
  exact ⟨⟨by omega, by omega⟩, by omega, by omega⟩
theorem shr_mark {id : Int} {n : Nat} (h1 : 1 ≤ n) (h4 : n ≤ 4) : decide (IntKind.i64.wrap (7 * (n : Int)) < 0) = false ∧ (shrI .i64 id (IntKind.i64.wrap (7 * (n : Int))) == 1) = decide (Marked id n) := by
  have key : ∀ p : Nat, 0 < p → ((id.fdiv (p : Int) == 1) = decide ((p : Int) ≤ id ∧ id < 2 * (p : Int))) := by
    intro p hp
    rw [beq_dec, Int.fdiv_eq_ediv_of_nonneg _ (by omega)]
    congr 1
    apply propext
    constructor
    · intro h
      have h1 := Int.mul_ediv_add_emod id (p : Int)
      have h2 := Int.emod_nonneg id (show (p : Int) ≠ 0 by omega)
      have h3 := Int.emod_lt_of_pos id (show (0 : Int) < p by omega)
      rw [h] at h1; omega
    · rintro ⟨a, b⟩
      refine Int.le_antisymm ?_ ?_
      · have : id / (p : Int) < 2 := Int.ediv_lt_of_lt_mul (by omega) b
        omega
      · exact Int.le_ediv_of_mul_le (by omega) (by omega)
  have : n = 1 ∨ n = 2 ∨ n = 3 ∨ n = 4 := by omega
  unfold Marked
  rcases this with rfl | rfl | rfl | rfl
  · exact ⟨by decide, key 128 (by decide)⟩
  · exact ⟨by decide, key 16384 (by decide)⟩
  · exact ⟨by decide, key 2097152 (by decide)⟩
  · exact ⟨by decide, key 268435456 (by decide)⟩
theorem f61_v (R : Type) {n : Nat} (h1 : 1 ≤ n) (h4 : n ≤ 4) {id : Int} (h : isIdB id n = true) : Ev fun k => ∀ (K : Int → List Int → Option R), f61 k id (n : Int) K = K 0 (beB n id) := by
  obtain ⟨m, l1, l2⟩ := isId_lt h4 h
  refine (f91_v R (n := n) (by omega)).imp fun k hk K => ?_
  have sh : decide (IntKind.i64.wrap (8 * (n : Int)) < 0) = false ∧ decide (shrI .i64 id (IntKind.i64.wrap (8 * (n : Int))) > 0) = false := by
    have key : ∀ p : Nat, id < p → decide (id.fdiv (p : Int) > 0) = false := by
      intro p hp
      rw [Int.fdiv_eq_ediv_of_nonneg _ (by omega), Int.ediv_eq_zero_of_lt l1 hp]; rfl
    have m2 := m.2
    have : n = 1 ∨ n = 2 ∨ n = 3 ∨ n = 4 := by omega
    rcases this with rfl | rfl | rfl | rfl
    · exact ⟨by decide, key 256 (by simp at m2; omega)⟩
    · exact ⟨by decide, key 65536 (by simp at m2; omega)⟩
    · exact ⟨by decide, key 16777216 (by simp at m2; omega)⟩
    · exact ⟨by decide, key 4294967296 (by simp at m2; omega)⟩
  simp (disch := omega) only [f61, deF, deT, cond_false, cond_true, sh.1, sh.2, wrU, hk]
theorem f27_v (R : Type) (id : Int) : Ev fun k => ∀ (K : Int → List Int → Option R), f27 k id K = if idN id = 0 then K 40 [] else K 0 (beB (idN id) id) := by
  -- a round
  have step : ∀ n, 1 ≤ n → n ≤ 4 → ∀ r : (Option R) → (Int → List Int → Option R) → Option R, (Ev fun k => ∀ X0 X1, f27_l2 k id ((n + 1 : Nat) : Int) X0 X1 = r X0 X1) → Ev fun k => ∀ X0 X1, f27_l2 k id (n : Int) X0 X1 = if isIdB id n = true then X1 0 (beB n id) else r X0 X1 := by
    intro n h1 h4 r h
    obtain ⟨s1, s2⟩ := shr_mark (id := id) h1 h4
    by_cases c : isIdB id n = true
    · refine .suc ((f61_v R h1 h4 c).imp fun k hk X0 X1 => ?_)
      rw [if_pos c, f27_l2, ifT (by omega), s1, s2, deT (isId_lt h4 c).1]
      simp only [cond_true, cond_false, f60_v h1 h4 (isId_lt h4 c).1, c, hk]
    · refine .suc (h.imp fun k hk X0 X1 => ?_)
      rw [if_neg c, f27_l2, ifT (by omega), s1, s2, wrapSuc (by omega)]
      by_cases m : Marked id n
      · have c : isIdB id n = false := by simpa using c
        rw [deT m]
        simp only [cond_true, cond_false, f60_v h1 h4 m, c, hk]
      · rw [deF m]
        simp only [cond_false, hk]
  have e5 : Ev fun k => ∀ (X0 : Option R) (X1 : Int → List Int → Option R), f27_l2 k id ((4 + 1 : Nat) : Int) X0 X1 = X0 := .suc (.all fun k X0 X1 => by rw [f27_l2]; rfl)
  refine (step 1 (by omega) (by omega) _ (step 2 (by omega) (by omega) _ (step 3 (by omega) (by omega) _ (step 4 (by omega) (by omega) (fun X0 _ => X0) e5)))).imp fun k hk K => ?_
  rw [f27, show (1 : Int) = ((1 : Nat) : Int) from rfl, hk]
  unfold idN
  by_cases c1 : isIdB id 1 = true
  · simp [c1]
  · by_cases c2 : isIdB id 2 = true
    · simp [c1, c2]
    · by_cases c3 : isIdB id 3 = true
      · simp [c1, c2, c3]
      · by_cases c4 : isIdB id 4 = true
        · simp [c1, c2, c3, c4]
        · simp [c1, c2, c3, c4]
theorem f28_v (R : Type) (id : Int) : Ev fun k => ∀ (K : Int → List Int → Option R), f28 k id K = if idN id = 0 then K 40 [] else K 0 (beB (idN id) id) := by
  have step : ∀ n, 1 ≤ n → n ≤ 4 → ∀ r : (Option R) → (Int → List Int → Option R) → Option R, (Ev fun k => ∀ X0 X1, f28_l2 k id ((n + 1 : Nat) : Int) X0 X1 = r X0 X1) → Ev fun k => ∀ X0 X1, f28_l2 k id (n : Int) X0 X1 = if isIdB id n = true then X1 0 (beB n id) else r X0 X1 := by
    intro n h1 h4 r h
    by_cases c : isIdB id n = true
    · refine .suc ((f62_v id h1 h4).imp2 (f28_bytes R n (by omega)) fun k h62 hk X0 X1 => ?_)
      rw [if_pos c, f28_l2, ifT (by omega), h62, c, mk_ok (by omega)]
      simp only [Bool.not_true, cond_true, cond_false, Int.toNat_natCast]
      obtain ⟨_, l1, l2⟩ := isId_lt h4 c
      rw [wr (by omega), hk _ _ _ l1 (by omega) (by simp)]; simp
    · refine .suc ((f62_v id h1 h4).imp2 h fun k h62 hk X0 X1 => ?_)
      have c' : isIdB id n = false := by simpa using c
      rw [if_neg c, f28_l2, ifT (by omega), h62, c', wrapSuc (by omega)]
      simp only [Bool.not_false, cond_true, hk]
  have e5 : Ev fun k => ∀ (X0 : Option R) (X1 : Int → List Int → Option R), f28_l2 k id ((4 + 1 : Nat) : Int) X0 X1 = X0 := .suc (.all fun k X0 X1 => by rw [f28_l2]; rfl)
  refine (step 1 (by omega) (by omega) _ (step 2 (by omega) (by omega) _ (step 3 (by omega) (by omega) _ (step 4 (by omega) (by omega) (fun X0 _ => X0) e5)))).imp fun k hk K => ?_
  rw [f28, show (1 : Int) = ((1 : Nat) : Int) from rfl, hk]
  unfold idN
  by_cases c1 : isIdB id 1 = true
  · simp [c1]
  · by_cases c2 : isIdB id 2 = true
    · simp [c1, c2]
    · by_cases c3 : isIdB id 3 = true
      · simp [c1, c2, c3]
      · by_cases c4 : isIdB id 4 = true
        · simp [c1, c2, c3, c4]
        · simp [c1, c2, c3, c4]
/-- How many bytes a number of variable length has. -/
def vlen (c : Int) : Int := if c < 0 ∨ 2 ^ (7 * vl c) - 1 ≤ c then 0 else (vl c : Int)
theorem vlen_52 (R : Type) (v : Int) : Ev fun k => ∀ (K : Int → List Int → Option R), ∃ e l, (l.length : Int) = vlen v ∧ f52 k v 0 K = K e l := by
  refine (f52_all R v).imp fun k hk K => ?_
  rw [hk]
  unfold vlen
  split
  · exact ⟨1, [], rfl, rfl⟩
  · exact ⟨0, vintW v, by rw [vintW, beB_len], rfl⟩
theorem vlen_54 (R : Type) (v : Int) : Ev fun k => ∀ (K : Int → List Int → Option R), ∃ e l, (l.length : Int) = vlen v ∧ f54 k v 0 K = K e l := by
  refine (f54_all R v).imp fun k hk K => ?_
  rw [hk]
  unfold vlen
  split
  · exact ⟨1, [], rfl, rfl⟩
  · exact ⟨0, vintW v, by rw [vintW, beB_len], rfl⟩
def headL (id c : Int) : Int := IntKind.i64.wrap (IntKind.i64.wrap ((idN id : Int) + vlen c) + c)
mutual
def sizeN : D2 → Int
  | .mk i d ks g => if idN i = 0 then 0 else if g = true then (match sizeK ks 0 with
    | none => 0
    | some c => headL i c) else headL i (d.length : Int)
def sizeK : List D2 → Int → Option Int
  | [], c => some c
  | x :: l, c => if sizeN x = 0 then none else sizeK l (IntKind.i64.wrap (c + sizeN x))
end
theorem f35_loop (R : Type) (l : List D2) (hb : l.length * 64 ≤ reachBytes) (v : List Int) (h : ∀ i (h : i < l.length), Ev fun k => ∀ (K : Int → Option R), f35 k l[i].c0 l[i].c1 l[i].c2 l[i].c3 K = K (sizeN l[i])) :
    ∀ i, i ≤ l.length → EvB fun q j => ∀ (c : Int) (X0 : Int → List Int → Option R) (X1 : Int → Option R), f35_l8 (fun _ => f35 q) j c l (l.length : Int) (i : Int) v X0 X1 = match sizeK (l.drop i) c with
      | none => X1 0
      | some c => X0 c v := by
  rw [reachV] at hb
  refine EvB.down l.length ?_ ?_
  · refine EvB.suc (.all fun q j c X0 X1 => ?_)
    rw [List.drop_length, sizeK, f35_l8, ifF (by omega)]
  · intro i hi ih
    refine EvB.suc ((ih.and (.left (h i hi))).imp fun q j hk c X0 X1 => ?_)
    obtain ⟨hk, h35⟩ := hk
    rw [List.drop_eq_getElem_cons hi, sizeK, f35_l8, lt_nat, inb_nat, wrapSuc (by omega)]
    simp only [hi, decide_true, cond_true, Int.toNat_natCast, getD_get hi, h35]
    rw [beq_dec]
    by_cases z : sizeN l[i] = 0
    · rw [ifT z, if_pos z]
    · rw [ifF z, if_neg z, hk]
theorem f36_loop (R : Type) (l : List D2) (hb : l.length * 64 ≤ reachBytes) (x : Int) (y : List Int) (z : Bool) (v : List Int) (h : ∀ i (h : i < l.length), Ev fun k => ∀ (K : Int → Option R), f36 k l[i].c0 l[i].c1 l[i].c2 l[i].c3 K = K (sizeN l[i])) :
    ∀ i, i ≤ l.length → EvB fun q j => ∀ (c : Int) (X0 : Int → List Int → Option R) (X1 : Int → Option R), f36_l8 (fun _ => f36 q) j c (i : Int) x y l z v X0 X1 = match sizeK (l.drop i) c with
      | none => X1 0
      | some c => X0 c v := by
  rw [reachV] at hb
  refine EvB.down l.length ?_ ?_
  · refine EvB.suc (.all fun q j c X0 X1 => ?_)
    rw [List.drop_length, sizeK, f36_l8, ifF (by omega)]
  · intro i hi ih
    refine EvB.suc ((ih.and (.left (h i hi))).imp fun q j hk c X0 X1 => ?_)
    obtain ⟨hk, h36⟩ := hk
    rw [List.drop_eq_getElem_cons hi, sizeK, f36_l8, lt_nat, inb_nat, wrapSuc (by omega)]
    simp only [hi, decide_true, cond_true, Int.toNat_natCast, getD_get hi, h36]
    rw [beq_dec]
    by_cases z : sizeN l[i] = 0
    · rw [ifT z, if_pos z]
    · rw [ifF z, if_neg z, hk]
theorem f35_v (R : Type) : ∀ n : D2, OkN n → Ev fun k => ∀ (K : Int → Option R), f35 k n.c0 n.c1 n.c2 n.c3 K = K (sizeN n) := by
  intro n
  refine D2.ind (P := fun n => OkN n → Ev fun k => ∀ (K : Int → Option R), f35 k n.c0 n.c1 n.c2 n.c3 K = K (sizeN n)) (fun i d ks g ih ho => ?_) n
  refine .suc ?_
  show Ev fun k => ∀ (K : Int → Option R), f35 (k + 1) i d ks g K = K (sizeN (.mk i d ks g))
  by_cases z : idN i = 0
  · refine (f27_v R i).imp fun k hk K => ?_
    simp only [if_pos z] at hk
    rw [f35_step, f35_s, hk, bnT (by decide), sizeN, if_pos z]; rfl
  · cases g with
    | false =>
      refine (f27_v R i).imp2 (vlen_52 R (d.length : Int)) fun k hk hv K => ?_
      simp only [if_neg z] at hk
      obtain ⟨e, l, hl, hv⟩ := hv (fun _v14 v15 => K (IntKind.i64.wrap (IntKind.i64.wrap (((beB (idN i) i).length : Int) + (v15.length : Int)) + (d.length : Int))))
      rw [f35_step, f35_s, hk, bnF rfl]
      simp only [cond_false]
      rw [hv, hl, beB_len, sizeN, if_neg z, if_neg (by decide)]; rfl
    | true =>
      have lp := (f35_loop R ks ho.kids.1 (beB (idN i) i) (fun j hj => ih _ (List.getElem_mem hj) (ho.kids.2 _ (List.getElem_mem hj))) 0 (by omega)).diag
      cases hs : sizeK ks 0 with
      | none =>
        refine (f27_v R i).imp2 lp fun k hk hl K => ?_
        simp only [if_neg z] at hk
        simp only [Int.natCast_zero, List.drop_zero, hs] at hl
        rw [f35_step, f35_s, hk, bnF rfl]
        simp only [cond_false, cond_true]
        rw [hl, sizeN, if_neg z, if_pos rfl, hs]
      | some c =>
        refine (f27_v R i).imp3 lp (vlen_52 R c) fun k hk hl hv K => ?_
        simp only [if_neg z] at hk
        simp only [Int.natCast_zero, List.drop_zero, hs] at hl
        obtain ⟨e, l, hl2, hv⟩ := hv (fun _v11 v12 => K (IntKind.i64.wrap (IntKind.i64.wrap (((beB (idN i) i).length : Int) + (v12.length : Int)) + c)))
        rw [f35_step, f35_s, hk, bnF rfl]
        simp only [cond_false, cond_true]
        rw [hl, hs]
        dsimp only
        rw [hv, hl2, beB_len, sizeN, if_neg z, if_pos rfl, hs]; rfl
theorem f36_v (R : Type) : ∀ n : D2, OkN n → Ev fun k => ∀ (K : Int → Option R), f36 k n.c0 n.c1 n.c2 n.c3 K = K (sizeN n) := by
  intro n
  refine D2.ind (P := fun n => OkN n → Ev fun k => ∀ (K : Int → Option R), f36 k n.c0 n.c1 n.c2 n.c3 K = K (sizeN n)) (fun i d ks g ih ho => ?_) n
  refine .suc ?_
  show Ev fun k => ∀ (K : Int → Option R), f36 (k + 1) i d ks g K = K (sizeN (.mk i d ks g))
  by_cases z : idN i = 0
  · refine (f28_v R i).imp fun k hk K => ?_
    simp only [if_pos z] at hk
    rw [f36_step, f36_s, hk, bnT (by decide), sizeN, if_pos z]; rfl
  · cases g with
    | false =>
      refine (f28_v R i).imp2 (vlen_54 R (d.length : Int)) fun k hk hv K => ?_
      simp only [if_neg z] at hk
      obtain ⟨e, l, hl, hv⟩ := hv (fun _v14 v15 => K (IntKind.i64.wrap (IntKind.i64.wrap (((beB (idN i) i).length : Int) + (v15.length : Int)) + (d.length : Int))))
      rw [f36_step, f36_s, hk, bnF rfl]
      simp only [cond_false]
      rw [hv, hl, beB_len, sizeN, if_neg z, if_neg (by decide)]; rfl
    | true =>
      have lp := (f36_loop R ks ho.kids.1 i d true (beB (idN i) i) (fun j hj => ih _ (List.getElem_mem hj) (ho.kids.2 _ (List.getElem_mem hj))) 0 (by omega)).diag
      cases hs : sizeK ks 0 with
      | none =>
        refine (f28_v R i).imp2 lp fun k hk hl K => ?_
        simp only [if_neg z] at hk
        simp only [Int.natCast_zero, List.drop_zero, hs] at hl
        rw [f36_step, f36_s, hk, bnF rfl]
        simp only [cond_false, cond_true]
        rw [hl, sizeN, if_neg z, if_pos rfl, hs]
      | some c =>
        refine (f28_v R i).imp3 lp (vlen_54 R c) fun k hk hl hv K => ?_
        simp only [if_neg z] at hk
        simp only [Int.natCast_zero, List.drop_zero, hs] at hl
        obtain ⟨e, l, hl2, hv⟩ := hv (fun _v11 v12 => K (IntKind.i64.wrap (IntKind.i64.wrap (((beB (idN i) i).length : Int) + (v12.length : Int)) + c)))
        rw [f36_step, f36_s, hk, bnF rfl]
        simp only [cond_false, cond_true]
        rw [hl, hs]
        dsimp only
        rw [hv, hl2, beB_len, sizeN, if_neg z, if_pos rfl, hs]; rfl
theorem elementSizes_plain (n : D2) (h : OkN n) : ∃ k, f9 (R := Bool) k n.c0 n.c1 n.c2 n.c3 some = some true := by
  refine Ev.some ?_
  refine (f35_v Bool n h).imp3 (f36_v Bool n h) awake_v fun k h1 h2 h3 => ?_
  simp only [f9, h1, h2, beq_self_eq_true, cond_true, h3]
theorem ownKn : ownKnob Try.prog.godebug = none := by kernel_rfl
theorem laidOut : laidOutB Try.prog = true := by kernel_rfl
noncomputable def naming : Naming cx where
  flds := flds
  toT := toT
  ofT := ofT
  plain := fun r => match r with
    | 0 => rfl
    | 1 => rfl
    | 2 => rfl
    | 3 => rfl
    | 4 => rfl
    | 5 => rfl
    | 6 => rfl
    | 7 => rfl
    | 8 => rfl
    | 9 => rfl
    | 10 => rfl
    | 11 => rfl
    | _n + 12 => rfl
  to_of := fun r x => match r, x with
    | 0, _ => rfl
    | 1, _ => rfl
    | 2, _ => rfl
    | 3, _ => rfl
    | 4, _ => rfl
    | 5, _ => rfl
    | 6, _ => rfl
    | 7, _ => rfl
    | 8, _ => rfl
    | 9, _ => rfl
    | 10, _ => rfl
    | 11, _ => rfl
    | _n + 12, _ => rfl
  deep := fun r v => match r, v with
    | 0, _ => rfl
    | 1, _ => rfl
    | 2, v => deep2_eq v
    | 3, _ => rfl
    | 4, _ => rfl
    | 5, _ => rfl
    | 6, _ => rfl
    | 7, _ => rfl
    | 8, _ => rfl
    | 9, _ => rfl
    | 10, _ => rfl
    | 11, _ => rfl
    | _n + 12, _ => rfl
theorem fit : Fit naming Try.prog := fit_of (tab := tab) rfl (by kernel_rfl)
theorem wf_bytes {z : Nat} {l : List Int} (h : WfIV (.list z (l.map fun y => [.int .u8 y]))) : l.length ≤ reachBytes ∧ ∀ n ∈ l, 0 ≤ n ∧ n < 256 := by
  cases h with
  | list h1 h2 _ =>
    refine ⟨by simpa using h1, fun n hn => ?_⟩
    have := h2 _ (List.mem_map.2 ⟨n, hn, rfl⟩) _ (List.mem_singleton.2 rfl)
    cases this with
    | int h3 => simp [Lit.wf, IntKind.min, IntKind.max, IntKind.signed, IntKind.bits] at h3; omega
theorem wf_int {n : Int} (h : WfIV (.int .i64 n)) : -9223372036854775808 ≤ n ∧ n < 9223372036854775808 := by
  cases h with
  | int h3 => simp [Lit.wf, IntKind.min, IntKind.max, IntKind.signed, IntKind.bits] at h3; omega
theorem deep2_mk (i : Int) (d : List Int) (ks : List D2) (g : Bool) : deep2 (.mk i d ks g) = [.int .i64 i, .list 1 (d.map fun y => [.int .u8 y]), .list 4 (deep2s ks), .bool g] := by rw [deep2]; rfl
theorem okL_wf {ks : List D2} (h : WfIV (.list 4 (deep2s ks))) (ih : ∀ x ∈ ks, (∀ iv ∈ deep2 x, WfIV iv) → OkN x) : OkL ks := by
  rw [deep2s_map] at h
  cases h with
  | list h1 h2 h3 =>
    refine ⟨?_, fun x hx => ih x hx (h2 _ (List.mem_map.2 ⟨x, hx, rfl⟩))⟩
    cases ks with
    | nil => simp
    | cons x ks =>
      have h4 := h3 (deep2 x) (by simp)
      obtain ⟨i, d, k, g⟩ := x
      rw [deep2_mk] at h4
      have e : lay (List.map cellB [IV.int IntKind.i64 i, IV.list 1 (d.map fun y => [.int .u8 y]), IV.list 4 (deep2s k), IV.bool g]) = 64 := by kernel_rfl
      rw [List.length_map, e] at h4
      exact h4
theorem okN_wf (n : D2) : (∀ iv ∈ deep2 n, WfIV iv) → OkN n := by
  refine D2.ind (P := fun n => (∀ iv ∈ deep2 n, WfIV iv) → OkN n) (fun i d ks g ih h => ?_) n
  rw [deep2_mk] at h
  have hd := wf_bytes (h (.list 1 (d.map fun y => [.int .u8 y])) (by simp))
  have hk := okL_wf (h (.list 4 (deep2s ks)) (by simp)) ih
  exact .mk (wf_int (h (.int .i64 i) (by simp))) hd.2 hd.1 hk.1 hk.2
end Go.Proofs.Ytklhjegfkpmdoaa
