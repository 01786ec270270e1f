/- Proved: the bytes of any tree by the program and by the document are the same. Conditions: the tree is of bounded bulk. -/
import Derived.Test.YtklhjegfkpmdoaaElWalk2
import Derived.Test.YtklhjegfkpmdoaaRows
import Derived.JoinedOf

namespace Go.Proofs.Ytklhjegfkpmdoaa
open Go Go.Am
theorem awake_v : Ev fun k => ∀ (R : Type) (K : Bool → Option R), f18 k K = K true := by
  refine .plus 100 (.all fun k R K => ?_)
  kernel_rfl
theorem wrapU8 (x : Int) : IntKind.u8.wrap x = x % 256 := by
  simp [IntKind.wrap, IntKind.signed, IntKind.bits]
theorem wrapU64 {x : Int} (h : 0 ≤ x) (h' : x < 18446744073709551616) : IntKind.u64.wrap x = x := by
  simp [IntKind.wrap, IntKind.signed, IntKind.bits]; omega
theorem shr8 (w : Int) : shrI .u64 w 8 = w / 256 := by
  have : (min (8 : Int).toNat IntKind.u64.bits) = 8 := rfl
  unfold shrI
  rw [this, Int.fdiv_eq_ediv_of_nonneg _ (by decide)]
  rfl
theorem or_add {a : Int} {m : Nat} (h : 0 ≤ a) (h' : a < 2 ^ m) (hm : m < 60) : orI .u64 a (2 ^ m) = a + 2 ^ m := by
  obtain ⟨n, rfl⟩ : ∃ n : Nat, a = n := ⟨a.toNat, by omega⟩
  have h2 : n < 2 ^ m := by exact_mod_cast h'
  have h3 : 2 ^ m < 2 ^ 60 := Nat.pow_lt_pow_right (by decide) hm
  have e1 : (BitVec.ofInt IntKind.u64.bits (n : Int)).toNat = n := by
    show (BitVec.ofInt 64 (n : Int)).toNat = n
    rw [BitVec.toNat_ofInt]
    have : ((n : Int) % ((2 ^ 64 : Nat) : Int)) = n := by
      rw [Int.emod_eq_of_lt (by omega)]
      have : 2 ^ 60 < 2 ^ 64 := by decide
      omega
    rw [this]; rfl
  have e2 : (BitVec.ofInt IntKind.u64.bits ((2 : Int) ^ m)).toNat = 2 ^ m := by
    show (BitVec.ofInt 64 ((2 : Int) ^ m)).toNat = 2 ^ m
    have e : ((2 : Int) ^ m) = ((2 ^ m : Nat) : Int) := by simp
    rw [e, BitVec.toNat_ofInt]
    have : (((2 ^ m : Nat) : Int) % ((2 ^ 64 : Nat) : Int)) = ((2 ^ m : Nat) : Int) := by
      rw [Int.emod_eq_of_lt (by omega)]
      have : 2 ^ 60 < 2 ^ 64 := by decide
      omega
    rw [this]; rfl
  unfold orI
  rw [BitVec.toNat_or, e1, e2, Nat.or_comm]
  have := Nat.two_pow_add_eq_or_of_lt h2 1
  rw [Nat.mul_one] at this
  rw [← this, wrapU64 (by omega) (by omega)]
  simp; omega
def c1 (w : Int) : List Int := [w % 256]
def c2 (w : Int) : List Int := [w / 256 % 256, w % 256]
def c3 (w : Int) : List Int := [w / 256 / 256 % 256, w / 256 % 256, w % 256]
def sumL (l : List (List Int)) : Nat := (l.map List.length).sum
theorem sumL_cons (f : List Int) (l : List (List Int)) : sumL (f :: l) = f.length + sumL l := by simp [sumL]
theorem f53_sum (v : List (List Int)) (l : List (List Int)) (hl : l.length ≤ 1000) : ∀ i, i ≤ l.length → Ev fun k => ∀ (R : Type) (a : Nat) (X : List (List Int) → Int → Option R), a + sumL (l.drop i) ≤ 140737488355328 →
    f53_l3 k v (a : Int) l (l.length : Int) (i : Int) X = X v ((a + sumL (l.drop i) : Nat) : Int) := by
  refine Ev.down l.length ?_ ?_
  · exact Ev.suc (.all fun k R a X _ => by simp [f53_l3, sumL])
  · intro i hi h
    refine Ev.suc (h.imp fun k hk R a X ha => ?_)
    rw [List.drop_eq_getElem_cons hi, sumL_cons] at ha ⊢
    have w : IntKind.i64.wrap ((a : Int) + (l[i].length : Int)) = ((a + l[i].length : Nat) : Int) := by rw [wrap64 (by omega) (by omega)]; omega
    have t : decide (((a + l[i].length : Nat) : Int) < 0) = false := by simp; omega
    rw [f53_l3, lt_nat, inb_nat, wrapSuc (by omega)]
    simp only [hi, decide_true, cond_true, Int.toNat_natCast, getD_get hi, w, t, cond_false]
    rw [hk R _ X (by omega)]
    congr 2; omega
theorem f53_cat (l : List (List Int)) (hl : l.length ≤ 1000) : ∀ i, i ≤ l.length → Ev fun k => ∀ (R : Type) (acc : List Int) (X : List Int → Option R), acc.length + sumL (l.drop i) ≤ 140737488355328 →
    f53_l11 k l (l.length : Int) (i : Int) acc X = X (acc ++ (l.drop i).flatten) := by
  refine Ev.down l.length ?_ ?_
  · exact Ev.suc (.all fun k R a X _ => by simp [f53_l11])
  · intro i hi h
    refine Ev.suc (h.imp fun k hk R acc X ha => ?_)
    rw [List.drop_eq_getElem_cons hi] at ha ⊢
    rw [sumL_cons] at ha
    rw [f53_l11, lt_nat, inb_nat, wrapSuc (by omega)]
    simp only [hi, decide_true, cond_true, Int.toNat_natCast, getD_get hi]
    rw [room_ok (by omega), cond_true, hk R _ X (by rw [List.length_append]; omega), List.flatten_cons, List.append_assoc]
theorem f84_v {n : Nat} (h : n ≤ 140737488355328) (k : Nat) (R : Type) (K : List Int → Option R) : f84 k (n : Int) K = K [] := by
  have e0 : IntKind.i64.wrap (0 - 0) = 0 := by decide
  have e1 : IntKind.i64.wrap ((n : Int) - 0) = n := by rw [Int.sub_zero]; exact wrapNat (by omega)
  have t0 : decide ((n : Int) < 0) = false := decide_eq_false (by omega)
  simp only [f84, e0, e1, t0, cond_false]
  cases n with
  | zero => simp
  | succ n =>
    have t1 : decide (((n + 1 : Nat) : Int) > 0) = true := decide_eq_true (by omega)
    have t2 : decide ((0 : Int) ≤ ((n + 1 : Nat) : Int)) = true := decide_eq_true (by omega)
    have t3 : decide (((n + 1 : Nat) : Int) * (1 : Nat) ≤ 140737488355328) = true := by simp; omega
    simp only [t1, t2, t3, cond_true, Bool.and_true, Int.toNat_natCast, List.length_replicate]
    rw [room_ok (by omega), upto_int (by omega) (by omega)]
    simp
theorem f53_v (l : List (List Int)) (hl : l.length ≤ 1000) (hs : sumL l ≤ 140737488355328) : Ev fun k => ∀ (R : Type) (K : List Int → Option R), f53 k l K = K l.flatten := by
  refine (f53_sum l l hl 0 (by omega)).imp2 (f53_cat l hl 0 (by omega)) fun k h1 h2 R K => ?_
  simp only [Int.natCast_zero, List.drop_zero] at h1 h2
  have h1 := h1 R 0 (fun v6 v7 => f84 k v7 fun v8 => f53_l11 k v6 (v6.length : Int) 0 v8 fun v13 => K v13) (by omega)
  simp only [Int.natCast_zero, Nat.zero_add] at h1
  simp only [f53]
  rw [h1, f84_v hs, h2 R [] _ (by simpa using hs), List.nil_append]
theorem f17_same (a : List Int) (k : Nat) (R : Type) (K : Bool → Option R) : f17 k a a K = K true := by
  simp [f17]
theorem reachV : reachBytes = 140737488351232 := rfl
def okBy (b : List Int) : Prop := ∀ n ∈ b, 0 ≤ n ∧ n < 256
theorem okBy.drop {b : List Int} (h : okBy b) (i : Nat) : okBy (b.drop i) := fun n hn => h n (List.mem_of_mem_drop hn)
theorem ofInt_nat {n : Nat} (h : n < 18446744073709551616) : (BitVec.ofInt 64 (n : Int)).toNat = n := by
  rw [BitVec.toNat_ofInt]
  have e : (2 ^ 64 : Nat) = 18446744073709551616 := by decide
  rw [e, Int.emod_eq_of_lt (by omega) (by omega)]
  omega
theorem and_mask {v : Nat} {m : Nat} (h : v < 9223372036854775808) (hm : m ≤ 60) : andI .i64 (v : Int) ((2 ^ m - 1 : Nat) : Int) = ((v % 2 ^ m : Nat) : Int) := by
  have h3 : 2 ^ m ≤ 2 ^ 60 := Nat.pow_le_pow_right (by decide) hm
  have h4 : (2 : Nat) ^ 60 = 1152921504606846976 := by decide
  have e1 : (BitVec.ofInt IntKind.i64.bits (v : Int)).toNat = v := ofInt_nat (by omega)
  have e2 : (BitVec.ofInt IntKind.i64.bits ((2 ^ m - 1 : Nat) : Int)).toNat = 2 ^ m - 1 := ofInt_nat (by omega)
  unfold andI
  rw [BitVec.toNat_and, e1, e2, Nat.and_two_pow_sub_one_eq_mod]
  have := Nat.mod_le v (2 ^ m)
  exact wrapNat (by omega)
/-- A number with the mark of so many bytes. -/
def Marked (v : Int) (n : Nat) : Prop := (2 : Int) ^ (7 * n) ≤ v ∧ v < 2 * 2 ^ (7 * n)
def isIdB (v : Int) (n : Nat) : Bool := decide (2 ^ (7 * n) < v ∧ v < 2 * 2 ^ (7 * n) - 1)
theorem f60_v {v : Int} {n : Nat} (h1 : 1 ≤ n) (h4 : n ≤ 4) (h : Marked v n) (k : Nat) (R : Type) (K : Bool → Option R) : f60 k v (n : Int) K = K (isIdB v n) := by
  obtain ⟨l1, l2⟩ := h
  obtain ⟨m, rfl⟩ : ∃ m : Nat, v = m := ⟨v.toNat, by
    have : (0 : Int) < 2 ^ (7 * n) := Int.pow_pos (by decide)
    omega⟩
  have main : ∀ (p : Nat), p ≤ 28 → (2 : Nat) ^ p ≤ m → m < 2 * 2 ^ p → andI .i64 (m : Int) ((2 ^ p - 1 : Nat) : Int) = ((m - 2 ^ p : Nat) : Int) := by
    intro p hp a1 a2
    have hb : (2 : Nat) ^ p ≤ 2 ^ 28 := Nat.pow_le_pow_right (by decide) hp
    have e28 : (2 : Nat) ^ 28 = 268435456 := by decide
    rw [and_mask (by omega) (by omega)]
    congr 1
    rw [Nat.mod_eq_sub_mod (by omega), Nat.mod_eq_of_lt (by omega)]
  have fin : ∀ (p : Nat) (x : Int), p ≤ 28 → (2 : Nat) ^ p ≤ m → m < 2 * 2 ^ p → x = ((2 ^ p - 1 : Nat) : Int) → 2 ≤ p → (bif (andI .i64 (m : Int) x != 0) then K (andI .i64 (m : Int) x != x) else K false) = K (decide ((2 : Int) ^ p < m ∧ (m : Int) < 2 * 2 ^ p - 1)) := by
    intro p x hp a1 a2 hx h2
    have e0 : ((2 ^ p : Nat) : Int) = (2 : Int) ^ p := Int.natCast_pow 2 p
    have hb : (2 : Nat) ^ 2 ≤ 2 ^ p := Nat.pow_le_pow_right (by decide) h2
    subst hx
    rw [main p hp a1 a2, bne_dec, bne_dec]
    by_cases z : m = 2 ^ p
    · rw [decide_eq_true (show ((m - 2 ^ p : Nat) : Int) = 0 by omega), decide_eq_false (show ¬ ((2 : Int) ^ p < m ∧ (m : Int) < 2 * 2 ^ p - 1) by omega)]; rfl
    · rw [decide_eq_false (show ¬ ((m - 2 ^ p : Nat) : Int) = 0 by omega)]
      simp only [Bool.not_false, cond_true]
      by_cases y : m = 2 * 2 ^ p - 1
      · rw [decide_eq_true (show ((m - 2 ^ p : Nat) : Int) = ((2 ^ p - 1 : Nat) : Int) by omega), decide_eq_false (show ¬ ((2 : Int) ^ p < m ∧ (m : Int) < 2 * 2 ^ p - 1) by omega)]; rfl
      · rw [decide_eq_false (show ¬ ((m - 2 ^ p : Nat) : Int) = ((2 ^ p - 1 : Nat) : Int) by omega), decide_eq_true (show ((2 : Int) ^ p < m ∧ (m : Int) < 2 * 2 ^ p - 1) by omega)]; rfl
  have nat : ∀ p : Nat, (2 : Int) ^ p ≤ (m : Int) → (m : Int) < 2 * 2 ^ p → (2 : Nat) ^ p ≤ m ∧ m < 2 * 2 ^ p := by
    intro p a b
    have e0 : ((2 ^ p : Nat) : Int) = (2 : Int) ^ p := Int.natCast_pow 2 p
    omega
  obtain ⟨b1, b2⟩ := nat _ l1 l2
  have : n = 1 ∨ n = 2 ∨ n = 3 ∨ n = 4 := by omega
  unfold isIdB
  rcases this with rfl | rfl | rfl | rfl
  · exact fin 7 _ (by decide) b1 b2 (by decide) (by decide)
  · exact fin 14 _ (by decide) b1 b2 (by decide) (by decide)
  · exact fin 21 _ (by decide) b1 b2 (by decide) (by decide)
  · exact fin 28 _ (by decide) b1 b2 (by decide) (by decide)
theorem f62_v (v : Int) {n : Nat} (h1 : 1 ≤ n) (h4 : n ≤ 4) : Ev fun k => ∀ (R : Type) (K : Bool → Option R), f62 k v (n : Int) K = K (isIdB v n) := by
  have fin : ∀ (p : Int), p > 0 → p < 1000000000 → ∀ (R : Type) (K : Bool → Option R), (bif decide (v > p) then K (decide (v < IntKind.i64.wrap (IntKind.i64.wrap (2 * p) - 1))) else K false) = K (decide (p < v ∧ v < 2 * p - 1)) := by
    intro p h0 hp R K
    have w1 : IntKind.i64.wrap (2 * p) = 2 * p := wrap64 (by omega) (by omega)
    have w2 : IntKind.i64.wrap (2 * p - 1) = 2 * p - 1 := wrap64 (by omega) (by omega)
    rw [w1, w2]
    by_cases a : v > p
    · rw [decide_eq_true a]
      by_cases b : v < 2 * p - 1
      · rw [decide_eq_true b, decide_eq_true (show p < v ∧ v < 2 * p - 1 from ⟨a, b⟩)]; rfl
      · rw [decide_eq_false b, decide_eq_false (show ¬ (p < v ∧ v < 2 * p - 1) from fun h => b h.2)]; rfl
    · rw [decide_eq_false a, decide_eq_false (show ¬ (p < v ∧ v < 2 * p - 1) from fun h => a h.1)]; rfl
  unfold isIdB
  have : n = 1 ∨ n = 2 ∨ n = 3 ∨ n = 4 := by omega
  rcases this with rfl | rfl | rfl | rfl
  · exact .suc (.suc (.all fun k R K => fin 128 (by decide) (by decide) R K))
  · exact .suc (.suc (.suc (.all fun k R K => fin 16384 (by decide) (by decide) R K)))
  · exact .suc (.suc (.suc (.suc (.all fun k R K => fin 2097152 (by decide) (by decide) R K))))
  · exact .suc (.suc (.suc (.suc (.suc (.all fun k R K => fin 268435456 (by decide) (by decide) R K)))))
theorem al1 (k : Nat) (R : Type) (K : Int → Option R) : f82 k ((1 : Nat) : Int) K = K (2 ^ (7 * 1) - 1) := by kernel_rfl
theorem mo1 (k : Nat) (R : Type) (K : Int → Option R) : f85 k ((1 : Nat) : Int) K = K (2 ^ (7 * 1) - 1) := by kernel_rfl
theorem al2 (k : Nat) (R : Type) (K : Int → Option R) : f82 k ((2 : Nat) : Int) K = K (2 ^ (7 * 2) - 1) := by kernel_rfl
theorem mo2 (k : Nat) (R : Type) (K : Int → Option R) : f85 k ((2 : Nat) : Int) K = K (2 ^ (7 * 2) - 1) := by kernel_rfl
theorem al3 (k : Nat) (R : Type) (K : Int → Option R) : f82 k ((3 : Nat) : Int) K = K (2 ^ (7 * 3) - 1) := by kernel_rfl
theorem mo3 (k : Nat) (R : Type) (K : Int → Option R) : f85 k ((3 : Nat) : Int) K = K (2 ^ (7 * 3) - 1) := by kernel_rfl
theorem al4 (k : Nat) (R : Type) (K : Int → Option R) : f82 k ((4 : Nat) : Int) K = K (2 ^ (7 * 4) - 1) := by kernel_rfl
theorem mo4 (k : Nat) (R : Type) (K : Int → Option R) : f85 k ((4 : Nat) : Int) K = K (2 ^ (7 * 4) - 1) := by kernel_rfl
theorem al5 (k : Nat) (R : Type) (K : Int → Option R) : f82 k ((5 : Nat) : Int) K = K (2 ^ (7 * 5) - 1) := by kernel_rfl
theorem mo5 (k : Nat) (R : Type) (K : Int → Option R) : f85 k ((5 : Nat) : Int) K = K (2 ^ (7 * 5) - 1) := by kernel_rfl
theorem al6 (k : Nat) (R : Type) (K : Int → Option R) : f82 k ((6 : Nat) : Int) K = K (2 ^ (7 * 6) - 1) := by kernel_rfl
theorem mo6 (k : Nat) (R : Type) (K : Int → Option R) : f85 k ((6 : Nat) : Int) K = K (2 ^ (7 * 6) - 1) := by kernel_rfl
theorem al7 (k : Nat) (R : Type) (K : Int → Option R) : f82 k ((7 : Nat) : Int) K = K (2 ^ (7 * 7) - 1) := by kernel_rfl
theorem mo7 (k : Nat) (R : Type) (K : Int → Option R) : f85 k ((7 : Nat) : Int) K = K (2 ^ (7 * 7) - 1) := by kernel_rfl
theorem al8 (k : Nat) (R : Type) (K : Int → Option R) : f82 k ((8 : Nat) : Int) K = K (2 ^ (7 * 8) - 1) := by kernel_rfl
theorem mo8 (k : Nat) (R : Type) (K : Int → Option R) : f85 k ((8 : Nat) : Int) K = K (2 ^ (7 * 8) - 1) := by kernel_rfl
theorem allN (n : Nat) (h : 1 ≤ n) (h' : n ≤ 8) (k : Nat) (R : Type) (K : Int → Option R) : f82 k (n : Int) K = K (2 ^ (7 * n) - 1) := by
  have : n = 1 ∨ n = 2 ∨ n = 3 ∨ n = 4 ∨ n = 5 ∨ n = 6 ∨ n = 7 ∨ n = 8 := by omega
  rcases this with rfl | rfl | rfl | rfl | rfl | rfl | rfl | rfl
  · exact al1 k R K
  · exact al2 k R K
  · exact al3 k R K
  · exact al4 k R K
  · exact al5 k R K
  · exact al6 k R K
  · exact al7 k R K
  · exact al8 k R K
theorem mostN (n : Nat) (h : 1 ≤ n) (h' : n ≤ 8) (k : Nat) (R : Type) (K : Int → Option R) : f85 k (n : Int) K = K (2 ^ (7 * n) - 1) := by
  have : n = 1 ∨ n = 2 ∨ n = 3 ∨ n = 4 ∨ n = 5 ∨ n = 6 ∨ n = 7 ∨ n = 8 := by omega
  rcases this with rfl | rfl | rfl | rfl | rfl | rfl | rfl | rfl
  · exact mo1 k R K
  · exact mo2 k R K
  · exact mo3 k R K
  · exact mo4 k R K
  · exact mo5 k R K
  · exact mo6 k R K
  · exact mo7 k R K
  · exact mo8 k R K
theorem wrapAdd {a b : Nat} (h : a + b < 9223372036854775808) : IntKind.i64.wrap ((a : Int) + (b : Int)) = ((a + b : Nat) : Int) := by
  rw [wrap64 (by omega) (by omega)]; omega
noncomputable def tabP : List D0 := (f58 (R := List D0) 0 some).getD []
noncomputable def tabR : List D0 := (f59 (R := List D0) 0 some).getD []
theorem f58_v (k : Nat) (R : Type) (K : List D0 → Option R) : f58 k K = K tabP := by kernel_rfl
theorem f59_v (k : Nat) (R : Type) (K : List D0 → Option R) : f59 k K = K tabR := by kernel_rfl
theorem tabP_len : tabP.length = 65 := by kernel_rfl
theorem tabR_len : tabR.length = 65 := by kernel_rfl
def rowAt (l : List D0) (id : Int) : Option D0 := l.find? fun s => s.1 == id
theorem tab_chk : (tabP.all fun s => decide (rowAt tabR s.1 = some s) && decide (rowAt tabP s.1 = some s)) = true := by kernel_rfl
theorem tab_chk2 : (tabR.all fun s => (rowAt tabP s.1).isSome) = true := by kernel_rfl
theorem rowAt_some {l : List D0} {id : Int} {s : D0} (h : rowAt l id = some s) : s ∈ l ∧ s.1 = id :=
  ⟨List.mem_of_find?_eq_some h, by simpa using List.find?_some h⟩
theorem tab_same (id : Int) : rowAt tabR id = rowAt tabP id := by
  cases h : rowAt tabP id with
  | some s =>
    obtain ⟨h1, rfl⟩ := rowAt_some h
    have := List.all_eq_true.1 tab_chk s h1
    simp only [Bool.and_eq_true] at this
    exact of_decide_eq_true this.1
  | none =>
    cases h' : rowAt tabR id with
    | none => rfl
    | some s =>
      obtain ⟨h1, rfl⟩ := rowAt_some h'
      have := List.all_eq_true.1 tab_chk2 s h1
      rw [h] at this; simp at this
theorem f25_loop (l : List D0) (hl : l.length = 65) (id : Int) (R : Type) : ∀ i, i ≤ l.length → Ev fun k => ∀ (a : Int) (b : ByteArray) (c : Int) (d e : Bool) (X0 : Int → ByteArray → Int → Bool → Bool → Option R) (X1 : Bool → Int → ByteArray → Int → Bool → Bool → Option R),
    f25_l2 k id l (i : Int) a b c d e X0 X1 = match rowAt (l.drop i) id with
      | some s => X1 true s.1 s.2.1 s.2.2.1 s.2.2.2.1 s.2.2.2.2
      | none => X0 a b c d e := by
  refine Ev.down l.length ?_ ?_
  · refine Ev.suc (.all fun k a b c d e X0 X1 => ?_)
    rw [List.drop_length, f25_l2, hl]; rfl
  · intro i hi h
    refine Ev.suc (h.imp fun k hk a b c d e X0 X1 => ?_)
    rw [List.drop_eq_getElem_cons hi, f25_l2, wrapSuc (by omega)]
    simp (disch := omega) only [deT, inT, inb_nat, hi, cond_true, Bool.and_self, Int.toNat_natCast, getD_get hi, decide_true]
    unfold rowAt
    rw [List.find?_cons]
    cases hb : (l[i].1 == id) with
    | true => rfl
    | false => simp only [cond_false]; exact hk a b c d e X0 X1
theorem f26_loop (l : List D0) (hl : l.length = 65) (id : Int) (R : Type) : ∀ i, i ≤ l.length → Ev fun k => ∀ (a : Int) (b : ByteArray) (c : Int) (d e : Bool) (X0 : Int → ByteArray → Int → Bool → Bool → Option R) (X1 : Bool → Int → ByteArray → Int → Bool → Bool → Option R),
    f26_l3 k id (i : Int) a b c d e l X0 X1 = match rowAt (l.drop i) id with
      | some s => X1 true s.1 s.2.1 s.2.2.1 s.2.2.2.1 s.2.2.2.2
      | none => X0 a b c d e := by
  refine Ev.down l.length ?_ ?_
  · refine Ev.suc (.all fun k a b c d e X0 X1 => ?_)
    rw [List.drop_length, f26_l3, hl]; rfl
  · intro i hi h
    refine Ev.suc (h.imp fun k hk a b c d e X0 X1 => ?_)
    rw [List.drop_eq_getElem_cons hi, f26_l3, wrapSuc (by omega)]
    simp (disch := omega) only [deT, inb_nat, hi, cond_true, Bool.and_self, Int.toNat_natCast, getD_get hi, decide_true]
    unfold rowAt
    rw [List.find?_cons]
    cases hb : (l[i].1 == id) with
    | true => rfl
    | false => simp only [cond_false]; exact hk a b c d e X0 X1
/-- The row of an id; zero if there is none. -/
noncomputable def rowOf (id : Int) : D0 := (rowAt tabP id).getD zero0
noncomputable def known (id : Int) : Bool := (rowAt tabP id).isSome
theorem f25_v (id : Int) (R : Type) : Ev fun k => ∀ (K : Int → ByteArray → Int → Bool → Bool → Bool → Option R), f25 k id K = K (rowOf id).1 (rowOf id).2.1 (rowOf id).2.2.1 (rowOf id).2.2.2.1 (rowOf id).2.2.2.2 (known id) :=
  (f25_loop tabP tabP_len id R 0 (by omega)).imp fun k hk K => by
    rw [Int.natCast_zero, List.drop_zero] at hk
    simp only [f25, f58_v, hk]
    unfold rowOf known
    cases rowAt tabP id <;> rfl
theorem f26_v (id : Int) (R : Type) : Ev fun k => ∀ (K : Int → ByteArray → Int → Bool → Bool → Bool → Option R), f26 k id K = K (rowOf id).1 (rowOf id).2.1 (rowOf id).2.2.1 (rowOf id).2.2.2.1 (rowOf id).2.2.2.2 (known id) :=
  (f26_loop tabR tabR_len id R 0 (by omega)).imp fun k hk K => by
    rw [Int.natCast_zero, List.drop_zero, tab_same] at hk
    simp only [f26, f59_v, hk]
    unfold rowOf known
    cases rowAt tabP id <;> rfl
/-- Every row of the schema, and the row of no id. -/
theorem row_all (p : D0 → Bool) (h : tabP.all p = true) (h0 : p zero0 = true) (id : Int) : p (rowOf id) = true := by
  unfold rowOf
  cases h1 : rowAt tabP id with
  | none => exact h0
  | some s => exact List.all_eq_true.1 h s (rowAt_some h1).1
/-- May it stand there? -/
def within (s : D0) (p : Int) : Bool := s.2.2.1 == p || (s.1 == 227 && p == 227)
theorem f68_v (s : D0) (p : Int) (k : Nat) (R : Type) (K : Bool → Option R) : f68 k s.1 s.2.1 s.2.2.1 s.2.2.2.1 s.2.2.2.2 p K = K (within s p) := by
  simp only [f68, within]
  cases s.2.2.1 == p <;> cases s.1 == 227 <;> rfl
theorem chap_chk : (tabP.all fun s => (s.2.1.toList == (⟨#[67, 104, 97, 112, 116, 101, 114]⟩ : ByteArray).toList) == (s.1 == 227)) = true := by kernel_rfl
theorem f98_v (id p : Int) (k : Nat) (R : Type) (K : Bool → Option R) : f98 k (rowOf id).1 (rowOf id).2.1 (rowOf id).2.2.1 (rowOf id).2.2.2.1 (rowOf id).2.2.2.2 p K = K (within (rowOf id) p) := by
  have h := row_all (fun s => (s.2.1.toList == (⟨#[67, 104, 97, 112, 116, 101, 114]⟩ : ByteArray).toList) == (s.1 == 227)) chap_chk (by kernel_rfl) id
  simp only [f98, within]
  rw [eq_of_beq h]
  cases (rowOf id).2.2.1 == p
  · cases hb : (rowOf id).1 == 227
    · rfl
    · rw [eq_of_beq hb]; rfl
  · rfl
def crc1 (s : Int) : Int := bif (andI .u32 s 1) == 1 then xorI .u32 (shrI .u32 s 1) 3558460437 else shrI .u32 s 1
def crcN : Nat → Int → Int
  | 0, s => s
  | n + 1, s => crcN n (crc1 s)
def crcF (l : List Int) (s : Int) : Int := l.foldl (fun s c => crcN 8 (xorI .u32 s (IntKind.u32.wrap c))) s
theorem crcF_cons (c : Int) (l : List Int) (s : Int) : crcF (c :: l) s = crcF l (crcN 8 (xorI .u32 s (IntKind.u32.wrap c))) := rfl
def sumB (l : List Int) : Int := xorI .u32 4294967295 (crcF l 4294967295)
theorem xor_comm32 (a b : Int) : xorI .u32 a b = xorI .u32 b a := by
  unfold xorI; rw [BitVec.xor_comm]
theorem f108_bits (l : List Int) (a b : Int) (R : Type) : ∀ i : Nat, i ≤ 8 → Ev fun k => ∀ (s : Int) (X : Int → List Int → Int → Int → Option R), f108_l7 k s l a b (i : Int) X = X (crcN (8 - i) s) l a b := by
  refine Ev.down 8 ?_ ?_
  · exact Ev.suc (.all fun k s X => by simp [f108_l7, crcN])
  · intro i hi h
    refine Ev.suc (h.imp fun k hk s X => ?_)
    rw [f108_l7, wrapSuc (by omega), ifT (by omega), show 8 - i = (8 - (i + 1)) + 1 by omega, crcN, crc1]
    cases (andI .u32 s 1) == 1 <;> simp only [cond_true, cond_false, hk]
theorem f94_bits (l : List Int) (b : Int) (R : Type) : ∀ i : Nat, i ≤ 8 → Ev fun k => ∀ (s : Int) (X : List Int → Int → Int → Option R), f94_l7 k l s b (i : Int) X = X l (crcN (8 - i) s) b := by
  refine Ev.down 8 ?_ ?_
  · exact Ev.suc (.all fun k s X => by simp [f94_l7, crcN])
  · intro i hi h
    refine Ev.suc (h.imp fun k hk s X => ?_)
    rw [f94_l7, wrapSuc (by omega), ifT (by omega), show 8 - i = (8 - (i + 1)) + 1 by omega, crcN, crc1]
    cases (andI .u32 s 1) == 1 <;> simp only [cond_true, cond_false, hk]
theorem f108_loop (l : List Int) (hl : l.length ≤ reachBytes) (R : Type) : ∀ i, i ≤ l.length → Ev fun k => ∀ (s : Int) (X : Int → Option R), f108_l3 k s l (l.length : Int) (i : Int) X = X (crcF (l.drop i) s) := by
  rw [reachV] at hl
  refine Ev.down l.length ?_ ?_
  · exact Ev.suc (.all fun k s X => by simp [f108_l3, crcF])
  · intro i hi h
    refine Ev.suc (h.imp2 (f108_bits l (l.length : Int) (i : Int) R 0 (by omega)) fun k hk hb s X => ?_)
    rw [List.drop_eq_getElem_cons hi, crcF_cons, f108_l3]
    simp only [lt_nat, hi, decide_true, cond_true, inb_nat, Int.toNat_natCast, getD_get hi]
    rw [Int.natCast_zero] at hb
    rw [hb, wrapSuc (by omega), hk]
theorem f94_loop (l : List Int) (hl : l.length ≤ reachBytes) (R : Type) : ∀ i, i ≤ l.length → Ev fun k => ∀ (s : Int) (X : Int → Option R), f94_l3 k l s (i : Int) X = X (crcF (l.drop i) s) := by
  rw [reachV] at hl
  refine Ev.down l.length ?_ ?_
  · exact Ev.suc (.all fun k s X => by simp [f94_l3, crcF])
  · intro i hi h
    refine Ev.suc (h.imp2 (f94_bits l (i : Int) R 0 (by omega)) fun k hk hb s X => ?_)
    rw [List.drop_eq_getElem_cons hi, crcF_cons, f94_l3]
    simp only [lt_nat, hi, decide_true, cond_true, inb_nat, Int.toNat_natCast, getD_get hi]
    rw [Int.natCast_zero] at hb
    rw [hb, wrapSuc (by omega), hk]
theorem f108_v (l : List Int) (hl : l.length ≤ reachBytes) (R : Type) : Ev fun k => ∀ (K : Int → Option R), f108 k l K = K (sumB l) :=
  (f108_loop l hl R 0 (by omega)).imp fun k hk K => by
    rw [Int.natCast_zero, List.drop_zero] at hk
    simp only [f108, hk, sumB]
theorem f94_v (l : List Int) (hl : l.length ≤ reachBytes) (R : Type) : Ev fun k => ∀ (K : Int → Option R), f94 k l K = K (sumB l) :=
  (f94_loop l hl R 0 (by omega)).imp fun k hk K => by
    rw [Int.natCast_zero, List.drop_zero] at hk
    simp only [f94, hk, sumB, xor_comm32]
theorem D2.ind {P : D2 → Prop} (h : ∀ i d ks g, (∀ x ∈ ks, P x) → P (.mk i d ks g)) : ∀ n, P n := by
  intro n
  refine D2.rec (motive_1 := P) (motive_2 := fun l => ∀ x ∈ l, P x) (fun i d ks g ih => h i d ks g ih) (by simp) (fun a l ha hl => ?_) n
  intro x hx
  rcases List.mem_cons.1 hx with rfl | hx
  · exact ha
  · exact hl x hx
/-- A tree as it lies in memory. -/
inductive OkN : D2 → Prop
  | mk {i : Int} {d : List Int} {ks : List D2} {g : Bool} : -9223372036854775808 ≤ i ∧ i < 9223372036854775808 → okBy d → d.length ≤ reachBytes → ks.length * 64 ≤ reachBytes → (∀ x ∈ ks, OkN x) → OkN (.mk i d ks g)
def OkL (l : List D2) : Prop := l.length * 64 ≤ reachBytes ∧ ∀ x ∈ l, OkN x
theorem OkN.id {n : D2} (h : OkN n) : -9223372036854775808 ≤ n.c0 ∧ n.c0 < 9223372036854775808 := by cases h; assumption
theorem OkN.by {n : D2} (h : OkN n) : okBy n.c1 := by cases h; assumption
theorem OkN.kids {n : D2} (h : OkN n) : OkL n.c2 := by cases h; exact ⟨by assumption, by assumption⟩
/-- Two fuels, both large. -/
def EvB (p : Nat → Nat → Prop) : Prop := ∃ k0, ∀ q, k0 ≤ q → ∀ j, k0 ≤ j → p q j
theorem EvB.suc {p : Nat → Nat → Prop} (h : EvB fun q j => p q (j + 1)) : EvB p := by
  obtain ⟨a, ha⟩ := h
  refine ⟨a + 1, fun q hq j hj => ?_⟩
  obtain ⟨j, rfl⟩ : ∃ i, j = i + 1 := ⟨j - 1, by omega⟩
  exact ha q (by omega) j (by omega)
theorem EvB.all {p : Nat → Nat → Prop} (h : ∀ q j, p q j) : EvB p := ⟨0, fun q _ j _ => h q j⟩
theorem EvB.imp {p p' : Nat → Nat → Prop} (h : EvB p) (f : ∀ q j, p q j → p' q j) : EvB p' := by
  obtain ⟨a, ha⟩ := h
  exact ⟨a, fun q hq j hj => f q j (ha q hq j hj)⟩
theorem EvB.and {p p' : Nat → Nat → Prop} (h : EvB p) (h' : EvB p') : EvB fun q j => p q j ∧ p' q j := by
  obtain ⟨a, ha⟩ := h
  obtain ⟨b, hb⟩ := h'
  exact ⟨max a b, fun q hq j hj => ⟨ha q (by omega) j (by omega), hb q (by omega) j (by omega)⟩⟩
theorem EvB.left {p : Nat → Prop} (h : Ev p) : EvB fun q _ => p q := by
  obtain ⟨a, ha⟩ := h
  exact ⟨a, fun q hq j _ => ha q hq⟩
theorem EvB.right {p : Nat → Prop} (h : Ev p) : EvB fun _ j => p j := by
  obtain ⟨a, ha⟩ := h
  exact ⟨a, fun q _ j hj => ha j hj⟩
theorem EvB.diag {p : Nat → Nat → Prop} (h : EvB p) : Ev fun k => p k k := by
  obtain ⟨a, ha⟩ := h
  exact ⟨a, fun k hk => ha k hk k hk⟩
theorem EvB.down {p : Nat → Nat → Nat → Prop} (n : Nat) (h0 : EvB (p n)) (hs : ∀ i, i < n → EvB (p (i + 1)) → EvB (p i)) : ∀ i, i ≤ n → EvB (p i) := by
  intro i hi
  obtain ⟨m, rfl⟩ : ∃ m, n = i + m := ⟨n - i, by omega⟩
  clear hi
  induction m generalizing i with
  | zero => exact h0
  | succ m ih => exact hs i (by omega) (ih (i + 1) (by rw [show i + 1 + m = i + (m + 1) by omega]; exact h0) (fun j hj => hs j (by omega)))
/-- So many bytes of a number. -/
def beB : Nat → Int → List Int
  | 0, _ => []
  | n + 1, w => beB n (w / 256) ++ [w % 256]
theorem beB_len : ∀ (n : Nat) (w : Int), (beB n w).length = n
  | 0, _ => rfl
  | n + 1, w => by rw [beB, List.length_append, beB_len n]; rfl
theorem set_drop {out : List Int} {n : Nat} (h : n < out.length) (x : Int) : (out.set n x).drop n = x :: out.drop (n + 1) := by
  rw [List.drop_eq_getElem_cons (by simpa using h)]
  simp [List.drop_set]
theorem f91_loop (R : Type) : ∀ n, n ≤ 1000 → Ev fun k => ∀ (w : Int) (out : List Int) (X : List Int → Option R), n ≤ out.length → f91_l3 k w ((n : Int) - 1) out X = X (beB n w ++ out.drop n)
  | 0, _ => .suc (.all fun k w out X _ => by
    rw [f91_l3, deF (by omega)]; simp [beB])
  | n + 1, hn => by
    refine .suc ((f91_loop R n (by omega)).imp fun k hk w out X ho => ?_)
    have e : ((n + 1 : Nat) : Int) - 1 = (n : Int) := by omega
    rw [e, f91_l3, inb_nat, wr (by omega), wrapU8, shr8]
    simp only [deT (show (n : Int) ≥ 0 by omega), show n < out.length by omega, decide_true, cond_true, Int.toNat_natCast]
    rw [hk _ _ X (by simp; omega), set_drop (by omega), beB, List.append_assoc]; rfl
theorem f86_loop (R : Type) : ∀ n, n ≤ 1000 → Ev fun k => ∀ (w : Int) (out : List Int) (X : List Int → Option R), 0 ≤ w → w < 9223372036854775808 → n ≤ out.length → f86_l3 k w ((n : Int) - 1) out X = X (beB n w ++ out.drop n)
  | 0, _ => .suc (.all fun k w out X _ _ _ => by
    rw [f86_l3, deF (by omega)]; simp [beB])
  | n + 1, hn => by
    refine .suc ((f86_loop R n (by omega)).imp fun k hk w out X h0 h1 ho => ?_)
    have e : ((n + 1 : Nat) : Int) - 1 = (n : Int) := by omega
    have hd : w.tdiv 256 = w / 256 := Int.tdiv_eq_ediv_of_nonneg h0
    have hm : w.tmod 256 = w % 256 := Int.tmod_eq_emod_of_nonneg h0
    have w8 : IntKind.u8.wrap (w % 256) = w % 256 := wr8 (by omega)
    rw [e, f86_l3, inb_nat, wr (by omega), hd, hm, w8, wr (by omega)]
    simp only [deT (show (n : Int) ≥ 0 by omega), show n < out.length by omega, decide_true, cond_true, Int.toNat_natCast]
    rw [hk _ _ X (by omega) (by omega) (by simp; omega), set_drop (by omega), beB, List.append_assoc]; rfl
theorem f28_bytes (R : Type) : ∀ n, n ≤ 1000 → Ev fun k => ∀ (w : Int) (out : List Int) (X : List Int → Option R), 0 ≤ w → w < 9223372036854775808 → n ≤ out.length → f28_l7 k w ((n : Int) - 1) out X = X (beB n w ++ out.drop n)
  | 0, _ => .suc (.all fun k w out X _ _ _ => by
    rw [f28_l7, deF (by omega)]; simp [beB])
  | n + 1, hn => by
    refine .suc ((f28_bytes R n (by omega)).imp fun k hk w out X h0 h1 ho => ?_)
    have e : ((n + 1 : Nat) : Int) - 1 = (n : Int) := by omega
    have hd : w.tdiv 256 = w / 256 := Int.tdiv_eq_ediv_of_nonneg h0
    have hm : w.tmod 256 = w % 256 := Int.tmod_eq_emod_of_nonneg h0
    have w8 : IntKind.u8.wrap (w % 256) = w % 256 := wr8 (by omega)
    rw [e, f28_l7, inb_nat, wr (by omega), hd, hm, w8, wr (by omega)]
    simp only [deT (show (n : Int) ≥ 0 by omega), show n < out.length by omega, decide_true, cond_true, Int.toNat_natCast]
    rw [hk _ _ X (by omega) (by omega) (by simp; omega), set_drop (by omega), beB, List.append_assoc]; rfl
theorem mk_ok {n : Nat} (hn : n ≤ 1000) : ((decide ((0 : Int) ≤ (n : Int))) && (decide ((n : Int) ≤ (n : Int))) && (decide ((n : Int) * ((1 : Nat) : Int) ≤ 140737488355328))) = true := by
  simp; omega
theorem f91_v (R : Type) {n : Nat} (hn : n ≤ 1000) : Ev fun k => ∀ (w : Int) (K : List Int → Option R), f91 k w (n : Int) K = K (beB n w) :=
  (f91_loop R n hn).imp fun k hk w K => by
    simp only [f91, mk_ok hn, cond_true, Int.toNat_natCast]
    rw [wr (by omega), hk w _ K (by simp)]; simp
theorem f86_v (R : Type) {n : Nat} (hn : n ≤ 1000) : Ev fun k => ∀ (w : Int) (K : List Int → Option R), 0 ≤ w → w < 9223372036854775808 → f86 k w (n : Int) K = K (beB n w) :=
  (f86_loop R n hn).imp fun k hk w K h0 h1 => by
    simp only [f86, mk_ok hn, cond_true, Int.toNat_natCast]
    rw [wr (by omega), hk w _ K h0 h1 (by simp)]; simp
def vlFrom : Nat → Nat → Int → Nat
  | 0, n, _ => n
  | f + 1, n, v => if 2 ^ (7 * n) - 1 ≤ v then vlFrom f (n + 1) v else n
/-- How many bytes a number has. -/
def vl (v : Int) : Nat := vlFrom 7 1 v
theorem vlFrom_range : ∀ (f n : Nat) (v : Int), n ≤ vlFrom f n v ∧ vlFrom f n v ≤ n + f
  | 0, n, v => by simp [vlFrom]
  | f + 1, n, v => by
    rw [vlFrom]
    split
    · have := vlFrom_range f (n + 1) v; omega
    · omega
theorem vl_range (v : Int) : 1 ≤ vl v ∧ vl v ≤ 8 := vlFrom_range 7 1 v
def vintW (v : Int) : List Int := beB (vl v) (v + 2 ^ (7 * vl v))
theorem p7 {n : Nat} (h : n ≤ 8) : (2 : Int) ^ (7 * n) ≤ 72057594037927936 := by
  have h2 : (2 : Nat) ^ (7 * n) ≤ 72057594037927936 := Nat.le_trans (Nat.pow_le_pow_right (by decide) (show 7 * n ≤ 56 by omega)) (by decide)
  have e : ((2 ^ (7 * n) : Nat) : Int) = (2 : Int) ^ (7 * n) := Int.natCast_pow 2 (7 * n)
  omega
theorem f52_loop (R : Type) (v : Int) : ∀ f n : Nat, n + f = 8 → 1 ≤ n → Ev fun k => ∀ (X : Int → Int → Option R), f52_l5 k v (n : Int) X = X v (vlFrom f n v : Int)
  | 0, n, h, _ => .suc (.all fun k X => by
    have : n = 8 := by omega
    subst this
    rw [f52_l5]; rfl)
  | f + 1, n, h, h1 => by
    refine .suc ((f52_loop R v f (n + 1) (by omega) (by omega)).imp fun k hk X => ?_)
    rw [f52_l5, ifT (by omega), allN n h1 (by omega), wrapSuc (by omega), vlFrom]
    by_cases c : 2 ^ (7 * n) - 1 ≤ v
    · rw [ifT c, if_pos c, hk]
    · rw [ifF c, if_neg c]
theorem f54_loop2 (R : Type) (v : Int) : ∀ f n : Nat, n + f = 8 → 1 ≤ n → Ev fun k => ∀ (X : Int → Int → Option R), f54_l5 k v (n : Int) X = X v (vlFrom f n v : Int)
  | 0, n, h, _ => .suc (.all fun k X => by
    have : n = 8 := by omega
    subst this
    rw [f54_l5]; rfl)
  | f + 1, n, h, h1 => by
    refine .suc ((f54_loop2 R v f (n + 1) (by omega) (by omega)).imp fun k hk X => ?_)
    rw [f54_l5, ifT (by omega), mostN n h1 (by omega), wrapSuc (by omega), vlFrom]
    by_cases c : 2 ^ (7 * n) - 1 ≤ v
    · rw [ifT c, if_pos c, hk]
    · rw [ifF c, if_neg c]
theorem shl1 {n : Nat} (h : 1 ≤ n) (h' : n ≤ 8) : IntKind.i64.wrap (7 * (n : Int)) = 7 * n ∧ decide (IntKind.i64.wrap (7 * (n : Int)) < 0) = false ∧ shlI .u64 1 (IntKind.i64.wrap (7 * (n : Int))) = 2 ^ (7 * n) ∧
    decide (IntKind.u64.wrap (IntKind.i64.wrap (7 * (n : Int))) < 0) = false ∧ shlI .i64 1 (IntKind.u64.wrap (IntKind.i64.wrap (7 * (n : Int)))) = 2 ^ (7 * n) := by
  have : n = 1 ∨ n = 2 ∨ n = 3 ∨ n = 4 ∨ n = 5 ∨ n = 6 ∨ n = 7 ∨ n = 8 := by omega
  rcases this with rfl | rfl | rfl | rfl | rfl | rfl | rfl | rfl <;> decide
theorem f83_v (R : Type) {n : Nat} (h : 1 ≤ n) (h' : n ≤ 8) : Ev fun k => ∀ (v : Int) (K : List Int → Option R), 0 ≤ v → v < 2 ^ (7 * n) → f83 k v (n : Int) K = K (beB n (v + 2 ^ (7 * n))) :=
  (f91_v R (n := n) (by omega)).imp fun k hk v K h0 h1 => by
    obtain ⟨a1, a2, a3, _, _⟩ := shl1 h h'
    simp only [f83, a2, cond_false, a3]
    rw [or_add h0 h1 (by omega), hk]
theorem f52_all (R : Type) (v : Int) : Ev fun k => ∀ (K : Int → List Int → Option R), f52 k v 0 K = if v < 0 ∨ 2 ^ (7 * vl v) - 1 ≤ v then K 1 [] else K 0 (vintW v) := by
  have vr := vl_range v
  refine (f52_loop R v 7 1 (by omega) (by omega)).imp2 (f83_v R vr.1 vr.2) fun k hl hm K => ?_
  have z : ((0 : Int) == 0) = true := rfl
  have z0 : decide ((0 : Int) < 0) = false := rfl
  have z8 : decide ((0 : Int) > 8) = false := rfl
  by_cases c : v < 0
  · rw [if_pos (.inl c)]
    simp only [f52, z0, z8, cond_false, deT c, cond_true]
  · simp only [f52, z0, z8, cond_false, deF c, z, cond_true]
    rw [show (1 : Int) = ((1 : Nat) : Int) from rfl, hl]
    show f82 k (vl v : Int) _ = _
    rw [allN (vl v) vr.1 vr.2]
    by_cases d : 2 ^ (7 * vl v) - 1 ≤ v
    · rw [ifT d, if_pos (.inr d)]
    · have pp := p7 vr.2
      rw [ifF d, if_neg (by omega), wrU (by omega)]
      show f83 k v (vl v : Int) _ = _
      rw [hm v _ (by omega) (by omega)]; rfl
theorem f54_all (R : Type) (v : Int) : Ev fun k => ∀ (K : Int → List Int → Option R), f54 k v 0 K = if v < 0 ∨ 2 ^ (7 * vl v) - 1 ≤ v then K 1 [] else K 0 (vintW v) := by
  have vr := vl_range v
  refine (f54_loop2 R v 7 1 (by omega) (by omega)).imp2 (f86_v R (n := vl v) (by omega)) fun k hl hm K => ?_
  have z : ((0 : Int) == 0) = true := rfl
  have z0 : decide ((0 : Int) < 0) = false := rfl
  have z8 : decide ((0 : Int) > 8) = false := rfl
  by_cases c : v < 0
  · rw [if_pos (.inl c)]
    simp only [f54, z0, z8, cond_false, deT c, cond_true]
  · simp only [f54, z0, z8, cond_false, deF c, z, cond_true]
    have hl' : ∀ X, f54_l5 k v 1 X = X v (vlFrom 7 1 v : Int) := hl
    rw [hl']
    show f85 k (vl v : Int) _ = _
    rw [mostN (vl v) vr.1 vr.2]
    by_cases d : 2 ^ (7 * vl v) - 1 ≤ v
    · rw [ifT d, if_pos (.inr d)]
    · have pp := p7 vr.2
      obtain ⟨_, _, _, a4, a5⟩ := shl1 vr.1 vr.2
      have a4' : decide (IntKind.u64.wrap (IntKind.i64.wrap (7 * (vlFrom 7 1 v : Int))) < 0) = false := a4
      have a5' : shlI .i64 1 (IntKind.u64.wrap (IntKind.i64.wrap (7 * (vlFrom 7 1 v : Int)))) = 2 ^ (7 * vl v) := a5
      rw [ifF d, if_neg (by omega), a4', a5', wr (by omega)]
      show f86 k (v + 2 ^ (7 * vl v)) (vl v : Int) _ = _
      rw [hm _ _ (by omega) (by omega)]; rfl
instance (v : Int) (n : Nat) : Decidable (Marked v n) := inferInstanceAs (Decidable (_ ∧ _))
def idN (id : Int) : Nat := if isIdB id 1 = true then 1 else if isIdB id 2 = true then 2 else if isIdB id 3 = true then 3 else if isIdB id 4 = true then 4 else 0
theorem idN_le (id : Int) : idN id ≤ 4 := by 
  unfold idN
  repeat' split
  all_goals omega
theorem isId_lt {id : Int} {n : Nat} (h4 : n ≤ 4) (h : isIdB id n = true) : Marked id n ∧ 0 ≤ id ∧ id < 1073741824 := by
  unfold isIdB at h
  have h := of_decide_eq_true h
  have hp : (0 : Int) < 2 ^ (7 * n) := Int.pow_pos (by decide)
  have pp : (2 : Int) ^ (7 * n) ≤ 268435456 := by
    have h2 : (2 : Nat) ^ (7 * n) ≤ 268435456 := Nat.le_trans (Nat.pow_le_pow_right (by decide) (show 7 * n ≤ 28 by omega)) (by decide)
    have e : ((2 ^ (7 * n) : Nat) : Int) = (2 : Int) ^ (7 * n) := Int.natCast_pow 2 (7 * n)
    omega
  exact ⟨⟨by omega, by omega⟩, by omega, by omega⟩
theorem shr_mark {id : Int} {n : Nat} (h1 : 1 ≤ n) (h4 : n ≤ 4) : decide (IntKind.i64.wrap (7 * (n : Int)) < 0) = false ∧ (shrI .i64 id (IntKind.i64.wrap (7 * (n : Int))) == 1) = decide (Marked id n) := by
  have key : ∀ p : Nat, 0 < p → ((id.fdiv (p : Int) == 1) = decide ((p : Int) ≤ id ∧ id < 2 * (p : Int))) := by
    intro p hp
    rw [beq_dec, Int.fdiv_eq_ediv_of_nonneg _ (by omega)]
    congr 1
    apply propext
    constructor
    · intro h
      have h1 := Int.mul_ediv_add_emod id (p : Int)
      have h2 := Int.emod_nonneg id (show (p : Int) ≠ 0 by omega)
      have h3 := Int.emod_lt_of_pos id (show (0 : Int) < p by omega)
      rw [h] at h1; omega
    · rintro ⟨a, b⟩
      refine Int.le_antisymm ?_ ?_
      · have : id / (p : Int) < 2 := Int.ediv_lt_of_lt_mul (by omega) b
        omega
      · exact Int.le_ediv_of_mul_le (by omega) (by omega)
  have : n = 1 ∨ n = 2 ∨ n = 3 ∨ n = 4 := by omega
  unfold Marked
  rcases this with rfl | rfl | rfl | rfl
  · exact ⟨by decide, key 128 (by decide)⟩
  · exact ⟨by decide, key 16384 (by decide)⟩
  · exact ⟨by decide, key 2097152 (by decide)⟩
  · exact ⟨by decide, key 268435456 (by decide)⟩
theorem f61_v (R : Type) {n : Nat} (h1 : 1 ≤ n) (h4 : n ≤ 4) {id : Int} (h : isIdB id n = true) : Ev fun k => ∀ (K : Int → List Int → Option R), f61 k id (n : Int) K = K 0 (beB n id) := by
  obtain ⟨m, l1, l2⟩ := isId_lt h4 h
  refine (f91_v R (n := n) (by omega)).imp fun k hk K => ?_
  have sh : decide (IntKind.i64.wrap (8 * (n : Int)) < 0) = false ∧ decide (shrI .i64 id (IntKind.i64.wrap (8 * (n : Int))) > 0) = false := by
    have key : ∀ p : Nat, id < p → decide (id.fdiv (p : Int) > 0) = false := by
      intro p hp
      rw [Int.fdiv_eq_ediv_of_nonneg _ (by omega), Int.ediv_eq_zero_of_lt l1 hp]; rfl
    have m2 := m.2
    have : n = 1 ∨ n = 2 ∨ n = 3 ∨ n = 4 := by omega
    rcases this with rfl | rfl | rfl | rfl
    · exact ⟨by decide, key 256 (by simp at m2; omega)⟩
    · exact ⟨by decide, key 65536 (by simp at m2; omega)⟩
    · exact ⟨by decide, key 16777216 (by simp at m2; omega)⟩
    · exact ⟨by decide, key 4294967296 (by simp at m2; omega)⟩
  simp (disch := omega) only [f61, deF, deT, cond_false, cond_true, sh.1, sh.2, wrU, hk]
theorem f27_v (R : Type) (id : Int) : Ev fun k => ∀ (K : Int → List Int → Option R), f27 k id K = if idN id = 0 then K 40 [] else K 0 (beB (idN id) id) := by
  -- a round
  have step : ∀ n, 1 ≤ n → n ≤ 4 → ∀ r : (Option R) → (Int → List Int → Option R) → Option R, (Ev fun k => ∀ X0 X1, f27_l2 k id ((n + 1 : Nat) : Int) X0 X1 = r X0 X1) → Ev fun k => ∀ X0 X1, f27_l2 k id (n : Int) X0 X1 = if isIdB id n = true then X1 0 (beB n id) else r X0 X1 := by
    intro n h1 h4 r h
    obtain ⟨s1, s2⟩ := shr_mark (id := id) h1 h4
    by_cases c : isIdB id n = true
    · refine .suc ((f61_v R h1 h4 c).imp fun k hk X0 X1 => ?_)
      rw [if_pos c, f27_l2, ifT (by omega), s1, s2, deT (isId_lt h4 c).1]
      simp only [cond_true, cond_false, f60_v h1 h4 (isId_lt h4 c).1, c, hk]
    · refine .suc (h.imp fun k hk X0 X1 => ?_)
      rw [if_neg c, f27_l2, ifT (by omega), s1, s2, wrapSuc (by omega)]
      by_cases m : Marked id n
      · have c : isIdB id n = false := by simpa using c
        rw [deT m]
        simp only [cond_true, cond_false, f60_v h1 h4 m, c, hk]
      · rw [deF m]
        simp only [cond_false, hk]
  have e5 : Ev fun k => ∀ (X0 : Option R) (X1 : Int → List Int → Option R), f27_l2 k id ((4 + 1 : Nat) : Int) X0 X1 = X0 := .suc (.all fun k X0 X1 => by rw [f27_l2]; rfl)
  refine (step 1 (by omega) (by omega) _ (step 2 (by omega) (by omega) _ (step 3 (by omega) (by omega) _ (step 4 (by omega) (by omega) (fun X0 _ => X0) e5)))).imp fun k hk K => ?_
  rw [f27, show (1 : Int) = ((1 : Nat) : Int) from rfl, hk]
  unfold idN
  by_cases c1 : isIdB id 1 = true
  · simp [c1]
  · by_cases c2 : isIdB id 2 = true
    · simp [c1, c2]
    · by_cases c3 : isIdB id 3 = true
      · simp [c1, c2, c3]
      · by_cases c4 : isIdB id 4 = true
        · simp [c1, c2, c3, c4]
        · simp [c1, c2, c3, c4]
theorem f28_v (R : Type) (id : Int) : Ev fun k => ∀ (K : Int → List Int → Option R), f28 k id K = if idN id = 0 then K 40 [] else K 0 (beB (idN id) id) := by
  have step : ∀ n, 1 ≤ n → n ≤ 4 → ∀ r : (Option R) → (Int → List Int → Option R) → Option R, (Ev fun k => ∀ X0 X1, f28_l2 k id ((n + 1 : Nat) : Int) X0 X1 = r X0 X1) → Ev fun k => ∀ X0 X1, f28_l2 k id (n : Int) X0 X1 = if isIdB id n = true then X1 0 (beB n id) else r X0 X1 := by
    intro n h1 h4 r h
    by_cases c : isIdB id n = true
    · refine .suc ((f62_v id h1 h4).imp2 (f28_bytes R n (by omega)) fun k h62 hk X0 X1 => ?_)
      rw [if_pos c, f28_l2, ifT (by omega), h62, c, mk_ok (by omega)]
      simp only [Bool.not_true, cond_true, cond_false, Int.toNat_natCast]
      obtain ⟨_, l1, l2⟩ := isId_lt h4 c
      rw [wr (by omega), hk _ _ _ l1 (by omega) (by simp)]; simp
    · refine .suc ((f62_v id h1 h4).imp2 h fun k h62 hk X0 X1 => ?_)
      have c' : isIdB id n = false := by simpa using c
      rw [if_neg c, f28_l2, ifT (by omega), h62, c', wrapSuc (by omega)]
      simp only [Bool.not_false, cond_true, hk]
  have e5 : Ev fun k => ∀ (X0 : Option R) (X1 : Int → List Int → Option R), f28_l2 k id ((4 + 1 : Nat) : Int) X0 X1 = X0 := .suc (.all fun k X0 X1 => by rw [f28_l2]; rfl)
  refine (step 1 (by omega) (by omega) _ (step 2 (by omega) (by omega) _ (step 3 (by omega) (by omega) _ (step 4 (by omega) (by omega) (fun X0 _ => X0) e5)))).imp fun k hk K => ?_
  rw [f28, show (1 : Int) = ((1 : Nat) : Int) from rfl, hk]
  unfold idN
  by_cases c1 : isIdB id 1 = true
  · simp [c1]
  · by_cases c2 : isIdB id 2 = true
    · simp [c1, c2]
    · by_cases c3 : isIdB id 3 = true
      · simp [c1, c2, c3]
      · by_cases c4 : isIdB id 4 = true
        · simp [c1, c2, c3, c4]
        · simp [c1, c2, c3, c4]
mutual
/-- Is some node as it is asked for? -/
def anyN (p : D2 → Int → Int → Bool) : D2 → Int → Int → Bool
  | .mk i d ks g, par, dp => p (.mk i d ks g) par dp || anyL p ks i (IntKind.i64.wrap (dp + 1))
def anyL (p : D2 → Int → Int → Bool) : List D2 → Int → Int → Bool
  | [], _, _ => false
  | x :: l, par, dp => anyN p x par dp || anyL p l par dp
end
theorem anyN_eta (p : D2 → Int → Int → Bool) (n : D2) (par dp : Int) : anyN p n par dp = (p n par dp || anyL p n.c2 n.c0 (IntKind.i64.wrap (dp + 1))) := by
  cases n; rw [anyN]; rfl
noncomputable def formP (n : D2) (_ _ : Int) : Bool := !known n.c0 || (decide ((rowOf n.c0).2.2.1 < 0) || (!((rowOf n.c0).2.2.2.1 == n.c3) || ((!n.c3 && decide ((n.c2.length : Int) > 0)) || (n.c3 && decide ((n.c1.length : Int) > 0)))))
noncomputable def parP (n : D2) (par _ : Int) : Bool := !within (rowOf n.c0) par
def deepP (_ : D2) (_ dp : Int) : Bool := decide (dp > 8)
theorem f66_v (R : Type) (n : D2) (par dp : Int) : Ev fun k => ∀ (K : Bool → Option R), f66 k n.c0 n.c1 n.c2 n.c3 par dp K = K (formP n par dp) :=
  (f25_v n.c0 R).imp fun k hk K => by
    simp only [f66, hk, formP]
    cases known n.c0 with
    | false => rfl
    | true =>
      cases decide ((rowOf n.c0).2.2.1 < 0) with
      | true => rfl
      | false =>
        cases (rowOf n.c0).2.2.2.1 == n.c3 with
        | false => rfl
        | true =>
          cases n.c3 with
          | true => rfl
          | false => cases decide ((n.c2.length : Int) > 0) <;> rfl
theorem f67_v (R : Type) (n : D2) (par dp : Int) : Ev fun k => ∀ (K : Bool → Option R), f67 k n.c0 n.c1 n.c2 n.c3 par dp K = K (parP n par dp) :=
  (f25_v n.c0 R).imp fun k hk K => by
    simp only [f67, hk, f68_v, parP]
theorem f70_v (R : Type) (n : D2) (par dp : Int) : Ev fun k => ∀ (K : Bool → Option R), f70 k n.c0 n.c1 n.c2 n.c3 par dp K = K (deepP n par dp) := .all fun k K => rfl
theorem f73_2_loop (R : Type) (l : List D2) (hb : l.length * 64 ≤ reachBytes) (par dp : Int) (h : ∀ i (h : i < l.length), Ev fun k => ∀ (K : Bool → Int → Int → Option R), f93_2 k l[i].c0 l[i].c1 l[i].c2 l[i].c3 par dp K = K (anyN formP l[i] par dp) par dp) :
    ∀ i, i ≤ l.length → EvB fun q j => ∀ (X0 : Int → Int → Option R) (X1 : Int → Int → Int → Option R), (∃ m : Nat, f73_2_l2 (fun _ => f93_2 q) j l (l.length : Int) (i : Int) par dp X0 X1 = X1 (m : Int) par dp ∧ anyL formP (l.drop i) par dp = true) ∨ (f73_2_l2 (fun _ => f93_2 q) j l (l.length : Int) (i : Int) par dp X0 X1 = X0 par dp ∧ anyL formP (l.drop i) par dp = false) := by
  rw [reachV] at hb
  refine EvB.down l.length ?_ ?_
  · refine EvB.suc (.all fun q j X0 X1 => .inr ⟨?_, ?_⟩)
    · rw [f73_2_l2, ifF (by omega)]
    · rw [List.drop_length, anyL]
  · intro i hi ih
    refine EvB.suc ((ih.and (.left (h i hi))).imp fun q j hk X0 X1 => ?_)
    obtain ⟨hk, h93⟩ := hk
    rw [List.drop_eq_getElem_cons hi, anyL, f73_2_l2, lt_nat, inb_nat, wrapSuc (by omega)]
    simp only [hi, decide_true, cond_true, Int.toNat_natCast, getD_get hi, h93]
    cases anyN formP l[i] par dp with
    | true => exact .inl ⟨i, rfl, rfl⟩
    | false => simp only [cond_false, Bool.false_or]; exact hk X0 X1
theorem f69_list (R : Type) (l : List D2) (hb : l.length * 64 ≤ reachBytes) (h : ∀ x ∈ l, OkN x → ∀ par dp : Int, Ev fun k => ∀ (K : Bool → Option R), f69 k x.c2 par dp K = K (anyL formP x.c2 par dp)) (ho : ∀ x ∈ l, OkN x) (par dp : Int) :
    Ev fun k => ∀ (K : Bool → Option R), f69 k l par dp K = K (anyL formP l par dp) := by
  have each : ∀ i (h : i < l.length), Ev fun k => ∀ (K : Bool → Int → Int → Option R), f93_2 k l[i].c0 l[i].c1 l[i].c2 l[i].c3 par dp K = K (anyN formP l[i] par dp) par dp := by
    intro i hi
    refine .suc ((f66_v R l[i] par dp).imp2 (h _ (List.getElem_mem hi) (ho _ (List.getElem_mem hi)) l[i].c0 (IntKind.i64.wrap (dp + 1))) fun k h1 h2 K => ?_)
    rw [f93_2_step, f93_2_s, h1, anyN_eta]
    cases formP l[i] par dp with
    | true => rfl
    | false => simp only [cond_false, h2, Bool.false_or]
  refine .suc (.suc (.suc ((f73_2_loop R l hb par dp each 0 (by omega)).diag.imp fun k hk K => ?_)))
  rw [f69_step, f69_s, f92_2_step, f92_2_s, f73_2_step, f73_2_s]
  simp only [Int.natCast_zero, List.drop_zero] at hk
  rcases hk (fun v9 v10 => (fun (v1 v2 v3 : Int) => (fun v1 _v2 _v3 => K v1) (decide (v1 ≥ 0)) v2 v3) (-1) v9 v10) (fun (v1 v2 v3 : Int) => (fun v1 _v2 _v3 => K v1) (decide (v1 ≥ 0)) v2 v3) with ⟨m, e1, e2⟩ | ⟨e1, e2⟩
  · refine e1.trans ?_
    rw [e2]; simp only [deT (show (m : Int) ≥ 0 by omega)]
  · refine e1.trans ?_
    rw [e2]; rfl
theorem f69_v (R : Type) {l : List D2} (hl : OkL l) (par dp : Int) : Ev fun k => ∀ (K : Bool → Option R), f69 k l par dp K = K (anyL formP l par dp) := by
  have key : ∀ n : D2, OkN n → ∀ par dp : Int, Ev fun k => ∀ (K : Bool → Option R), f69 k n.c2 par dp K = K (anyL formP n.c2 par dp) := by
    intro n
    refine D2.ind (P := fun n => OkN n → ∀ par dp : Int, Ev fun k => ∀ (K : Bool → Option R), f69 k n.c2 par dp K = K (anyL formP n.c2 par dp)) (fun i d ks g ih ho par dp => ?_) n
    exact f69_list R ks ho.kids.1 ih ho.kids.2 par dp
  exact f69_list R l hl.1 (fun x _ => key x) hl.2 par dp
theorem f73_4_loop (R : Type) (l : List D2) (hb : l.length * 64 ≤ reachBytes) (par dp : Int) (h : ∀ i (h : i < l.length), Ev fun k => ∀ (K : Bool → Int → Int → Option R), f93_4 k l[i].c0 l[i].c1 l[i].c2 l[i].c3 par dp K = K (anyN parP l[i] par dp) par dp) :
    ∀ i, i ≤ l.length → EvB fun q j => ∀ (X0 : Int → Int → Option R) (X1 : Int → Int → Int → Option R), (∃ m : Nat, f73_4_l2 (fun _ => f93_4 q) j l (l.length : Int) (i : Int) par dp X0 X1 = X1 (m : Int) par dp ∧ anyL parP (l.drop i) par dp = true) ∨ (f73_4_l2 (fun _ => f93_4 q) j l (l.length : Int) (i : Int) par dp X0 X1 = X0 par dp ∧ anyL parP (l.drop i) par dp = false) := by
  rw [reachV] at hb
  refine EvB.down l.length ?_ ?_
  · refine EvB.suc (.all fun q j X0 X1 => .inr ⟨?_, ?_⟩)
    · rw [f73_4_l2, ifF (by omega)]
    · rw [List.drop_length, anyL]
  · intro i hi ih
    refine EvB.suc ((ih.and (.left (h i hi))).imp fun q j hk X0 X1 => ?_)
    obtain ⟨hk, h93⟩ := hk
    rw [List.drop_eq_getElem_cons hi, anyL, f73_4_l2, lt_nat, inb_nat, wrapSuc (by omega)]
    simp only [hi, decide_true, cond_true, Int.toNat_natCast, getD_get hi, h93]
    cases anyN parP l[i] par dp with
    | true => exact .inl ⟨i, rfl, rfl⟩
    | false => simp only [cond_false, Bool.false_or]; exact hk X0 X1
theorem f69_2_list (R : Type) (l : List D2) (hb : l.length * 64 ≤ reachBytes) (h : ∀ x ∈ l, OkN x → ∀ par dp : Int, Ev fun k => ∀ (K : Bool → Option R), f69_2 k x.c2 par dp K = K (anyL parP x.c2 par dp)) (ho : ∀ x ∈ l, OkN x) (par dp : Int) :
    Ev fun k => ∀ (K : Bool → Option R), f69_2 k l par dp K = K (anyL parP l par dp) := by
  have each : ∀ i (h : i < l.length), Ev fun k => ∀ (K : Bool → Int → Int → Option R), f93_4 k l[i].c0 l[i].c1 l[i].c2 l[i].c3 par dp K = K (anyN parP l[i] par dp) par dp := by
    intro i hi
    refine .suc ((f67_v R l[i] par dp).imp2 (h _ (List.getElem_mem hi) (ho _ (List.getElem_mem hi)) l[i].c0 (IntKind.i64.wrap (dp + 1))) fun k h1 h2 K => ?_)
    rw [f93_4_step, f93_4_s, h1, anyN_eta]
    cases parP l[i] par dp with
    | true => rfl
    | false => simp only [cond_false, h2, Bool.false_or]
  refine .suc (.suc (.suc ((f73_4_loop R l hb par dp each 0 (by omega)).diag.imp fun k hk K => ?_)))
  rw [f69_2_step, f69_2_s, f92_4_step, f92_4_s, f73_4_step, f73_4_s]
  simp only [Int.natCast_zero, List.drop_zero] at hk
  rcases hk (fun v9 v10 => (fun (v1 v2 v3 : Int) => (fun v1 _v2 _v3 => K v1) (decide (v1 ≥ 0)) v2 v3) (-1) v9 v10) (fun (v1 v2 v3 : Int) => (fun v1 _v2 _v3 => K v1) (decide (v1 ≥ 0)) v2 v3) with ⟨m, e1, e2⟩ | ⟨e1, e2⟩
  · refine e1.trans ?_
    rw [e2]; simp only [deT (show (m : Int) ≥ 0 by omega)]
  · refine e1.trans ?_
    rw [e2]; rfl
theorem f69_2_v (R : Type) {l : List D2} (hl : OkL l) (par dp : Int) : Ev fun k => ∀ (K : Bool → Option R), f69_2 k l par dp K = K (anyL parP l par dp) := by
  have key : ∀ n : D2, OkN n → ∀ par dp : Int, Ev fun k => ∀ (K : Bool → Option R), f69_2 k n.c2 par dp K = K (anyL parP n.c2 par dp) := by
    intro n
    refine D2.ind (P := fun n => OkN n → ∀ par dp : Int, Ev fun k => ∀ (K : Bool → Option R), f69_2 k n.c2 par dp K = K (anyL parP n.c2 par dp)) (fun i d ks g ih ho par dp => ?_) n
    exact f69_2_list R ks ho.kids.1 ih ho.kids.2 par dp
  exact f69_2_list R l hl.1 (fun x _ => key x) hl.2 par dp
theorem f73_6_loop (R : Type) (l : List D2) (hb : l.length * 64 ≤ reachBytes) (par dp : Int) (h : ∀ i (h : i < l.length), Ev fun k => ∀ (K : Bool → Int → Int → Option R), f93_6 k l[i].c0 l[i].c1 l[i].c2 l[i].c3 par dp K = K (anyN deepP l[i] par dp) par dp) :
    ∀ i, i ≤ l.length → EvB fun q j => ∀ (X0 : Int → Int → Option R) (X1 : Int → Int → Int → Option R), (∃ m : Nat, f73_6_l2 (fun _ => f93_6 q) j l (l.length : Int) (i : Int) par dp X0 X1 = X1 (m : Int) par dp ∧ anyL deepP (l.drop i) par dp = true) ∨ (f73_6_l2 (fun _ => f93_6 q) j l (l.length : Int) (i : Int) par dp X0 X1 = X0 par dp ∧ anyL deepP (l.drop i) par dp = false) := by
  rw [reachV] at hb
  refine EvB.down l.length ?_ ?_
  · refine EvB.suc (.all fun q j X0 X1 => .inr ⟨?_, ?_⟩)
    · rw [f73_6_l2, ifF (by omega)]
    · rw [List.drop_length, anyL]
  · intro i hi ih
    refine EvB.suc ((ih.and (.left (h i hi))).imp fun q j hk X0 X1 => ?_)
    obtain ⟨hk, h93⟩ := hk
    rw [List.drop_eq_getElem_cons hi, anyL, f73_6_l2, lt_nat, inb_nat, wrapSuc (by omega)]
    simp only [hi, decide_true, cond_true, Int.toNat_natCast, getD_get hi, h93]
    cases anyN deepP l[i] par dp with
    | true => exact .inl ⟨i, rfl, rfl⟩
    | false => simp only [cond_false, Bool.false_or]; exact hk X0 X1
theorem f69_3_list (R : Type) (l : List D2) (hb : l.length * 64 ≤ reachBytes) (h : ∀ x ∈ l, OkN x → ∀ par dp : Int, Ev fun k => ∀ (K : Bool → Option R), f69_3 k x.c2 par dp K = K (anyL deepP x.c2 par dp)) (ho : ∀ x ∈ l, OkN x) (par dp : Int) :
    Ev fun k => ∀ (K : Bool → Option R), f69_3 k l par dp K = K (anyL deepP l par dp) := by
  have each : ∀ i (h : i < l.length), Ev fun k => ∀ (K : Bool → Int → Int → Option R), f93_6 k l[i].c0 l[i].c1 l[i].c2 l[i].c3 par dp K = K (anyN deepP l[i] par dp) par dp := by
    intro i hi
    refine .suc ((f70_v R l[i] par dp).imp2 (h _ (List.getElem_mem hi) (ho _ (List.getElem_mem hi)) l[i].c0 (IntKind.i64.wrap (dp + 1))) fun k h1 h2 K => ?_)
    rw [f93_6_step, f93_6_s, h1, anyN_eta]
    cases deepP l[i] par dp with
    | true => rfl
    | false => simp only [cond_false, h2, Bool.false_or]
  refine .suc (.suc (.suc ((f73_6_loop R l hb par dp each 0 (by omega)).diag.imp fun k hk K => ?_)))
  rw [f69_3_step, f69_3_s, f92_6_step, f92_6_s, f73_6_step, f73_6_s]
  simp only [Int.natCast_zero, List.drop_zero] at hk
  rcases hk (fun v9 v10 => (fun (v1 v2 v3 : Int) => (fun v1 _v2 _v3 => K v1) (decide (v1 ≥ 0)) v2 v3) (-1) v9 v10) (fun (v1 v2 v3 : Int) => (fun v1 _v2 _v3 => K v1) (decide (v1 ≥ 0)) v2 v3) with ⟨m, e1, e2⟩ | ⟨e1, e2⟩
  · refine e1.trans ?_
    rw [e2]; simp only [deT (show (m : Int) ≥ 0 by omega)]
  · refine e1.trans ?_
    rw [e2]; rfl
theorem f69_3_v (R : Type) {l : List D2} (hl : OkL l) (par dp : Int) : Ev fun k => ∀ (K : Bool → Option R), f69_3 k l par dp K = K (anyL deepP l par dp) := by
  have key : ∀ n : D2, OkN n → ∀ par dp : Int, Ev fun k => ∀ (K : Bool → Option R), f69_3 k n.c2 par dp K = K (anyL deepP n.c2 par dp) := by
    intro n
    refine D2.ind (P := fun n => OkN n → ∀ par dp : Int, Ev fun k => ∀ (K : Bool → Option R), f69_3 k n.c2 par dp K = K (anyL deepP n.c2 par dp)) (fun i d ks g ih ho par dp => ?_) n
    exact f69_3_list R ks ho.kids.1 ih ho.kids.2 par dp
  exact f69_3_list R l hl.1 (fun x _ => key x) hl.2 par dp
mutual
def cntN : D2 → Int → Bool × Int
  | .mk _ _ ks _, c => if IntKind.i64.wrap (c + 1) > 4000 then (true, IntKind.i64.wrap (c + 1)) else cntL ks (IntKind.i64.wrap (c + 1))
def cntL : List D2 → Int → Bool × Int
  | [], c => (false, c)
  | x :: l, c => match cntN x c with
    | (true, c) => (true, c)
    | (false, c) => cntL l c
end
theorem cntN_eta (n : D2) (c : Int) : cntN n c = if IntKind.i64.wrap (c + 1) > 4000 then (true, IntKind.i64.wrap (c + 1)) else cntL n.c2 (IntKind.i64.wrap (c + 1)) := by
  cases n; rw [cntN]; rfl
mutual
def nodesN : D2 → Nat
  | .mk _ _ ks _ => 1 + nodesL ks
def nodesL : List D2 → Nat
  | [] => 0
  | x :: l => nodesN x + nodesL l
end
theorem nodesN_eta (n : D2) : nodesN n = 1 + nodesL n.c2 := by cases n; rw [nodesN]; rfl
theorem nodesL_len : ∀ l : List D2, l.length ≤ nodesL l
  | [] => by simp
  | x :: l => by
    have := nodesL_len l
    rw [nodesL, nodesN_eta, List.length_cons]; omega
def CntOk (r : Bool × Int) (c n : Nat) : Prop := (4000 < c + n → r.1 = true) ∧ (¬ 4000 < c + n → r = (false, ((c + n : Nat) : Int)))
theorem cnt_list : ∀ (l : List D2), (∀ x ∈ l, ∀ c : Nat, c ≤ 4000 → CntOk (cntN x c) c (nodesN x)) → ∀ c : Nat, c ≤ 4000 → CntOk (cntL l c) c (nodesL l)
  | [], _, c, hc => by
    rw [cntL, nodesL]
    exact ⟨fun h => by omega, fun _ => rfl⟩
  | x :: l, h, c, hc => by
    have h1 := h x (by simp) c hc
    rw [cntL, nodesL]
    by_cases a : 4000 < c + nodesN x
    · have := h1.1 a
      cases hc : cntN x c with
      | mk b c' =>
        rw [hc] at this
        cases this
        exact ⟨fun _ => rfl, fun h => by omega⟩
    · rw [h1.2 a]
      have h2 := cnt_list l (fun y hy => h y (by simp [hy])) (c + nodesN x) (by omega)
      dsimp only
      refine ⟨fun h => h2.1 (by omega), fun h => ?_⟩
      rw [h2.2 (by omega), Nat.add_assoc]
theorem cnt_node (n : D2) : ∀ c : Nat, c ≤ 4000 → CntOk (cntN n c) c (nodesN n) := by
  refine D2.ind (P := fun n => ∀ c : Nat, c ≤ 4000 → CntOk (cntN n c) c (nodesN n)) (fun i d ks g ih c hc => ?_) n
  rw [cntN, nodesN, wrapSuc (by omega)]
  by_cases a : ((c + 1 : Nat) : Int) > 4000
  · rw [if_pos a]
    exact ⟨fun _ => rfl, fun h => by omega⟩
  · rw [if_neg a]
    have := cnt_list ks ih (c + 1) (by omega)
    exact ⟨fun h => this.1 (by omega), fun h => by rw [this.2 (by omega), Nat.add_assoc]⟩
theorem cntL_v (l : List D2) : (cntL l 0).1 = decide (4000 < nodesL l) := by
  have := cnt_list l (fun x _ => cnt_node x) 0 (by omega)
  by_cases a : 4000 < nodesL l
  · have h := this.1 (by omega)
    rw [deT a]; exact h
  · have h := this.2 (by omega)
    rw [deF a]
    have h : cntL l 0 = _ := h
    rw [h]
theorem f73_8_loop (R : Type) (l : List D2) (hb : l.length * 64 ≤ reachBytes) (par dp : Int) (h : ∀ i (h : i < l.length), Ev fun k => ∀ (c : Int) (K : Bool → Int → Int → Int → Option R), f93_8 k l[i].c0 l[i].c1 l[i].c2 l[i].c3 c par dp K = K (cntN l[i] c).1 (cntN l[i] c).2 par dp) :
    ∀ i, i ≤ l.length → EvB fun q j => ∀ (c : Int) (X0 : Int → Int → Int → Option R) (X1 : Int → Int → Int → Int → Option R), (∃ m : Nat, f73_8_l2 (fun _ => f93_8 q) j l (l.length : Int) (i : Int) c par dp X0 X1 = X1 (m : Int) (cntL (l.drop i) c).2 par dp ∧ (cntL (l.drop i) c).1 = true) ∨ (f73_8_l2 (fun _ => f93_8 q) j l (l.length : Int) (i : Int) c par dp X0 X1 = X0 (cntL (l.drop i) c).2 par dp ∧ (cntL (l.drop i) c).1 = false) := by
  rw [reachV] at hb
  refine EvB.down l.length ?_ ?_
  · refine EvB.suc (.all fun q j c X0 X1 => .inr ⟨?_, ?_⟩)
    · rw [f73_8_l2, ifF (by omega), List.drop_length, cntL]
    · rw [List.drop_length, cntL]
  · intro i hi ih
    refine EvB.suc ((ih.and (.left (h i hi))).imp fun q j hk c X0 X1 => ?_)
    obtain ⟨hk, h93⟩ := hk
    rw [List.drop_eq_getElem_cons hi, cntL, f73_8_l2, lt_nat, inb_nat, wrapSuc (by omega)]
    simp only [hi, decide_true, cond_true, Int.toNat_natCast, getD_get hi, h93]
    cases hc : cntN l[i] c with
    | mk b c' =>
      cases b with
      | true => exact .inl ⟨i, rfl, rfl⟩
      | false => simp only [cond_false]; exact hk c' X0 X1
theorem f69_4_list (R : Type) (l : List D2) (hb : l.length * 64 ≤ reachBytes) (h : ∀ x ∈ l, OkN x → ∀ par dp : Int, Ev fun k => ∀ (c : Int) (K : Bool → Int → Option R), f69_4 k x.c2 par dp c K = K (cntL x.c2 c).1 (cntL x.c2 c).2) (ho : ∀ x ∈ l, OkN x) (par dp : Int) :
    Ev fun k => ∀ (c : Int) (K : Bool → Int → Option R), f69_4 k l par dp c K = K (cntL l c).1 (cntL l c).2 := by
  have each : ∀ i (h : i < l.length), Ev fun k => ∀ (c : Int) (K : Bool → Int → Int → Int → Option R), f93_8 k l[i].c0 l[i].c1 l[i].c2 l[i].c3 c par dp K = K (cntN l[i] c).1 (cntN l[i] c).2 par dp := by
    intro i hi
    refine .suc ((h _ (List.getElem_mem hi) (ho _ (List.getElem_mem hi)) l[i].c0 (IntKind.i64.wrap (dp + 1))).imp fun k h2 c K => ?_)
    rw [f93_8_step, f93_8_s, f71, cntN_eta]
    by_cases a : IntKind.i64.wrap (c + 1) > 4000
    · rw [deT a, if_pos a]; rfl
    · rw [deF a, if_neg a]
      simp only [cond_false, h2]
  refine .suc (.suc (.suc ((f73_8_loop R l hb par dp each 0 (by omega)).diag.imp fun k hk c K => ?_)))
  rw [f69_4_step, f69_4_s, f92_8_step, f92_8_s, f73_8_step, f73_8_s]
  simp only [Int.natCast_zero, List.drop_zero] at hk
  rcases hk c (fun v11 v12 v13 => (fun (v1 v2 v3 v4 : Int) => (fun v1 v2 _v3 _v4 => K v1 v2) (decide (v1 ≥ 0)) v2 v3 v4) (-1) v11 v12 v13) (fun (v1 v2 v3 v4 : Int) => (fun v1 v2 _v3 _v4 => K v1 v2) (decide (v1 ≥ 0)) v2 v3 v4) with ⟨m, e1, e2⟩ | ⟨e1, e2⟩
  · refine e1.trans ?_
    rw [e2]; simp only [deT (show (m : Int) ≥ 0 by omega)]
  · refine e1.trans ?_
    rw [e2]; rfl
theorem f69_4_v (R : Type) {l : List D2} (hl : OkL l) (par dp : Int) : Ev fun k => ∀ (c : Int) (K : Bool → Int → Option R), f69_4 k l par dp c K = K (cntL l c).1 (cntL l c).2 := by
  have key : ∀ n : D2, OkN n → ∀ par dp : Int, Ev fun k => ∀ (c : Int) (K : Bool → Int → Option R), f69_4 k n.c2 par dp c K = K (cntL n.c2 c).1 (cntL n.c2 c).2 := by
    intro n
    refine D2.ind (P := fun n => OkN n → ∀ par dp : Int, Ev fun k => ∀ (c : Int) (K : Bool → Int → Option R), f69_4 k n.c2 par dp c K = K (cntL n.c2 c).1 (cntL n.c2 c).2) (fun i d ks g ih ho par dp => ?_) n
    exact f69_4_list R ks ho.kids.1 ih ho.kids.2 par dp
  exact f69_4_list R l hl.1 (fun x _ => key x) hl.2 par dp
theorem nodes_drop (l : List D2) (i : Nat) (hi : i < l.length) : nodesL (l.drop i) = nodesN l[i] + nodesL (l.drop (i + 1)) := by
  rw [List.drop_eq_getElem_cons hi, nodesL]
theorem f38_list (R : Type) (l : List D2) (hb : l.length * 64 ≤ reachBytes) (h : ∀ x ∈ l, OkN x → nodesL x.c2 ≤ 1000000000000 → Ev fun k => ∀ (K : Int → Option R), f38 k x.c2 K = K (nodesL x.c2 : Int)) (ho : ∀ x ∈ l, OkN x) (hn : nodesL l ≤ 1000000000000) :
    Ev fun k => ∀ (K : Int → Option R), f38 k l K = K (nodesL l : Int) := by
  rw [reachV] at hb
  have mono : ∀ i, nodesL (l.drop i) ≤ nodesL l := by
    intro i
    induction i generalizing l with
    | zero => simp
    | succ i ih =>
      cases l with
      | nil => simp
      | cons x l =>
        rw [List.drop_succ_cons, nodesL]
        have : nodesL (l.drop i) ≤ nodesL l := by
          clear ih h ho hb hn
          induction i generalizing l with
          | zero => simp
          | succ i ih => cases l with
            | nil => simp
            | cons y l => rw [List.drop_succ_cons, nodesL]; have := ih l; omega
        omega
  have lp : ∀ i, i ≤ l.length → EvB fun q j => ∀ (c : Nat) (X0 : Int → Option R), c + nodesL (l.drop i) ≤ 2000000000000 + (l.length - i) → l.length - i ≤ c → f38_l3 (fun _ => f38 q) j l (c : Int) (i : Int) X0 = X0 ((c + nodesL (l.drop i) - (l.length - i) : Nat) : Int) := by
    refine EvB.down l.length ?_ ?_
    · refine EvB.suc (.all fun q j c X0 _ _ => ?_)
      rw [f38_l3, ifF (by omega), List.drop_length, nodesL]; simp
    · intro i hi ih
      have m1 := nodes_drop l i hi
      have m2 := mono i
      have m3 := nodesN_eta l[i]
      refine EvB.suc ((ih.and (.left (h _ (List.getElem_mem hi) (ho _ (List.getElem_mem hi)) (by omega)))).imp fun q j hk c X0 hc hc2 => ?_)
      rw [f38_l3, lt_nat, inb_nat, wrapSuc (by omega)]
      simp only [hi, decide_true, cond_true, Int.toNat_natCast, getD_get hi, hk.2]
      rw [wrapAdd (by omega), hk.1 _ _ (by omega) (by omega)]
      congr 2; omega
  refine .suc ((lp 0 (by omega)).diag.imp fun k hk K => ?_)
  have hl := nodesL_len l
  rw [f38_step, f38_s]
  have := hk l.length K (by rw [List.drop_zero]; omega) (by omega)
  rw [Int.natCast_zero] at this
  rw [this, List.drop_zero]
  congr 2; omega
theorem f38_v (R : Type) {l : List D2} (hl : OkL l) (hn : nodesL l ≤ 1000000000000) : Ev fun k => ∀ (K : Int → Option R), f38 k l K = K (nodesL l : Int) := by
  have key : ∀ n : D2, OkN n → nodesL n.c2 ≤ 1000000000000 → Ev fun k => ∀ (K : Int → Option R), f38 k n.c2 K = K (nodesL n.c2 : Int) := by
    intro n
    refine D2.ind (P := fun n => OkN n → nodesL n.c2 ≤ 1000000000000 → Ev fun k => ∀ (K : Int → Option R), f38 k n.c2 K = K (nodesL n.c2 : Int)) (fun i d ks g ih ho hn => ?_) n
    exact f38_list R ks ho.kids.1 ih ho.kids.2 hn
  exact f38_list R l hl.1 (fun x _ => key x) hl.2 hn
theorem f81_loop1 (R : Type) (l : List D2) (hb : l.length * 64 ≤ reachBytes) (par dp : Int) (h : ∀ i (h : i < l.length), Ev fun k => ∀ (K : Bool → Option R), f81 k l[i].c2 l[i].c0 (IntKind.i64.wrap (dp + 1)) 1 K = K (anyL formP l[i].c2 l[i].c0 (IntKind.i64.wrap (dp + 1)))) :
    ∀ i, i ≤ l.length → EvB fun q j => ∀ (X0 : Option R) (X1 : Bool → Option R), f81_l2 (fun _ => f81 q) j l par dp 1 (i : Int) X0 X1 = bif anyL formP (l.drop i) par dp then X1 true else X0 := by
  rw [reachV] at hb
  refine EvB.down l.length ?_ ?_
  · refine EvB.suc (.all fun q j X0 X1 => ?_)
    rw [f81_l2, ifF (by omega), List.drop_length, anyL]; rfl
  · intro i hi ih
    refine EvB.suc ((ih.and ((EvB.left (h i hi)).and (.right (f26_v l[i].c0 R)))).imp fun q j hk X0 X1 => ?_)
    obtain ⟨hk, h81, h26⟩ := hk
    have e1 : ((1 : Int) == 1) = true := by decide
    rw [List.drop_eq_getElem_cons hi, anyL, anyN_eta, f81_l2, lt_nat, inb_nat, wrapSuc (by omega)]
    simp only [hi, decide_true, cond_true, Int.toNat_natCast, getD_get hi, h26, h81, formP, e1]
    cases known l[i].c0 with
    | false => rfl
    | true =>
      cases decide ((rowOf l[i].c0).2.2.1 < 0) with
      | true => rfl
      | false =>
        cases (rowOf l[i].c0).2.2.2.1 == l[i].c3 with
        | false => rfl
        | true =>
          cases l[i].c3 with
          | true =>
            cases decide ((l[i].c1.length : Int) > 0) with
            | true => rfl
            | false =>
              cases anyL formP l[i].c2 l[i].c0 (IntKind.i64.wrap (dp + 1)) with
              | true => rfl
              | false => exact hk X0 X1
          | false =>
            cases decide ((l[i].c2.length : Int) > 0) with
            | true => rfl
            | false =>
              cases anyL formP l[i].c2 l[i].c0 (IntKind.i64.wrap (dp + 1)) with
              | true => rfl
              | false => exact hk X0 X1
theorem f81_list1 (R : Type) (l : List D2) (hb : l.length * 64 ≤ reachBytes) (h : ∀ x ∈ l, OkN x → ∀ par dp : Int, Ev fun k => ∀ (K : Bool → Option R), f81 k x.c2 par dp 1 K = K (anyL formP x.c2 par dp)) (ho : ∀ x ∈ l, OkN x) (par dp : Int) :
    Ev fun k => ∀ (K : Bool → Option R), f81 k l par dp 1 K = K (anyL formP l par dp) := by
  refine .suc ((f81_loop1 R l hb par dp (fun i hi => h _ (List.getElem_mem hi) (ho _ (List.getElem_mem hi)) _ _) 0 (by omega)).diag.imp fun k hk K => ?_)
  simp only [Int.natCast_zero, List.drop_zero] at hk
  rw [f81_step, f81_s, hk]
  cases anyL formP l par dp <;> rfl
theorem f81_v1 (R : Type) {l : List D2} (hl : OkL l) (par dp : Int) : Ev fun k => ∀ (K : Bool → Option R), f81 k l par dp 1 K = K (anyL formP l par dp) := by
  have key : ∀ n : D2, OkN n → ∀ par dp : Int, Ev fun k => ∀ (K : Bool → Option R), f81 k n.c2 par dp 1 K = K (anyL formP n.c2 par dp) := by
    intro n
    refine D2.ind (P := fun n => OkN n → ∀ par dp : Int, Ev fun k => ∀ (K : Bool → Option R), f81 k n.c2 par dp 1 K = K (anyL formP n.c2 par dp)) (fun i d ks g ih ho par dp => ?_) n
    exact f81_list1 R ks ho.kids.1 ih ho.kids.2 par dp
  exact f81_list1 R l hl.1 (fun x _ => key x) hl.2 par dp
theorem f81_loop2 (R : Type) (l : List D2) (hb : l.length * 64 ≤ reachBytes) (par dp : Int) (h : ∀ i (h : i < l.length), Ev fun k => ∀ (K : Bool → Option R), f81 k l[i].c2 l[i].c0 (IntKind.i64.wrap (dp + 1)) 2 K = K (anyL parP l[i].c2 l[i].c0 (IntKind.i64.wrap (dp + 1)))) :
    ∀ i, i ≤ l.length → EvB fun q j => ∀ (X0 : Option R) (X1 : Bool → Option R), f81_l2 (fun _ => f81 q) j l par dp 2 (i : Int) X0 X1 = bif anyL parP (l.drop i) par dp then X1 true else X0 := by
  rw [reachV] at hb
  refine EvB.down l.length ?_ ?_
  · refine EvB.suc (.all fun q j X0 X1 => ?_)
    rw [f81_l2, ifF (by omega), List.drop_length, anyL]; rfl
  · intro i hi ih
    refine EvB.suc ((ih.and ((EvB.left (h i hi)).and (.right (f26_v l[i].c0 R)))).imp fun q j hk X0 X1 => ?_)
    obtain ⟨hk, h81, h26⟩ := hk
    have e1 : ((2 : Int) == 1) = false := by decide
    have e2 : ((2 : Int) == 2) = true := by decide
    rw [List.drop_eq_getElem_cons hi, anyL, anyN_eta, f81_l2, lt_nat, inb_nat, wrapSuc (by omega)]
    simp only [hi, decide_true, cond_true, Int.toNat_natCast, getD_get hi, h26, h81, parP, e1, e2, cond_false, f98_v]
    cases within (rowOf l[i].c0) par with
    | false => rfl
    | true =>
      cases anyL parP l[i].c2 l[i].c0 (IntKind.i64.wrap (dp + 1)) with
      | true => rfl
      | false => exact hk X0 X1
theorem f81_list2 (R : Type) (l : List D2) (hb : l.length * 64 ≤ reachBytes) (h : ∀ x ∈ l, OkN x → ∀ par dp : Int, Ev fun k => ∀ (K : Bool → Option R), f81 k x.c2 par dp 2 K = K (anyL parP x.c2 par dp)) (ho : ∀ x ∈ l, OkN x) (par dp : Int) :
    Ev fun k => ∀ (K : Bool → Option R), f81 k l par dp 2 K = K (anyL parP l par dp) := by
  refine .suc ((f81_loop2 R l hb par dp (fun i hi => h _ (List.getElem_mem hi) (ho _ (List.getElem_mem hi)) _ _) 0 (by omega)).diag.imp fun k hk K => ?_)
  simp only [Int.natCast_zero, List.drop_zero] at hk
  rw [f81_step, f81_s, hk]
  cases anyL parP l par dp <;> rfl
theorem f81_v2 (R : Type) {l : List D2} (hl : OkL l) (par dp : Int) : Ev fun k => ∀ (K : Bool → Option R), f81 k l par dp 2 K = K (anyL parP l par dp) := by
  have key : ∀ n : D2, OkN n → ∀ par dp : Int, Ev fun k => ∀ (K : Bool → Option R), f81 k n.c2 par dp 2 K = K (anyL parP n.c2 par dp) := by
    intro n
    refine D2.ind (P := fun n => OkN n → ∀ par dp : Int, Ev fun k => ∀ (K : Bool → Option R), f81 k n.c2 par dp 2 K = K (anyL parP n.c2 par dp)) (fun i d ks g ih ho par dp => ?_) n
    exact f81_list2 R ks ho.kids.1 ih ho.kids.2 par dp
  exact f81_list2 R l hl.1 (fun x _ => key x) hl.2 par dp
theorem f81_loop3 (R : Type) (l : List D2) (hb : l.length * 64 ≤ reachBytes) (par dp : Int) (h : ∀ i (h : i < l.length), Ev fun k => ∀ (K : Bool → Option R), f81 k l[i].c2 l[i].c0 (IntKind.i64.wrap (dp + 1)) 3 K = K (anyL deepP l[i].c2 l[i].c0 (IntKind.i64.wrap (dp + 1)))) :
    ∀ i, i ≤ l.length → EvB fun q j => ∀ (X0 : Option R) (X1 : Bool → Option R), f81_l2 (fun _ => f81 q) j l par dp 3 (i : Int) X0 X1 = bif anyL deepP (l.drop i) par dp then X1 true else X0 := by
  rw [reachV] at hb
  refine EvB.down l.length ?_ ?_
  · refine EvB.suc (.all fun q j X0 X1 => ?_)
    rw [f81_l2, ifF (by omega), List.drop_length, anyL]; rfl
  · intro i hi ih
    refine EvB.suc ((ih.and ((EvB.left (h i hi)).and (.right (f26_v l[i].c0 R)))).imp fun q j hk X0 X1 => ?_)
    obtain ⟨hk, h81, h26⟩ := hk
    have e1 : ((3 : Int) == 1) = false := by decide
    have e2 : ((3 : Int) == 2) = false := by decide
    have e3 : ((3 : Int) == 3) = true := by decide
    rw [List.drop_eq_getElem_cons hi, anyL, anyN_eta, f81_l2, lt_nat, inb_nat, wrapSuc (by omega)]
    simp only [hi, decide_true, cond_true, Int.toNat_natCast, getD_get hi, h26, h81, deepP, e1, e2, e3, cond_false]
    cases decide (dp > 8) with
    | true => rfl
    | false =>
      cases anyL deepP l[i].c2 l[i].c0 (IntKind.i64.wrap (dp + 1)) with
      | true => rfl
      | false => exact hk X0 X1
theorem f81_list3 (R : Type) (l : List D2) (hb : l.length * 64 ≤ reachBytes) (h : ∀ x ∈ l, OkN x → ∀ par dp : Int, Ev fun k => ∀ (K : Bool → Option R), f81 k x.c2 par dp 3 K = K (anyL deepP x.c2 par dp)) (ho : ∀ x ∈ l, OkN x) (par dp : Int) :
    Ev fun k => ∀ (K : Bool → Option R), f81 k l par dp 3 K = K (anyL deepP l par dp) := by
  refine .suc ((f81_loop3 R l hb par dp (fun i hi => h _ (List.getElem_mem hi) (ho _ (List.getElem_mem hi)) _ _) 0 (by omega)).diag.imp fun k hk K => ?_)
  simp only [Int.natCast_zero, List.drop_zero] at hk
  rw [f81_step, f81_s, hk]
  cases anyL deepP l par dp <;> rfl
theorem f81_v3 (R : Type) {l : List D2} (hl : OkL l) (par dp : Int) : Ev fun k => ∀ (K : Bool → Option R), f81 k l par dp 3 K = K (anyL deepP l par dp) := by
  have key : ∀ n : D2, OkN n → ∀ par dp : Int, Ev fun k => ∀ (K : Bool → Option R), f81 k n.c2 par dp 3 K = K (anyL deepP n.c2 par dp) := by
    intro n
    refine D2.ind (P := fun n => OkN n → ∀ par dp : Int, Ev fun k => ∀ (K : Bool → Option R), f81 k n.c2 par dp 3 K = K (anyL deepP n.c2 par dp)) (fun i d ks g ih ho par dp => ?_) n
    exact f81_list3 R ks ho.kids.1 ih ho.kids.2 par dp
  exact f81_list3 R l hl.1 (fun x _ => key x) hl.2 par dp
/-- The first error of a tree. -/
noncomputable def checkR (l : List D2) : Int := bif anyL formP l 0 1 then 4 else bif anyL parP l 0 1 then 42 else bif anyL deepP l 0 1 then 43 else bif decide (4000 < nodesL l) then 2 else 0
theorem f37_v (R : Type) {l : List D2} (hl : OkL l) : Ev fun k => ∀ (K : Int → Option R), f37 k l K = K (checkR l) := by
  refine (f69_v R hl 0 1).imp4 (f69_2_v R hl 0 1) (f69_3_v R hl 0 1) (f69_4_v R hl 0 1) fun k h1 h2 h3 h4 K => ?_
  simp only [f37, h1, h2, h3, h4, checkR, cntL_v]
  cases anyL formP l 0 1 with
  | true => rfl
  | false =>
    cases anyL parP l 0 1 with
    | true => rfl
    | false =>
      cases anyL deepP l 0 1 with
      | true => rfl
      | false => cases decide (4000 < nodesL l) <;> rfl
theorem f51_v (R : Type) {l : List D2} (hl : OkL l) (hn : nodesL l ≤ 1000000000000) : Ev fun k => ∀ (K : Int → Option R), f51 k l K = K (checkR l) := by
  refine (f81_v1 R hl 0 1).imp4 (f81_v2 R hl 0 1) (f81_v3 R hl 0 1) (f38_v R hl hn) fun k h1 h2 h3 h4 K => ?_
  have e : decide ((nodesL l : Int) > 4000) = decide (4000 < nodesL l) := by
    by_cases a : 4000 < nodesL l
    · rw [deT a, deT (by omega)]
    · rw [deF a, deF (by omega)]
  simp only [f51, h1, h2, h3, h4, checkR, e]
  cases anyL formP l 0 1 with
  | true => rfl
  | false =>
    cases anyL parP l 0 1 with
    | true => rfl
    | false =>
      cases anyL deepP l 0 1 with
      | true => rfl
      | false => cases decide (4000 < nodesL l) <;> rfl
theorem ownKn : ownKnob Try.prog.godebug = none := by kernel_rfl
theorem laidOut : laidOutB Try.prog = true := by kernel_rfl
noncomputable def naming : Naming cx where
  flds := flds
  toT := toT
  ofT := ofT
  plain := fun r => match r with
    | 0 => rfl
    | 1 => rfl
    | 2 => rfl
    | 3 => rfl
    | 4 => rfl
    | 5 => rfl
    | 6 => rfl
    | 7 => rfl
    | 8 => rfl
    | 9 => rfl
    | 10 => rfl
    | 11 => rfl
    | _n + 12 => rfl
  to_of := fun r x => match r, x with
    | 0, _ => rfl
    | 1, _ => rfl
    | 2, _ => rfl
    | 3, _ => rfl
    | 4, _ => rfl
    | 5, _ => rfl
    | 6, _ => rfl
    | 7, _ => rfl
    | 8, _ => rfl
    | 9, _ => rfl
    | 10, _ => rfl
    | 11, _ => rfl
    | _n + 12, _ => rfl
  deep := fun r v => match r, v with
    | 0, _ => rfl
    | 1, _ => rfl
    | 2, v => deep2_eq v
    | 3, _ => rfl
    | 4, _ => rfl
    | 5, _ => rfl
    | 6, _ => rfl
    | 7, _ => rfl
    | 8, _ => rfl
    | 9, _ => rfl
    | 10, _ => rfl
    | 11, _ => rfl
    | _n + 12, _ => rfl
theorem fit : Fit naming Try.prog := fit_of (tab := tab) rfl (by kernel_rfl)
theorem wf_bytes {z : Nat} {l : List Int} (h : WfIV (.list z (l.map fun y => [.int .u8 y]))) : l.length ≤ reachBytes ∧ ∀ n ∈ l, 0 ≤ n ∧ n < 256 := by
  cases h with
  | list h1 h2 _ =>
    refine ⟨by simpa using h1, fun n hn => ?_⟩
    have := h2 _ (List.mem_map.2 ⟨n, hn, rfl⟩) _ (List.mem_singleton.2 rfl)
    cases this with
    | int h3 => simp [Lit.wf, IntKind.min, IntKind.max, IntKind.signed, IntKind.bits] at h3; omega
theorem wf_int {n : Int} (h : WfIV (.int .i64 n)) : -9223372036854775808 ≤ n ∧ n < 9223372036854775808 := by
  cases h with
  | int h3 => simp [Lit.wf, IntKind.min, IntKind.max, IntKind.signed, IntKind.bits] at h3; omega
theorem deep2_mk (i : Int) (d : List Int) (ks : List D2) (g : Bool) : deep2 (.mk i d ks g) = [.int .i64 i, .list 1 (d.map fun y => [.int .u8 y]), .list 4 (deep2s ks), .bool g] := by rw [deep2]; rfl
theorem okL_wf {ks : List D2} (h : WfIV (.list 4 (deep2s ks))) (ih : ∀ x ∈ ks, (∀ iv ∈ deep2 x, WfIV iv) → OkN x) : OkL ks := by
  rw [deep2s_map] at h
  cases h with
  | list h1 h2 h3 =>
    refine ⟨?_, fun x hx => ih x hx (h2 _ (List.mem_map.2 ⟨x, hx, rfl⟩))⟩
    cases ks with
    | nil => simp
    | cons x ks =>
      have h4 := h3 (deep2 x) (by simp)
      obtain ⟨i, d, k, g⟩ := x
      rw [deep2_mk] at h4
      have e : lay (List.map cellB [IV.int IntKind.i64 i, IV.list 1 (d.map fun y => [.int .u8 y]), IV.list 4 (deep2s k), IV.bool g]) = 64 := by kernel_rfl
      rw [List.length_map, e] at h4
      exact h4
theorem okN_wf (n : D2) : (∀ iv ∈ deep2 n, WfIV iv) → OkN n := by
  refine D2.ind (P := fun n => (∀ iv ∈ deep2 n, WfIV iv) → OkN n) (fun i d ks g ih h => ?_) n
  rw [deep2_mk] at h
  have hd := wf_bytes (h (.list 1 (d.map fun y => [.int .u8 y])) (by simp))
  have hk := okL_wf (h (.list 4 (deep2s ks)) (by simp)) ih
  exact .mk (wf_int (h (.int .i64 i) (by simp))) hd.2 hd.1 hk.1 hk.2
theorem okL_arg {l : List D2} (h : ∀ iv ∈ deep cx (.slice (.named 2)) l, WfIV iv) : OkL l := by
  refine okL_wf (ks := l) ?_ fun x _ => okN_wf x
  have := h _ (List.mem_singleton.2 rfl)
  rw [deep2s_map]; exact this
def idS (i : Int) : List Int := if idN i = 0 then [] else beB (idN i) i
def vintS (c : Int) : List Int := if c < 0 ∨ 2 ^ (7 * vl c) - 1 ≤ c then [] else vintW c
noncomputable def szS (op : Bool) (i : Int) (n : Nat) : List Int := if (op && (rowOf i).2.2.2.2) = true then [255] else vintS (n : Int)
def sumS (sums : Bool) (c : List Int) : List Int := if sums = true then [237, 132] ++ (beB 4 (sumB c) ++ c) else c
mutual
noncomputable def wrN (sums op : Bool) : D2 → List Int
  | .mk i d ks g => if g = true then idS i ++ (szS op i (sumS sums (wrL sums op ks)).length ++ sumS sums (wrL sums op ks)) else idS i ++ (szS op i d.length ++ d)
noncomputable def wrL (sums op : Bool) : List D2 → List Int
  | [] => []
  | x :: l => wrN sums op x ++ wrL sums op l
end
/-- What a node puts behind its size. -/
noncomputable def contN (sums op : Bool) (n : D2) : List Int := if n.c3 = true then sumS sums (wrL sums op n.c2) else n.c1
theorem wrN_eta (sums op : Bool) (n : D2) : wrN sums op n = idS n.c0 ++ (szS op n.c0 (contN sums op n).length ++ contN sums op n) := by
  obtain ⟨i, d, ks, g⟩ := n
  rw [wrN]; unfold contN
  cases g <;> rfl
mutual
def wtN : D2 → Nat
  | .mk _ d ks _ => 1 + d.length + wtL ks
def wtL : List D2 → Nat
  | [] => 0
  | x :: l => wtN x + wtL l
end
theorem wtN_eta (n : D2) : wtN n = 1 + n.c1.length + wtL n.c2 := by cases n; rw [wtN]; rfl
theorem idS_len (i : Int) : (idS i).length ≤ 4 := by
  unfold idS; split
  · simp
  · rw [beB_len]; exact idN_le i
theorem vintS_len (c : Int) : (vintS c).length ≤ 8 := by
  unfold vintS; split
  · simp
  · rw [vintW, beB_len]; exact (vl_range c).2
theorem szS_len (op : Bool) (i : Int) (n : Nat) : (szS op i n).length ≤ 8 := by
  unfold szS; split
  · simp
  · exact vintS_len _
theorem sumS_len (s : Bool) (c : List Int) : (sumS s c).length ≤ 6 + c.length := by
  unfold sumS; split
  · simp only [List.length_append, List.length_cons, List.length_nil, beB_len]; omega
  · omega
theorem wrL_le (s o : Bool) : ∀ (l : List D2), (∀ x ∈ l, (wrN s o x).length ≤ 20 * wtN x) → (wrL s o l).length ≤ 20 * wtL l
  | [], _ => by rw [wrL]; simp
  | x :: l, h => by
    have h1 := h x (by simp)
    have h2 := wrL_le s o l fun y hy => h y (by simp [hy])
    rw [wrL, wtL, List.length_append]; omega
theorem wrN_len (s o : Bool) (n : D2) : (wrN s o n).length ≤ 20 * wtN n := by
  refine D2.ind (P := fun n => (wrN s o n).length ≤ 20 * wtN n) (fun i d ks g ih => ?_) n
  have h1 := wrL_le s o ks ih
  have h2 := idS_len i
  rw [wrN, wtN]
  split
  · have h3 := szS_len o i (sumS s (wrL s o ks)).length
    have h4 := sumS_len s (wrL s o ks)
    simp only [List.length_append]; omega
  · have h3 := szS_len o i d.length
    simp only [List.length_append]; omega
theorem wrL_len (s o : Bool) (l : List D2) : (wrL s o l).length ≤ 20 * wtL l := wrL_le s o l fun x _ => wrN_len s o x
theorem sumB_range (l : List Int) : 0 ≤ sumB l ∧ sumB l < 4294967296 := by
  unfold sumB xorI
  simp [IntKind.wrap, IntKind.signed, IntKind.bits]; omega
theorem sum_bytes (l : List Int) : [237, 132, (IntKind.u8.wrap ((shrI .i64 (IntKind.i64.wrap (sumB l)) 24))), (IntKind.u8.wrap ((shrI .i64 (IntKind.i64.wrap (sumB l)) 16))), (IntKind.u8.wrap ((shrI .i64 (IntKind.i64.wrap (sumB l)) 8))), (IntKind.u8.wrap ((IntKind.i64.wrap (sumB l))))] = [237, 132] ++ beB 4 (sumB l) := by
  have r := sumB_range l
  have w : IntKind.i64.wrap (sumB l) = sumB l := wr (by omega)
  have s24 : ∀ x : Int, shrI .i64 x 24 = x / 16777216 := fun x => by
    show x.fdiv 16777216 = _
    exact Int.fdiv_eq_ediv_of_nonneg _ (by omega)
  have s16 : ∀ x : Int, shrI .i64 x 16 = x / 65536 := fun x => by
    show x.fdiv 65536 = _
    exact Int.fdiv_eq_ediv_of_nonneg _ (by omega)
  have s8 : ∀ x : Int, shrI .i64 x 8 = x / 256 := fun x => by
    show x.fdiv 256 = _
    exact Int.fdiv_eq_ediv_of_nonneg _ (by omega)
  rw [w, s24, s16, s8, wrapU8, wrapU8, wrapU8, wrapU8]
  simp only [beB, List.nil_append, List.cons_append, List.cons.injEq, and_true, true_and]
  omega
theorem f61_4 (R : Type) : Ev fun k => ∀ (v : Int) (K : Int → List Int → Option R), 0 ≤ v → v < 4294967296 → f61 k v 4 K = K 0 (beB 4 v) := by
  refine (f91_v R (n := 4) (by omega)).imp fun k hk v K h0 h1 => ?_
  have sh : decide (shrI .i64 v (IntKind.i64.wrap (8 * 4)) > 0) = false := by
    show decide (v.fdiv 4294967296 > 0) = false
    rw [Int.fdiv_eq_ediv_of_nonneg _ (by omega), Int.ediv_eq_zero_of_lt h0 h1]; rfl
  have s0 : decide (IntKind.i64.wrap (8 * 4) < 0) = false := by decide
  have h4 : ∀ (w : Int) (K : List Int → Option R), f91 k w 4 K = K (beB 4 w) := hk
  simp (disch := omega) only [f61, deF, deT, cond_false, cond_true, sh, s0, wrU, h4]
theorem f110_v (R : Type) : Ev fun k => ∀ (K : Int → List Int → Option R), f110 k 1 K = K 0 [255] := .plus 10 (.all fun k K => by kernel_rfl)
theorem f52_s (R : Type) (c : Nat) : Ev fun k => ∀ (K : Int → List Int → Option R), ∃ e, f52 k (c : Int) 0 K = K e (vintS c) := by
  refine (f52_all R (c : Int)).imp fun k hk K => ?_
  rw [hk]; unfold vintS
  split
  · exact ⟨1, rfl⟩
  · exact ⟨0, rfl⟩
theorem f54_s (R : Type) (c : Nat) : Ev fun k => ∀ (K : Int → List Int → Option R), ∃ e, f54 k (c : Int) 0 K = K e (vintS c) := by
  refine (f54_all R (c : Int)).imp fun k hk K => ?_
  rw [hk]; unfold vintS
  split
  · exact ⟨1, rfl⟩
  · exact ⟨0, rfl⟩
theorem f27_s2 (R : Type) (i : Int) : Ev fun k => ∀ (K : Int → List Int → Option R), ∃ e, f27 k i K = K e (idS i) := by
  refine (f27_v R i).imp fun k hk K => ?_
  rw [hk]; unfold idS
  split
  · exact ⟨40, rfl⟩
  · exact ⟨0, rfl⟩
theorem f28_s2 (R : Type) (i : Int) : Ev fun k => ∀ (K : Int → List Int → Option R), ∃ e, f28 k i K = K e (idS i) := by
  refine (f28_v R i).imp fun k hk K => ?_
  rw [hk]; unfold idS
  split
  · exact ⟨40, rfl⟩
  · exact ⟨0, rfl⟩
theorem f53_3 (R : Type) (a b c : List Int) (h : a.length + b.length + c.length ≤ 140737488355328) : Ev fun k => ∀ (K : List Int → Option R), f53 k [a, b, c] K = K (a ++ (b ++ c)) :=
  (f53_v [a, b, c] (by simp) (by simp [sumL]; omega)).imp fun k hk K => by rw [hk R K]; simp
/-- The last part of a node. -/
theorem node_end (R : Type) (op : Bool) (i : Int) (c : List Int) (hc : c.length ≤ 1000000000000) : Ev fun k => ∀ (K : List Int → Option R), ∃ e : Int,
    f52 k (c.length : Int) 0 (fun _v8 v9 => f25 k i (fun _v10 _v11 _v12 _v13 v14 _v15 => bif v14 then bif op then f110 k 1 (fun _v16 v17 => f53 k ([idS i, v17, c]) K) else f53 k ([idS i, v9, c]) K else f53 k ([idS i, v9, c]) K)) = K (idS i ++ (szS op i c.length ++ c)) := by
  have h1 := idS_len i
  have h2 := vintS_len (c.length : Int)
  refine (((f52_s R c.length).and (f25_v i R)).and (f110_v R)).imp3 (f53_3 R (idS i) (vintS c.length) c (by omega)) (f53_3 R (idS i) [255] c (by simp only [List.length_cons, List.length_nil]; omega)) fun k h hv hu K => ?_
  obtain ⟨⟨h52, h25⟩, h110⟩ := h
  refine ⟨0, ?_⟩
  obtain ⟨e, h52⟩ := h52 (fun _v8 v9 => f25 k i (fun _v10 _v11 _v12 _v13 v14 _v15 => bif v14 then bif op then f110 k 1 (fun _v16 v17 => f53 k ([idS i, v17, c]) K) else f53 k ([idS i, v9, c]) K else f53 k ([idS i, v9, c]) K))
  rw [h52, h25]
  unfold szS
  cases (rowOf i).2.2.2.2 with
  | false => simp only [cond_false, Bool.and_false, hv]; rfl
  | true =>
    cases op with
    | false => simp only [cond_false, cond_true, Bool.false_and, hv]; rfl
    | true => simp only [cond_true, Bool.and_self, h110, hu]; rfl
theorem f106_v (R : Type) (s o : Bool) (n : D2) (hw : wtN n ≤ 10000000000) (h : Ev fun k => ∀ (K : List Int → Option R), f97 k s o n.c2 K = K (wrL s o n.c2)) :
    Ev fun k => ∀ (K : List Int → Option R), f106_2 k s o n.c0 n.c1 n.c2 n.c3 K = K (wrN s o n) := by
  have hl := wrL_len s o n.c2
  have hn := wtN_eta n
  cases hg : n.c3 with
  | false =>
    refine .suc ((f27_s2 R n.c0).imp2 (node_end R o n.c0 n.c1 (by omega)) fun k h27 he K => ?_)
    rw [f106_2_step, f106_2_s]
    obtain ⟨e, h27⟩ := h27 (fun _v1 v2 => bif false then f97 k s o n.c2 (fun v3 => bif s then f108 k v3 (fun v4 => f61 k (IntKind.i64.wrap (v4)) 4 (fun _v5 v6 => f53 k ([[237, 132], v6, v3]) (fun v7 => f52 k (v7.length : Int) 0 (fun _v8 v9 => f25 k n.c0 (fun _v10 _v11 _v12 _v13 v14 _v15 => bif v14 then bif o then f110 k 1 (fun _v16 v17 => f53 k ([v2, v17, v7]) K) else f53 k ([v2, v9, v7]) K else f53 k ([v2, v9, v7]) K))))) else f52 k (v3.length : Int) 0 (fun _v21 v22 => f25 k n.c0 (fun _v23 _v24 _v25 _v26 v27 _v28 => bif v27 then bif o then f110 k 1 (fun _v29 v30 => f53 k ([v2, v30, v3]) K) else f53 k ([v2, v22, v3]) K else f53 k ([v2, v22, v3]) K))) else f52 k (n.c1.length : Int) 0 (fun _v34 v35 => f25 k n.c0 (fun _v36 _v37 _v38 _v39 v40 _v41 => bif v40 then bif o then f110 k 1 (fun _v42 v43 => f53 k ([v2, v43, n.c1]) K) else f53 k ([v2, v35, n.c1]) K else f53 k ([v2, v35, n.c1]) K)))
    refine h27.trans ?_
    obtain ⟨_, he⟩ := he K
    rw [wrN_eta]
    unfold contN
    rw [hg]
    exact he
  | true =>
    cases s with
    | false =>
      refine .suc ((f27_s2 R n.c0).imp3 h (node_end R o n.c0 (wrL false o n.c2) (by omega)) fun k h27 h97 he K => ?_)
      rw [f106_2_step, f106_2_s]
      obtain ⟨e, h27⟩ := h27 (fun _v1 v2 => bif true then f97 k false o n.c2 (fun v3 => bif false then f108 k v3 (fun v4 => f61 k (IntKind.i64.wrap (v4)) 4 (fun _v5 v6 => f53 k ([[237, 132], v6, v3]) (fun v7 => f52 k (v7.length : Int) 0 (fun _v8 v9 => f25 k n.c0 (fun _v10 _v11 _v12 _v13 v14 _v15 => bif v14 then bif o then f110 k 1 (fun _v16 v17 => f53 k ([v2, v17, v7]) K) else f53 k ([v2, v9, v7]) K else f53 k ([v2, v9, v7]) K))))) else f52 k (v3.length : Int) 0 (fun _v21 v22 => f25 k n.c0 (fun _v23 _v24 _v25 _v26 v27 _v28 => bif v27 then bif o then f110 k 1 (fun _v29 v30 => f53 k ([v2, v30, v3]) K) else f53 k ([v2, v22, v3]) K else f53 k ([v2, v22, v3]) K))) else f52 k (n.c1.length : Int) 0 (fun _v34 v35 => f25 k n.c0 (fun _v36 _v37 _v38 _v39 v40 _v41 => bif v40 then bif o then f110 k 1 (fun _v42 v43 => f53 k ([v2, v43, n.c1]) K) else f53 k ([v2, v35, n.c1]) K else f53 k ([v2, v35, n.c1]) K)))
      refine h27.trans ?_
      obtain ⟨_, he⟩ := he K
      rw [wrN_eta]
      unfold contN
      rw [hg]
      simp only [cond_true, h97, cond_false]
      exact he
    | true =>
      have hl := wrL_len true o n.c2
      have hs := sumS_len true (wrL true o n.c2)
      have sr := sumB_range (wrL true o n.c2)
      refine .suc (((f27_s2 R n.c0).and h).imp3 ((f108_v (wrL true o n.c2) (by rw [reachV]; omega) R).and ((f61_4 R).and (f53_3 R [237, 132] (beB 4 (sumB (wrL true o n.c2))) (wrL true o n.c2) (by rw [beB_len]; simp only [List.length_cons, List.length_nil]; omega)))) (node_end R o n.c0 (sumS true (wrL true o n.c2)) (by omega)) fun k ha hb he K => ?_)
      obtain ⟨h27, h97⟩ := ha
      obtain ⟨h108, h61, h53⟩ := hb
      rw [f106_2_step, f106_2_s]
      obtain ⟨e, h27⟩ := h27 (fun _v1 v2 => bif true then f97 k true o n.c2 (fun v3 => bif true then f108 k v3 (fun v4 => f61 k (IntKind.i64.wrap (v4)) 4 (fun _v5 v6 => f53 k ([[237, 132], v6, v3]) (fun v7 => f52 k (v7.length : Int) 0 (fun _v8 v9 => f25 k n.c0 (fun _v10 _v11 _v12 _v13 v14 _v15 => bif v14 then bif o then f110 k 1 (fun _v16 v17 => f53 k ([v2, v17, v7]) K) else f53 k ([v2, v9, v7]) K else f53 k ([v2, v9, v7]) K))))) else f52 k (v3.length : Int) 0 (fun _v21 v22 => f25 k n.c0 (fun _v23 _v24 _v25 _v26 v27 _v28 => bif v27 then bif o then f110 k 1 (fun _v29 v30 => f53 k ([v2, v30, v3]) K) else f53 k ([v2, v22, v3]) K else f53 k ([v2, v22, v3]) K))) else f52 k (n.c1.length : Int) 0 (fun _v34 v35 => f25 k n.c0 (fun _v36 _v37 _v38 _v39 v40 _v41 => bif v40 then bif o then f110 k 1 (fun _v42 v43 => f53 k ([v2, v43, n.c1]) K) else f53 k ([v2, v35, n.c1]) K else f53 k ([v2, v35, n.c1]) K)))
      refine h27.trans ?_
      obtain ⟨_, he⟩ := he K
      rw [wrN_eta]
      unfold contN
      rw [hg]
      have w : IntKind.i64.wrap (sumB (wrL true o n.c2)) = sumB (wrL true o n.c2) := wr (by omega)
      simp only [cond_true, h97, h108, w]
      rw [h61 _ _ sr.1 sr.2, h53]
      exact he
theorem wt_drop (l : List D2) (i : Nat) (hi : i < l.length) : wtL (l.drop i) = wtN l[i] + wtL (l.drop (i + 1)) := by
  rw [List.drop_eq_getElem_cons hi, wtL]
theorem wt_drop_le : ∀ (l : List D2) (i : Nat), wtL (l.drop i) ≤ wtL l
  | _, 0 => by simp
  | [], i + 1 => by simp
  | x :: l, i + 1 => by rw [List.drop_succ_cons, wtL]; have := wt_drop_le l i; omega
theorem f97_list (R : Type) (s o : Bool) (l : List D2) (hb : l.length * 64 ≤ reachBytes) (h : ∀ x ∈ l, OkN x → wtL x.c2 ≤ 10000000000 → Ev fun k => ∀ (K : List Int → Option R), f97 k s o x.c2 K = K (wrL s o x.c2)) (ho : ∀ x ∈ l, OkN x) (hw : wtL l ≤ 10000000000) :
    Ev fun k => ∀ (K : List Int → Option R), f97 k s o l K = K (wrL s o l) := by
  rw [reachV] at hb
  have lp : ∀ i, i ≤ l.length → EvB fun q j => ∀ (acc : List Int) (X0 : List Int → Option R), acc.length + 20 * wtL (l.drop i) ≤ 200000000000 → f97_l3 (fun _ => f106_2 q) j l (l.length : Int) (i : Int) s o acc X0 = X0 (acc ++ wrL s o (l.drop i)) := by
    refine EvB.down l.length ?_ ?_
    · refine EvB.suc (.all fun q j acc X0 _ => ?_)
      rw [f97_l3, ifF (by omega), List.drop_length, wrL, List.append_nil]
    · intro i hi ih
      have m1 := wt_drop l i hi
      have m2 := wt_drop_le l i
      have m3 := wtN_eta l[i]
      have m4 := wrN_len s o l[i]
      refine EvB.suc ((ih.and (.left (f106_v R s o l[i] (by omega) (h _ (List.getElem_mem hi) (ho _ (List.getElem_mem hi)) (by omega))))).imp fun q j hk acc X0 ha => ?_)
      rw [f97_l3, lt_nat, inb_nat, wrapSuc (by omega)]
      simp only [hi, decide_true, cond_true, Int.toNat_natCast, getD_get hi, hk.2]
      rw [roT (by omega), cond_true, hk.1 _ _ (by rw [List.length_append]; omega), List.drop_eq_getElem_cons hi, wrL, List.append_assoc]
  refine .suc ((lp 0 (by omega)).diag.imp fun k hk K => ?_)
  rw [f97_step, f97_s]
  have := hk [] K (by simp; omega)
  rw [Int.natCast_zero, List.drop_zero] at this
  rw [this, List.nil_append]
theorem f97_v (R : Type) (s o : Bool) {l : List D2} (hl : OkL l) (hw : wtL l ≤ 10000000000) : Ev fun k => ∀ (K : List Int → Option R), f97 k s o l K = K (wrL s o l) := by
  have key : ∀ n : D2, OkN n → wtL n.c2 ≤ 10000000000 → Ev fun k => ∀ (K : List Int → Option R), f97 k s o n.c2 K = K (wrL s o n.c2) := by
    intro n
    refine D2.ind (P := fun n => OkN n → wtL n.c2 ≤ 10000000000 → Ev fun k => ∀ (K : List Int → Option R), f97 k s o n.c2 K = K (wrL s o n.c2)) (fun i d ks g ih ho hw => ?_) n
    exact f97_list R s o ks ho.kids.1 ih ho.kids.2 hw
  exact f97_list R s o l hl.1 (fun x _ => key x) hl.2 hw
theorem f72_list (R : Type) (s o : Bool) (l : List D2) (hb : l.length * 64 ≤ reachBytes) (h : ∀ x ∈ l, OkN x → wtL x.c2 ≤ 10000000000 → Ev fun k => ∀ (K : List Int → Option R), f72 k x.c2 s o K = K (wrL s o x.c2)) (ho : ∀ x ∈ l, OkN x) (hw : wtL l ≤ 10000000000) :
    Ev fun k => ∀ (K : List Int → Option R), f72 k l s o K = K (wrL s o l) := by
  rw [reachV] at hb
  have lp : ∀ i, i ≤ l.length → EvB fun q j => ∀ (acc : List Int) (X0 : List Int → Option R), acc.length + 20 * wtL (l.drop i) ≤ 200000000000 → f72_l3 (fun _ => f72 q) j l s o (i : Int) acc X0 = X0 (acc ++ wrL s o (l.drop i)) := by
    refine EvB.down l.length ?_ ?_
    · refine EvB.suc (.all fun q j acc X0 _ => ?_)
      rw [f72_l3, ifF (by omega), List.drop_length, wrL, List.append_nil]
    · intro i hi ih
      have m1 := wt_drop l i hi
      have m2 := wt_drop_le l i
      have m3 := wtN_eta l[i]
      have m4 := wrN_len s o l[i]
      have m5 := wrL_len s o l[i].c2
      have m6 := sumS_len s (wrL s o l[i].c2)
      have m7 := idS_len l[i].c0
      have m8 := vintS_len ((contN s o l[i]).length : Int)
      rw [wrN_eta] at m4
      simp only [List.length_append] at m4
      refine EvB.suc ((ih.and ((EvB.left (h _ (List.getElem_mem hi) (ho _ (List.getElem_mem hi)) (by omega))).and ((EvB.right (f28_s2 R l[i].c0)).and ((EvB.right (f94_v (wrL s o l[i].c2) (by rw [reachV]; omega) R)).and ((EvB.right (f26_v l[i].c0 R)).and (.right (f54_s R (contN s o l[i]).length))))))).imp fun q j hk acc X0 ha => ?_)
      obtain ⟨hk, h72, h28, h94, h26, h54⟩ := hk
      rw [f72_l3, lt_nat, inb_nat, wrapSuc (by omega)]
      simp only [hi, decide_true, cond_true, Int.toNat_natCast, getD_get hi]
      have fin : ∀ c : List Int, c = contN s o l[i] → f72_l3 (fun _ => f72 q) j l s o ((i + 1 : Nat) : Int) (((acc ++ idS l[i].c0) ++ szS o l[i].c0 c.length) ++ c) X0 = X0 (acc ++ wrL s o (l.drop i)) := by
        intro c hc
        subst hc
        rw [hk _ _ (by simp only [List.length_append]; omega), List.drop_eq_getElem_cons hi, wrL, wrN_eta]
        simp only [List.append_assoc]
      generalize hK : (X0 (acc ++ wrL s o (l.drop i))) = ans at *
      have step : ∀ (K : Int → List Int → Option R), K 0 (idS l[i].c0) = ans → (∀ e e' x, K e x = K e' x) → f28 j l[i].c0 K = ans := by
        intro K h1 h2
        obtain ⟨e, h28⟩ := h28 K
        rw [h28, h2 e 0, h1]
      have step54 : ∀ (c : List Int), c = contN s o l[i] → ∀ (K : Int → List Int → Option R), K 0 (vintS c.length) = ans → (∀ e e' x, K e x = K e' x) → f54 j (c.length : Int) 0 K = ans := by
        intro c hc K h1 h2
        subst hc
        obtain ⟨e, h54⟩ := h54 K
        rw [h54, h2 e 0, h1]
      refine step _ ?_ (fun _ _ _ => rfl)
      rw [roT (by omega), cond_true]
      have szo : ∀ n, o = true → (rowOf l[i].c0).2.2.2.2 = true → szS o l[i].c0 n = [255] := by
        intro n h1 h2; unfold szS; rw [h1, h2]; rfl
      have szn : ∀ n, (o && (rowOf l[i].c0).2.2.2.2) = false → szS o l[i].c0 n = vintS n := by
        intro n h1; unfold szS; rw [h1]; rfl
      have last : ∀ c : List Int, c = contN s o l[i] → f26 j l[i].c0 (fun _v20 _v21 _v22 _v23 v24 _v25 => bif o then bif v24 then bif room 1 ((acc ++ idS l[i].c0).length + ([255] : List Int).length) then bif room 1 (((acc ++ idS l[i].c0) ++ ([255] : List Int)).length + c.length) then f72_l3 (fun _ => f72 q) j l s o ((i + 1 : Nat) : Int) (((acc ++ idS l[i].c0) ++ ([255] : List Int)) ++ c) X0 else none else none else f54 j (c.length : Int) 0 (fun _v26 v27 => bif room 1 ((acc ++ idS l[i].c0).length + v27.length) then bif room 1 (((acc ++ idS l[i].c0) ++ v27).length + c.length) then f72_l3 (fun _ => f72 q) j l s o ((i + 1 : Nat) : Int) (((acc ++ idS l[i].c0) ++ v27) ++ c) X0 else none else none) else f54 j (c.length : Int) 0 (fun _v28 v29 => bif room 1 ((acc ++ idS l[i].c0).length + v29.length) then bif room 1 (((acc ++ idS l[i].c0) ++ v29).length + c.length) then f72_l3 (fun _ => f72 q) j l s o ((i + 1 : Nat) : Int) (((acc ++ idS l[i].c0) ++ v29) ++ c) X0 else none else none)) = ans := by
        intro c hc
        have hf := fin c hc
        have hcl : c.length = (contN s o l[i]).length := by rw [hc]
        have vl8 := vintS_len (c.length : Int)
        rw [h26]
        have small : ∀ v : List Int, v = vintS c.length → (o && (rowOf l[i].c0).2.2.2.2) = false → (bif room 1 ((acc ++ idS l[i].c0).length + v.length) then bif room 1 (((acc ++ idS l[i].c0) ++ v).length + c.length) then f72_l3 (fun _ => f72 q) j l s o ((i + 1 : Nat) : Int) (((acc ++ idS l[i].c0) ++ v) ++ c) X0 else none else none) = ans := by
          intro v hv h0
          rw [szn _ h0, ← hv] at hf
          rw [← hv] at vl8
          rw [roT (by simp only [List.length_append]; omega), roT (by simp only [List.length_append]; omega)]
          exact hf
        cases ho2 : o with
        | false =>
          simp only [cond_false]
          subst ho2
          exact step54 c hc _ (small _ rfl rfl) (fun _ _ _ => rfl)
        | true =>
          subst ho2
          cases hr : (rowOf l[i].c0).2.2.2.2 with
          | false =>
            simp only [cond_true, cond_false]
            exact step54 c hc _ (small _ rfl (by rw [hr]; rfl)) (fun _ _ _ => rfl)
          | true =>
            simp only [cond_true]
            rw [szo _ rfl hr] at hf
            rw [roT (by simp only [List.length_append, List.length_cons, List.length_nil]; omega), roT (by simp only [List.length_append, List.length_cons, List.length_nil]; omega)]
            exact hf
      cases hg : l[i].c3 with
      | false =>
        simp only [cond_false]
        exact last l[i].c1 (by unfold contN; rw [hg]; rfl)
      | true =>
        simp only [cond_true, h72]
        cases hs : s with
        | false =>
          subst hs
          simp only [cond_false]
          exact last _ (by unfold contN; rw [hg]; rfl)
        | true =>
          subst hs
          simp only [cond_true, h94, sum_bytes]
          rw [roT (by simp only [List.length_append, List.length_cons, List.length_nil, beB_len]; omega), cond_true]
          exact last _ (by unfold contN sumS; rw [hg]; simp)
  refine .suc ((lp 0 (by omega)).diag.imp fun k hk K => ?_)
  rw [f72_step, f72_s]
  have := hk [] K (by simp; omega)
  rw [Int.natCast_zero, List.drop_zero] at this
  rw [this, List.nil_append]
theorem f72_v (R : Type) (s o : Bool) {l : List D2} (hl : OkL l) (hw : wtL l ≤ 10000000000) : Ev fun k => ∀ (K : List Int → Option R), f72 k l s o K = K (wrL s o l) := by
  have key : ∀ n : D2, OkN n → wtL n.c2 ≤ 10000000000 → Ev fun k => ∀ (K : List Int → Option R), f72 k n.c2 s o K = K (wrL s o n.c2) := by
    intro n
    refine D2.ind (P := fun n => OkN n → wtL n.c2 ≤ 10000000000 → Ev fun k => ∀ (K : List Int → Option R), f72 k n.c2 s o K = K (wrL s o n.c2)) (fun i d ks g ih ho hw => ?_) n
    exact f72_list R s o ks ho.kids.1 ih ho.kids.2 hw
  exact f72_list R s o l hl.1 (fun x _ => key x) hl.2 hw
noncomputable def writeR (s o : Bool) (l : List D2) : Int × List Int := if checkR l ≠ 0 then (checkR l, []) else if 1048576 < (wrL s o l).length then (2, []) else (0, wrL s o l)
theorem nodes_wt (n : D2) : nodesN n ≤ wtN n := by
  refine D2.ind (P := fun n => nodesN n ≤ wtN n) (fun i d ks g ih => ?_) n
  rw [nodesN, wtN]
  have : ∀ l : List D2, (∀ x ∈ l, nodesN x ≤ wtN x) → nodesL l ≤ wtL l := by
    intro l
    induction l with
    | nil => intro _; rw [nodesL]; omega
    | cons x l ih =>
      intro h
      have h1 := h x (by simp)
      have h2 := ih fun y hy => h y (by simp [hy])
      rw [nodesL, wtL]; omega
  have := this ks ih
  omega
theorem nodesL_wt : ∀ l : List D2, nodesL l ≤ wtL l
  | [] => by rw [nodesL]; omega
  | x :: l => by
    have h1 := nodes_wt x
    have h2 := nodesL_wt l
    rw [nodesL, wtL]; omega
theorem f79_v (R : Type) (s o : Bool) {l : List D2} (hl : OkL l) (hw : wtL l ≤ 10000000000) : Ev fun k => ∀ (K : Int → List Int → Option R), f79 k s o l K = K (writeR s o l).1 (writeR s o l).2 := by
  refine (f37_v R hl).imp2 (f97_v R s o hl hw) fun k h37 h97 K => ?_
  simp only [f79, h37]
  unfold writeR
  by_cases c : checkR l ≠ 0
  · rw [if_pos c, bnT c]; rfl
  · rw [if_neg c, bnF (by simpa using c)]
    simp only [cond_false, h97]
    by_cases d : 1048576 < (wrL s o l).length
    · rw [if_pos d, ifT (by omega)]
    · rw [if_neg d, ifF (by omega)]
theorem f80_v (R : Type) (s o : Bool) {l : List D2} (hl : OkL l) (hw : wtL l ≤ 10000000000) : Ev fun k => ∀ (K : Int → List Int → Option R), f80 k l s o K = K (writeR s o l).1 (writeR s o l).2 := by
  have := nodesL_wt l
  refine (f51_v R hl (by omega)).imp2 (f72_v R s o hl hw) fun k h37 h97 K => ?_
  simp only [f80, h37]
  unfold writeR
  by_cases c : checkR l ≠ 0
  · rw [if_pos c, bnT c]; rfl
  · rw [if_neg c, bnF (by simpa using c)]
    simp only [cond_false, h97]
    by_cases d : 1048576 < (wrL s o l).length
    · rw [if_pos d, ifT (by omega)]
    · rw [if_neg d, ifF (by omega)]
theorem elementWrites_plain (l : List D2) (s : Bool) (hl : OkL l) (hw : wtL l ≤ 10000000000) : ∃ k, f13 (R := Bool) k l s some = some true := by
  refine Ev.some ?_
  have := nodesL_wt l
  refine ((f79_v Bool s false hl hw).and (f80_v Bool s false hl hw)).imp4 ((f79_v Bool false true hl hw).and (f80_v Bool false true hl hw)) ((f37_v Bool hl).and (f51_v Bool hl (by omega))) awake_v fun k h1 h2 h3 h4 => ?_
  simp only [f13, f47, f48, f49, f50, h1.1, h1.2, h2.1, h2.2, h3.1, h3.2, f17_same, beq_self_eq_true, cond_true, h4]
mutual
theorem bulkD_eq {H : Type} : ∀ d : DataW H, bulkD d = Rows.uptoBulk d
  | .lit (.string _) => by rw [bulkD, Rows.uptoBulk]
  | .lit (.bool _) => by rw [bulkD, Rows.uptoBulk] <;> simp
  | .lit (.int _ _) => by rw [bulkD, Rows.uptoBulk] <;> simp
  | .lit (.float _ _) => by rw [bulkD, Rows.uptoBulk] <;> simp
  | .lit .nil => by rw [bulkD, Rows.uptoBulk] <;> simp
  | .nil => by rw [bulkD, Rows.uptoBulk]
  | .ptr d => by rw [bulkD, Rows.uptoBulk, bulkD_eq d]
  | .slice e s => by rw [bulkD, Rows.uptoBulk, bulkA_eq e, bulkA_eq s]
  | .agg p => by rw [bulkD, Rows.uptoBulk, bulkA_eq p]
  | .iface _ d => by rw [bulkD, Rows.uptoBulk, bulkD_eq d]
  | .map e => by rw [bulkD, Rows.uptoBulk, bulkEs_eq e]
  | .held _ => by rw [bulkD, Rows.uptoBulk]
theorem bulkA_eq {H : Type} : ∀ l : List (DataW H), bulkA l = Rows.uptoBulkAll l
  | [] => by rw [bulkA, Rows.uptoBulkAll]
  | d :: r => by rw [bulkA, Rows.uptoBulkAll, bulkD_eq d, bulkA_eq r]
theorem bulkEs_eq {H : Type} : ∀ l : List (Lit × DataW H), bulkEs l = Rows.uptoBulkEntries l
  | [] => by rw [bulkEs, Rows.uptoBulkEntries]
  | x :: r => by rw [bulkEs, Rows.uptoBulkEntries, bulkE_eq x, bulkEs_eq r]
theorem bulkE_eq {H : Type} : ∀ x : Lit × DataW H, bulkE x = Rows.uptoBulkEntry x
  | (.string _, d) => by rw [bulkE, Rows.uptoBulkEntry, bulkD_eq d]
  | (.bool _, d) => by rw [bulkE, Rows.uptoBulkEntry, bulkD_eq d] <;> simp
  | (.int _ _, d) => by rw [bulkE, Rows.uptoBulkEntry, bulkD_eq d] <;> simp
  | (.float _ _, d) => by rw [bulkE, Rows.uptoBulkEntry, bulkD_eq d] <;> simp
  | (.nil, d) => by rw [bulkE, Rows.uptoBulkEntry, bulkD_eq d] <;> simp
end
theorem small_bulk (H : Type) (ds : List (DataW H)) (h : Rows.uptoSmall H ds = true) : bulkA ds ≤ 1048576 := by
  rw [bulkA_eq]; exact of_decide_eq_true h
theorem bulk_bytes : ∀ d : List Int, ivBB (d.map fun y => [IV.int .u8 y]) = d.length
  | [] => by rw [List.map_nil, ivBB]; rfl
  | x :: d => by rw [List.map_cons, ivBB, bulk_bytes d, ivBL, ivBL, ivB, List.length_cons]; omega
theorem wt_bulk (n : D2) : wtN n ≤ ivBL (deep2 n) := by
  refine D2.ind (P := fun n => wtN n ≤ ivBL (deep2 n)) (fun i d ks g ih => ?_) n
  have : ∀ l : List D2, (∀ x ∈ l, wtN x ≤ ivBL (deep2 x)) → wtL l ≤ ivBB (l.map deep2) := by
    intro l
    induction l with
    | nil => intro _; rw [wtL]; omega
    | cons x l ih =>
      intro h
      have h1 := h x (by simp)
      have h2 := ih fun y hy => h y (by simp [hy])
      rw [List.map_cons, ivBB, wtL]; omega
  have h := this ks ih
  rw [deep2_mk, wtN, deep2s_map]
  simp only [ivBL, ivB, bulk_bytes]
  omega
theorem wtL_bulk : ∀ l : List D2, wtL l ≤ ivBB (l.map deep2)
  | [] => by rw [wtL]; omega
  | x :: l => by
    have h1 := wt_bulk x
    have h2 := wtL_bulk l
    rw [List.map_cons, ivBB, wtL]; omega
theorem wtL_arg (l : List D2) : wtL l ≤ ivBL (deep cx (.slice (.named 2)) l) := by
  have h := wtL_bulk l
  have e : ivBL (deep cx (.slice (.named 2)) l) = ivBB (l.map deep2) + 1 := by
    show ivBL [.list _ (l.map fun x => deep2 x)] = _
    rw [ivBL, ivBL, ivB]
  omega
end Go.Proofs.Ytklhjegfkpmdoaa
