/- Proved: what the row of the schema of any id and its bytes are. Conditions: none. -/
import Derived.Test.YtklhjegfkpmdoaaElWalk3
import Derived.Test.YtklhjegfkpmdoaaRows
import Derived.JoinedOf

/-! The chapter's examples hold. -/
namespace Go.Proofs.Ytklhjegfkpmdoaa
open Go Go.Am

theorem awake_v : Ev fun k => ∀ (R : Type) (K : Bool → Option R), f18 k K = K true := by
  refine .plus 100 (.all fun k R K => ?_)
  kernel_rfl
end Go.Proofs.Ytklhjegfkpmdoaa

/-! Numbers of variable length, as far as blocks need them. -/
namespace Go.Proofs.Ytklhjegfkpmdoaa
open Go Go.Am

theorem wrapU8 (x : Int) : IntKind.u8.wrap x = x % 256 := by
  simp [IntKind.wrap, IntKind.signed, IntKind.bits]
theorem wrapU64 {x : Int} (h : 0 ≤ x) (h' : x < 18446744073709551616) : IntKind.u64.wrap x = x := by
  simp [IntKind.wrap, IntKind.signed, IntKind.bits]; omega
theorem shr8 (w : Int) : shrI .u64 w 8 = w / 256 := by
  have : (min (8 : Int).toNat IntKind.u64.bits) = 8 := rfl
  unfold shrI
  rw [this, Int.fdiv_eq_ediv_of_nonneg _ (by decide)]
  rfl
theorem or_add {a : Int} {m : Nat} (h : 0 ≤ a) (h' : a < 2 ^ m) (hm : m < 60) : orI .u64 a (2 ^ m) = a + 2 ^ m := by
  obtain ⟨n, rfl⟩ : ∃ n : Nat, a = n := ⟨a.toNat, by omega⟩
  have h2 : n < 2 ^ m := by exact_mod_cast h'
  have h3 : 2 ^ m < 2 ^ 60 := Nat.pow_lt_pow_right (by decide) hm
  have e1 : (BitVec.ofInt IntKind.u64.bits (n : Int)).toNat = n := by
    show (BitVec.ofInt 64 (n : Int)).toNat = n
    rw [BitVec.toNat_ofInt]
    have : ((n : Int) % ((2 ^ 64 : Nat) : Int)) = n := by
      rw [Int.emod_eq_of_lt (by omega)]
      have : 2 ^ 60 < 2 ^ 64 := by decide
      omega
    rw [this]; rfl
  have e2 : (BitVec.ofInt IntKind.u64.bits ((2 : Int) ^ m)).toNat = 2 ^ m := by
    show (BitVec.ofInt 64 ((2 : Int) ^ m)).toNat = 2 ^ m
    have e : ((2 : Int) ^ m) = ((2 ^ m : Nat) : Int) := by simp
    rw [e, BitVec.toNat_ofInt]
    have : (((2 ^ m : Nat) : Int) % ((2 ^ 64 : Nat) : Int)) = ((2 ^ m : Nat) : Int) := by
      rw [Int.emod_eq_of_lt (by omega)]
      have : 2 ^ 60 < 2 ^ 64 := by decide
      omega
    rw [this]; rfl
  unfold orI
  rw [BitVec.toNat_or, e1, e2, Nat.or_comm]
  have := Nat.two_pow_add_eq_or_of_lt h2 1
  rw [Nat.mul_one] at this
  rw [← this, wrapU64 (by omega) (by omega)]
  simp; omega

def c1 (w : Int) : List Int := [w % 256]
def c2 (w : Int) : List Int := [w / 256 % 256, w % 256]
def c3 (w : Int) : List Int := [w / 256 / 256 % 256, w / 256 % 256, w % 256]

theorem big1 (w : Int) : Ev fun k => ∀ (R : Type) (K : List Int → Option R), f91 k w 1 K = K (c1 w) :=
  .suc (.suc (.all fun k R K => by
    simp [f91, f91_l3, wrapU8, shr8, c1, inb, wrap64]))
theorem big2 (w : Int) : Ev fun k => ∀ (R : Type) (K : List Int → Option R), f91 k w 2 K = K (c2 w) :=
  .suc (.suc (.suc (.all fun k R K => by
    simp [f91, f91_l3, wrapU8, shr8, c2, inb, wrap64, List.replicate])))
theorem big3 (w : Int) : Ev fun k => ∀ (R : Type) (K : List Int → Option R), f91 k w 3 K = K (c3 w) :=
  .suc (.suc (.suc (.suc (.all fun k R K => by
    simp [f91, f91_l3, wrapU8, shr8, c3, inb, wrap64, List.replicate]))))

theorem bytes1 {w : Int} (h : 0 ≤ w) (_h' : w < 4611686018427387904) : Ev fun k => ∀ (R : Type) (K : List Int → Option R), f86 k w 1 K = K (c1 w) :=
  .suc (.suc (.all fun k R K => by
    simp [f86, f86_l3, wrapU8, c1, inb, wrap64, Int.tmod_eq_emod_of_nonneg h]))
theorem bytes2 {w : Int} (h : 0 ≤ w) (h' : w < 4611686018427387904) : Ev fun k => ∀ (R : Type) (K : List Int → Option R), f86 k w 2 K = K (c2 w) :=
  .suc (.suc (.suc (.all fun k R K => by
    have h1 : 0 ≤ w / 256 := by omega
    have e1 : IntKind.i64.wrap (w / 256) = w / 256 := wrap64 (by omega) (by omega)
    simp [f86, f86_l3, wrapU8, c2, inb, wrap64, List.replicate, Int.tmod_eq_emod_of_nonneg h, Int.tdiv_eq_ediv_of_nonneg h, e1, Int.tmod_eq_emod_of_nonneg h1])))
theorem bytes3 {w : Int} (h : 0 ≤ w) (h' : w < 4611686018427387904) : Ev fun k => ∀ (R : Type) (K : List Int → Option R), f86 k w 3 K = K (c3 w) :=
  .suc (.suc (.suc (.suc (.all fun k R K => by
    have h1 : 0 ≤ w / 256 := by omega
    have e1 : IntKind.i64.wrap (w / 256) = w / 256 := wrap64 (by omega) (by omega)
    have h2 : 0 ≤ w / 256 / 256 := by omega
    have e2 : IntKind.i64.wrap (w / 256 / 256) = w / 256 / 256 := wrap64 (by omega) (by omega)
    simp [f86, f86_l3, wrapU8, c3, inb, wrap64, List.replicate, Int.tmod_eq_emod_of_nonneg h, Int.tdiv_eq_ediv_of_nonneg h, e1, Int.tmod_eq_emod_of_nonneg h1, Int.tdiv_eq_ediv_of_nonneg h1, e2, Int.tmod_eq_emod_of_nonneg h2]))))

theorem all1 (k : Nat) (R : Type) (K : Int → Option R) : f82 k 1 K = K 127 := by kernel_rfl
theorem all2 (k : Nat) (R : Type) (K : Int → Option R) : f82 k 2 K = K 16383 := by kernel_rfl
theorem all3 (k : Nat) (R : Type) (K : Int → Option R) : f82 k 3 K = K 2097151 := by kernel_rfl
theorem most1 (k : Nat) (R : Type) (K : Int → Option R) : f85 k 1 K = K 127 := by kernel_rfl
theorem most2 (k : Nat) (R : Type) (K : Int → Option R) : f85 k 2 K = K 16383 := by kernel_rfl
theorem most3 (k : Nat) (R : Type) (K : Int → Option R) : f85 k 3 K = K 2097151 := by kernel_rfl
theorem mark1 {v : Int} (h : 0 ≤ v) (h' : v < 128) : Ev fun k => ∀ (R : Type) (K : List Int → Option R), f83 k v 1 K = K (c1 (v + 128)) :=
  (big1 (v + 128)).imp fun k hb R K => by
    have e : orI .u64 v (shlI .u64 1 (IntKind.i64.wrap (7 * 1))) = v + 128 := or_add (m := 7) h (by simpa using h') (by decide)
    have e0 : decide (IntKind.i64.wrap (7 * 1) < 0) = false := by decide
    simp only [f83]
    rw [e0, e]; exact hb R K
theorem mark2 {v : Int} (h : 0 ≤ v) (h' : v < 16384) : Ev fun k => ∀ (R : Type) (K : List Int → Option R), f83 k v 2 K = K (c2 (v + 16384)) :=
  (big2 (v + 16384)).imp fun k hb R K => by
    have e : orI .u64 v (shlI .u64 1 (IntKind.i64.wrap (7 * 2))) = v + 16384 := or_add (m := 14) h (by simpa using h') (by decide)
    have e0 : decide (IntKind.i64.wrap (7 * 2) < 0) = false := by decide
    simp only [f83]
    rw [e0, e]; exact hb R K
theorem mark3 {v : Int} (h : 0 ≤ v) (h' : v < 2097152) : Ev fun k => ∀ (R : Type) (K : List Int → Option R), f83 k v 3 K = K (c3 (v + 2097152)) :=
  (big3 (v + 2097152)).imp fun k hb R K => by
    have e : orI .u64 v (shlI .u64 1 (IntKind.i64.wrap (7 * 3))) = v + 2097152 := or_add (m := 21) h (by simpa using h') (by decide)
    have e0 : decide (IntKind.i64.wrap (7 * 3) < 0) = false := by decide
    simp only [f83]
    rw [e0, e]; exact hb R K

/-- A number of variable length. -/
def vintB (v : Int) : List Int := if v < 127 then c1 (v + 128) else if v < 16383 then c2 (v + 16384) else c3 (v + 2097152)
/-- A signed one. -/
theorem f52_v {v : Int} (h : 0 ≤ v) (h' : v < 2097151) : Ev fun k => ∀ (R : Type) (K : Int → List Int → Option R), f52 k v 0 K = K 0 (vintB v) := by
  have w : IntKind.u64.wrap v = v := wrapU64 h (by omega)
  have w2 : IntKind.i64.wrap (1 + 1) = 2 := by decide
  have w3 : IntKind.i64.wrap (2 + 1) = 3 := by decide
  have nn : ¬ v < 0 := by omega
  by_cases h1 : v < 127
  · refine .suc ((mark1 h (by omega)).and ?_ |>.imp fun k (hm : _ ∧ ∀ (R : Type) (K : List Int → Option R), f83 (k + 1) v 1 K = K (c1 (v + 128))) R K => ?_)
    · obtain ⟨a, ha⟩ := mark1 (v := v) h (by omega)
      exact ⟨a, fun k hk => ha (k + 1) (by omega)⟩
    · have : decide (v ≥ 127) = false := by simp; omega
      simp [f52, f52_l5, all1, this, w, hm.2, vintB, h1, nn]
  · by_cases h2 : v < 16383
    · refine .suc (.suc ?_)
      obtain ⟨a, ha⟩ := mark2 (v := v) h (by omega)
      refine ⟨a, fun k hk R K => ?_⟩
      have t1 : decide (v ≥ 127) = true := by simp; omega
      have t2 : decide (v ≥ 16383) = false := by simp; omega
      simp [wrap64, f52, f52_l5, all1, all2, t1, t2, w, w2, ha (k + 1 + 1) (by omega), vintB, h1, h2, nn]
    · refine .suc (.suc (.suc ?_))
      obtain ⟨a, ha⟩ := mark3 (v := v) h (by omega)
      refine ⟨a, fun k hk R K => ?_⟩
      have t1 : decide (v ≥ 127) = true := by simp; omega
      have t2 : decide (v ≥ 16383) = true := by simp; omega
      have t3 : decide (v ≥ 2097151) = false := by simp; omega
      simp [wrap64, f52, f52_l5, all1, all2, all3, t1, t2, t3, w, w2, w3, ha (k + 1 + 1 + 1) (by omega), vintB, h1, h2, nn]

theorem _root_.Go.Am.Ev.up {p : Nat → Prop} (h : Ev p) : Ev fun k => p (k + 1) := by
  obtain ⟨a, ha⟩ := h
  exact ⟨a, fun k hk => ha (k + 1) (by omega)⟩

theorem f54_n1 {v : Int} (h : 0 ≤ v) (h' : v < 127) : Ev fun k => ∀ (R : Type) (K : Int → List Int → Option R), f54 k v 1 K = K 0 (c1 (v + 128)) := by
  refine (bytes1 (w := v + 128) (by omega) (by omega)).imp fun k hb R K => ?_
  have nn : ¬ v < 0 := by omega
  have t1 : decide (v ≥ 127) = false := by simp; omega
  have e0 : decide (IntKind.u64.wrap (IntKind.i64.wrap (7 * 1)) < 0) = false := by decide
  have e1 : shlI .i64 1 (IntKind.u64.wrap (IntKind.i64.wrap (7 * 1))) = 128 := by decide
  have e2 : IntKind.i64.wrap (v + 128) = v + 128 := wrap64 (by omega) (by omega)
  simp only [f54, most1, t1, e0, e1, e2, hb]
  simp [nn]
theorem f54_n2 {v : Int} (h : 0 ≤ v) (h' : v < 16383) : Ev fun k => ∀ (R : Type) (K : Int → List Int → Option R), f54 k v 2 K = K 0 (c2 (v + 16384)) := by
  refine (bytes2 (w := v + 16384) (by omega) (by omega)).imp fun k hb R K => ?_
  have nn : ¬ v < 0 := by omega
  have t1 : decide (v ≥ 16383) = false := by simp; omega
  have e0 : decide (IntKind.u64.wrap (IntKind.i64.wrap (7 * 2)) < 0) = false := by decide
  have e1 : shlI .i64 1 (IntKind.u64.wrap (IntKind.i64.wrap (7 * 2))) = 16384 := by decide
  have e2 : IntKind.i64.wrap (v + 16384) = v + 16384 := wrap64 (by omega) (by omega)
  simp only [f54, most2, t1, e0, e1, e2, hb]
  simp [nn]
theorem f54_n3 {v : Int} (h : 0 ≤ v) (h' : v < 2097151) : Ev fun k => ∀ (R : Type) (K : Int → List Int → Option R), f54 k v 3 K = K 0 (c3 (v + 2097152)) := by
  refine (bytes3 (w := v + 2097152) (by omega) (by omega)).imp fun k hb R K => ?_
  have nn : ¬ v < 0 := by omega
  have t1 : decide (v ≥ 2097151) = false := by simp; omega
  have e0 : decide (IntKind.u64.wrap (IntKind.i64.wrap (7 * 3)) < 0) = false := by decide
  have e1 : shlI .i64 1 (IntKind.u64.wrap (IntKind.i64.wrap (7 * 3))) = 2097152 := by decide
  have e2 : IntKind.i64.wrap (v + 2097152) = v + 2097152 := wrap64 (by omega) (by omega)
  simp only [f54, most3, t1, e0, e1, e2, hb]
  simp [nn]
theorem f54_v {v : Int} (h : 0 ≤ v) (h' : v < 2097151) : Ev fun k => ∀ (R : Type) (K : Int → List Int → Option R), f54 k v 0 K = K 0 (vintB v) := by
  have nn : ¬ v < 0 := by omega
  have e01 : decide (IntKind.u64.wrap (IntKind.i64.wrap (7 * 1)) < 0) = false := by decide
  have e11 : shlI .i64 1 (IntKind.u64.wrap (IntKind.i64.wrap (7 * 1))) = 128 := by decide
  have e02 : decide (IntKind.u64.wrap (IntKind.i64.wrap (7 * 2)) < 0) = false := by decide
  have e12 : shlI .i64 1 (IntKind.u64.wrap (IntKind.i64.wrap (7 * 2))) = 16384 := by decide
  have e03 : decide (IntKind.u64.wrap (IntKind.i64.wrap (7 * 3)) < 0) = false := by decide
  have e13 : shlI .i64 1 (IntKind.u64.wrap (IntKind.i64.wrap (7 * 3))) = 2097152 := by decide
  have w2 : IntKind.i64.wrap (1 + 1) = 2 := by decide
  have w3 : IntKind.i64.wrap (2 + 1) = 3 := by decide
  have l8 : decide ((1 : Int) < 8) = true := by decide
  have l82 : decide ((2 : Int) < 8) = true := by decide
  have l83 : decide ((3 : Int) < 8) = true := by decide
  have z0 : decide ((0 : Int) < 0) = false := by decide
  have z8 : decide ((0 : Int) > 8) = false := by decide
  have zz : ((0 : Int) == 0) = true := by decide
  have nv : decide (v < 0) = false := by simp; omega
  by_cases h1 : v < 127
  · refine .suc ((bytes1 (w := v + 128) (by omega) (by omega)).up.imp fun k hb R K => ?_)
    have t1 : decide (v ≥ 127) = false := by simp; omega
    have e2 : IntKind.i64.wrap (v + 128) = v + 128 := wrap64 (by omega) (by omega)
    simp only [f54, f54_l5, most1, t1, e01, e11, e2, hb, l8, z0, z8, zz, nv, cond_true, cond_false, vintB, h1, if_true]
  · by_cases h2 : v < 16383
    · refine .suc (.suc ((bytes2 (w := v + 16384) (by omega) (by omega)).up.up.imp fun k hb R K => ?_))
      have t1 : decide (v ≥ 127) = true := by simp; omega
      have t2 : decide (v ≥ 16383) = false := by simp; omega
      have e2 : IntKind.i64.wrap (v + 16384) = v + 16384 := wrap64 (by omega) (by omega)
      simp only [f54, f54_l5, most1, most2, t1, t2, e02, e12, e2, w2, hb, l8, l82, z0, z8, zz, nv, cond_true, cond_false, vintB, h1, h2, if_true, if_false]
    · refine .suc (.suc (.suc ((bytes3 (w := v + 2097152) (by omega) (by omega)).up.up.up.imp fun k hb R K => ?_)))
      have t1 : decide (v ≥ 127) = true := by simp; omega
      have t2 : decide (v ≥ 16383) = true := by simp; omega
      have t3 : decide (v ≥ 2097151) = false := by simp; omega
      have e2 : IntKind.i64.wrap (v + 2097152) = v + 2097152 := wrap64 (by omega) (by omega)
      simp only [f54, f54_l5, most1, most2, most3, t1, t2, t3, e03, e13, e2, w2, w3, hb, l8, l82, l83, z0, z8, zz, nv, cond_true, cond_false, vintB, h1, h2, if_true, if_false]

end Go.Proofs.Ytklhjegfkpmdoaa

/-! Lists put behind one another; a Void of any number of bytes. -/
namespace Go.Proofs.Ytklhjegfkpmdoaa
open Go Go.Am

def sumL (l : List (List Int)) : Nat := (l.map List.length).sum
theorem sumL_cons (f : List Int) (l : List (List Int)) : sumL (f :: l) = f.length + sumL l := by simp [sumL]
theorem flat_len (l : List (List Int)) : l.flatten.length = sumL l := by simp [sumL, List.length_flatten]

theorem f53_sum (v : List (List Int)) (l : List (List Int)) (hl : l.length ≤ 1000) : ∀ i, i ≤ l.length → Ev fun k => ∀ (R : Type) (a : Nat) (X : List (List Int) → Int → Option R), a + sumL (l.drop i) ≤ 140737488355328 →
    f53_l3 k v (a : Int) l (l.length : Int) (i : Int) X = X v ((a + sumL (l.drop i) : Nat) : Int) := by
  refine Ev.down l.length ?_ ?_
  · exact Ev.suc (.all fun k R a X _ => by simp [f53_l3, sumL])
  · intro i hi h
    refine Ev.suc (h.imp fun k hk R a X ha => ?_)
    rw [List.drop_eq_getElem_cons hi, sumL_cons] at ha ⊢
    have w : IntKind.i64.wrap ((a : Int) + (l[i].length : Int)) = ((a + l[i].length : Nat) : Int) := by rw [wrap64 (by omega) (by omega)]; omega
    have t : decide (((a + l[i].length : Nat) : Int) < 0) = false := by simp; omega
    rw [f53_l3, lt_nat, inb_nat, wrapSuc (by omega)]
    simp only [hi, decide_true, cond_true, Int.toNat_natCast, getD_get hi, w, t, cond_false]
    rw [hk R _ X (by omega)]
    congr 2; omega
theorem f53_cat (l : List (List Int)) (hl : l.length ≤ 1000) : ∀ i, i ≤ l.length → Ev fun k => ∀ (R : Type) (acc : List Int) (X : List Int → Option R), acc.length + sumL (l.drop i) ≤ 140737488355328 →
    f53_l11 k l (l.length : Int) (i : Int) acc X = X (acc ++ (l.drop i).flatten) := by
  refine Ev.down l.length ?_ ?_
  · exact Ev.suc (.all fun k R a X _ => by simp [f53_l11])
  · intro i hi h
    refine Ev.suc (h.imp fun k hk R acc X ha => ?_)
    rw [List.drop_eq_getElem_cons hi] at ha ⊢
    rw [sumL_cons] at ha
    rw [f53_l11, lt_nat, inb_nat, wrapSuc (by omega)]
    simp only [hi, decide_true, cond_true, Int.toNat_natCast, getD_get hi]
    rw [room_ok (by omega), cond_true, hk R _ X (by rw [List.length_append]; omega), List.flatten_cons, List.append_assoc]
theorem f84_v {n : Nat} (h : n ≤ 140737488355328) (k : Nat) (R : Type) (K : List Int → Option R) : f84 k (n : Int) K = K [] := by
  have e0 : IntKind.i64.wrap (0 - 0) = 0 := by decide
  have e1 : IntKind.i64.wrap ((n : Int) - 0) = n := by rw [Int.sub_zero]; exact wrapNat (by omega)
  have t0 : decide ((n : Int) < 0) = false := decide_eq_false (by omega)
  simp only [f84, e0, e1, t0, cond_false]
  cases n with
  | zero => simp
  | succ n =>
    have t1 : decide (((n + 1 : Nat) : Int) > 0) = true := decide_eq_true (by omega)
    have t2 : decide ((0 : Int) ≤ ((n + 1 : Nat) : Int)) = true := decide_eq_true (by omega)
    have t3 : decide (((n + 1 : Nat) : Int) * (1 : Nat) ≤ 140737488355328) = true := by simp; omega
    simp only [t1, t2, t3, cond_true, Bool.and_true, Int.toNat_natCast, List.length_replicate]
    rw [room_ok (by omega), upto_int (by omega) (by omega)]
    simp
theorem f53_v (l : List (List Int)) (hl : l.length ≤ 1000) (hs : sumL l ≤ 140737488355328) : Ev fun k => ∀ (R : Type) (K : List Int → Option R), f53 k l K = K l.flatten := by
  refine (f53_sum l l hl 0 (by omega)).imp2 (f53_cat l hl 0 (by omega)) fun k h1 h2 R K => ?_
  simp only [Int.natCast_zero, List.drop_zero] at h1 h2
  have h1 := h1 R 0 (fun v6 v7 => f84 k v7 fun v8 => f53_l11 k v6 (v6.length : Int) 0 v8 fun v13 => K v13) (by omega)
  simp only [Int.natCast_zero, Nat.zero_add] at h1
  simp only [f53]
  rw [h1, f84_v hs, h2 R [] _ (by simpa using hs), List.nil_append]

theorem f17_same (a : List Int) (k : Nat) (R : Type) (K : Bool → Option R) : f17 k a a K = K true := by
  simp [f17]

/-! one of so many bytes -/
def padB (n : Nat) : List Int :=
  if n < 129 then 236 :: (c1 ((n - 2 : Nat) + 128) ++ List.replicate (n - 2) 0)
  else if n < 16386 then 236 :: (c2 ((n - 3 : Nat) + 16384) ++ List.replicate (n - 3) 0)
  else 236 :: (c3 ((n - 4 : Nat) + 2097152) ++ List.replicate (n - 4) 0)
theorem padB_len {n : Nat} (h : 2 ≤ n) : (padB n).length = n := by
  unfold padB; split
  · simp [c1]; omega
  · split
    · simp [c2]; omega
    · simp [c3]; omega

theorem put1 {v : Int} (h : 0 ≤ v) : Ev fun k => ∀ (R : Type) (K : Int → List Int → Option R), f52 k v 1 K = if v < 127 then K 0 (c1 (v + 128)) else K 1 [] := by
  have nn : ¬ v < 0 := by omega
  by_cases h1 : v < 127
  · have w : IntKind.u64.wrap v = v := wrapU64 h (by omega)
    refine (mark1 h (by omega)).imp fun k hm R K => ?_
    have t : decide (v ≥ 127) = false := by simp; omega
    simp [f52, all1, t, w, hm, h1, nn]
  · refine .all fun k R K => ?_
    have t : decide (v ≥ 127) = true := by simp; omega
    simp [f52, all1, t, h1, nn]
theorem put2 {v : Int} (h : 0 ≤ v) : Ev fun k => ∀ (R : Type) (K : Int → List Int → Option R), f52 k v 2 K = if v < 16383 then K 0 (c2 (v + 16384)) else K 1 [] := by
  have nn : ¬ v < 0 := by omega
  by_cases h1 : v < 16383
  · have w : IntKind.u64.wrap v = v := wrapU64 h (by omega)
    refine (mark2 h (by omega)).imp fun k hm R K => ?_
    have t : decide (v ≥ 16383) = false := by simp; omega
    simp [f52, all2, t, w, hm, h1, nn]
  · refine .all fun k R K => ?_
    have t : decide (v ≥ 16383) = true := by simp; omega
    simp [f52, all2, t, h1, nn]
theorem put3 {v : Int} (h : 0 ≤ v) (h1 : v < 2097151) : Ev fun k => ∀ (R : Type) (K : Int → List Int → Option R), f52 k v 3 K = K 0 (c3 (v + 2097152)) := by
  have nn : ¬ v < 0 := by omega
  have w : IntKind.u64.wrap v = v := wrapU64 h (by omega)
  refine (mark3 h (by omega)).imp fun k hm R K => ?_
  have t : decide (v ≥ 2097151) = false := by simp; omega
  simp [f52, all3, t, w, hm, nn]
theorem rput1 {v : Int} (h : 0 ≤ v) : Ev fun k => ∀ (R : Type) (K : Int → List Int → Option R), f54 k v 1 K = if v < 127 then K 0 (c1 (v + 128)) else K 1 [] := by
  by_cases h1 : v < 127
  · exact (f54_n1 h h1).imp fun k hm R K => by rw [hm, if_pos h1]
  · refine .all fun k R K => ?_
    have nn : ¬ v < 0 := by omega
    have t : decide (v ≥ 127) = true := by simp; omega
    simp [f54, most1, t, h1, nn]
theorem rput2 {v : Int} (h : 0 ≤ v) : Ev fun k => ∀ (R : Type) (K : Int → List Int → Option R), f54 k v 2 K = if v < 16383 then K 0 (c2 (v + 16384)) else K 1 [] := by
  by_cases h1 : v < 16383
  · exact (f54_n2 h h1).imp fun k hm R K => by rw [hm, if_pos h1]
  · refine .all fun k R K => ?_
    have nn : ¬ v < 0 := by omega
    have t : decide (v ≥ 16383) = true := by simp; omega
    simp [f54, most2, t, h1, nn]

theorem f15_v (n : Int) : Ev fun k => ∀ (R : Type) (K : Int → List Int → Option R), f15 k n K = if n < 2 ∨ 1048576 < n then K 1 [] else K 0 (padB n.toNat) := by
  by_cases h : n < 2 ∨ 1048576 < n
  · refine .all fun k R K => ?_
    rw [if_pos h]
    by_cases h1 : n < 2
    · simp [f15, h1]
    · have h2 : 1048576 < n := by omega
      simp [f15, h1, h2]
  · obtain ⟨m, rfl⟩ : ∃ m : Nat, n = m := ⟨n.toNat, by omega⟩
    have w1 : IntKind.i64.wrap (IntKind.i64.wrap ((m : Int) - 1) - 1) = ((m - 2 : Nat) : Int) := by rw [wrap64 (by rw [wrap64 (by omega) (by omega)]; omega) (by rw [wrap64 (by omega) (by omega)]; omega), wrap64 (by omega) (by omega)]; omega
    have w2 : 129 ≤ m → IntKind.i64.wrap (IntKind.i64.wrap ((m : Int) - 1) - 2) = ((m - 3 : Nat) : Int) := fun _ => by rw [wrap64 (by rw [wrap64 (by omega) (by omega)]; omega) (by rw [wrap64 (by omega) (by omega)]; omega), wrap64 (by omega) (by omega)]; omega
    have w3 : 129 ≤ m → IntKind.i64.wrap (IntKind.i64.wrap ((m : Int) - 1) - 3) = ((m - 4 : Nat) : Int) := fun _ => by rw [wrap64 (by rw [wrap64 (by omega) (by omega)]; omega) (by rw [wrap64 (by omega) (by omega)]; omega), wrap64 (by omega) (by omega)]; omega
    have s1 : IntKind.i64.wrap (1 + 1) = 2 := by decide
    have s2 : IntKind.i64.wrap (2 + 1) = 3 := by decide
    have t1 : decide ((m : Int) < 2) = false := by simp; omega
    have t2 : decide ((m : Int) > 1048576) = false := by simp; omega
    have rm : ∀ q : Nat, q ≤ 1048576 → ((decide ((0 : Int) ≤ (q : Int)) && decide ((q : Int) ≤ (q : Int))) && decide ((q : Int) * ((1 : Nat) : Int) ≤ 140737488355328)) = true := fun q hq => by simp; omega
    rw [Int.toNat_natCast]
    by_cases a1 : m < 129
    · refine .suc ((put1 (v := ((m - 2 : Nat) : Int)) (by omega)).imp2 (f53_v [[236], c1 (((m - 2 : Nat) : Int) + 128), List.replicate (m - 2) 0] (by simp) (by simp [sumL, c1]; omega)) ?_)
      intro k h1 h2 R K
      have l1 : ((m - 2 : Nat) : Int) < 127 := by omega
      rw [if_neg h]
      simp only [f15, f15_l5, t1, t2, cond_false, w1, h1, if_pos l1, beq_self_eq_true, cond_true, rm (m - 2) (by omega), Int.toNat_natCast, h2]
      unfold padB
      rw [if_pos a1]
      simp
    · have n1 : ¬ ((m - 2 : Nat) : Int) < 127 := by omega
      by_cases a2 : m < 16386
      · refine .suc (.suc ((put1 (v := ((m - 2 : Nat) : Int)) (by omega)).up.imp3 (put2 (v := ((m - 3 : Nat) : Int)) (by omega)) (f53_v [[236], c2 (((m - 3 : Nat) : Int) + 16384), List.replicate (m - 3) 0] (by simp) (by simp [sumL, c2]; omega)) ?_))
        intro k h1 h2 h3 R K
        have l2 : ((m - 3 : Nat) : Int) < 16383 := by omega
        have z1 : ((1 : Int) == 0) = false := by decide
        rw [if_neg h]
        simp only [f15, f15_l5, t1, t2, cond_false, w1, h1, if_neg n1, z1, s1, w2 (by omega), h2, if_pos l2, beq_self_eq_true, cond_true, rm (m - 3) (by omega), Int.toNat_natCast, h3]
        unfold padB
        rw [if_neg a1, if_pos a2]
        simp
      · refine .suc (.suc (.suc ((put1 (v := ((m - 2 : Nat) : Int)) (by omega)).up.up.imp4 (put2 (v := ((m - 3 : Nat) : Int)) (by omega)).up (put3 (v := ((m - 4 : Nat) : Int)) (by omega) (by omega)) (f53_v [[236], c3 (((m - 4 : Nat) : Int) + 2097152), List.replicate (m - 4) 0] (by simp) (by simp [sumL, c3]; omega)) ?_)))
        intro k h1 h2 h3 h4 R K
        have n2 : ¬ ((m - 3 : Nat) : Int) < 16383 := by omega
        have z1 : ((1 : Int) == 0) = false := by decide
        rw [if_neg h]
        simp only [f15, f15_l5, t1, t2, cond_false, w1, h1, if_neg n1, z1, s1, s2, w2 (by omega), w3 (by omega), h2, if_neg n2, h3, beq_self_eq_true, cond_true, rm (m - 4) (by omega), Int.toNat_natCast, h4]
        unfold padB
        rw [if_neg a1, if_neg a2]
        simp

theorem f16_v (n : Int) : Ev fun k => ∀ (R : Type) (K : Int → List Int → Option R), f16 k n K = if n < 2 ∨ 1048576 < n then K 1 [] else K 0 (padB n.toNat) := by
  by_cases h : n < 2 ∨ 1048576 < n
  · refine .all fun k R K => ?_
    rw [if_pos h]
    by_cases h1 : n < 2
    · simp [f16, h1]
    · have h2 : 1048576 < n := by omega
      simp [f16, h1, h2]
  · obtain ⟨m, rfl⟩ : ∃ m : Nat, n = m := ⟨n.toNat, by omega⟩
    have w1 : IntKind.i64.wrap (IntKind.i64.wrap ((m : Int) - 1) - 1) = ((m - 2 : Nat) : Int) := by rw [wrap64 (by rw [wrap64 (by omega) (by omega)]; omega) (by rw [wrap64 (by omega) (by omega)]; omega), wrap64 (by omega) (by omega)]; omega
    have w2 : 129 ≤ m → IntKind.i64.wrap (IntKind.i64.wrap ((m : Int) - 1) - 2) = ((m - 3 : Nat) : Int) := fun _ => by rw [wrap64 (by rw [wrap64 (by omega) (by omega)]; omega) (by rw [wrap64 (by omega) (by omega)]; omega), wrap64 (by omega) (by omega)]; omega
    have w3 : 129 ≤ m → IntKind.i64.wrap (IntKind.i64.wrap ((m : Int) - 1) - 3) = ((m - 4 : Nat) : Int) := fun _ => by rw [wrap64 (by rw [wrap64 (by omega) (by omega)]; omega) (by rw [wrap64 (by omega) (by omega)]; omega), wrap64 (by omega) (by omega)]; omega
    have s1 : IntKind.i64.wrap (1 + 1) = 2 := by decide
    have s2 : IntKind.i64.wrap (2 + 1) = 3 := by decide
    have t1 : decide ((m : Int) < 2) = false := by simp; omega
    have t2 : decide ((m : Int) > 1048576) = false := by simp; omega
    have l1 : decide ((1 : Int) ≤ 8) = true := by decide
    have l2 : decide ((2 : Int) ≤ 8) = true := by decide
    have l3 : decide ((3 : Int) ≤ 8) = true := by decide
    have z1 : ((1 : Int) == 0) = false := by decide
    have rm : ∀ q : Nat, q ≤ 1048576 → (decide ((0 : Int) ≤ (q : Int)) && decide ((q : Int) * ((1 : Nat) : Int) ≤ 140737488355328)) = true := fun q hq => by simp; omega
    rw [Int.toNat_natCast]
    by_cases a1 : m < 129
    · refine .suc ((rput1 (v := ((m - 2 : Nat) : Int)) (by omega)).imp ?_)
      intro k h1 R K
      have p1 : ((m - 2 : Nat) : Int) < 127 := by omega
      rw [if_neg h]
      simp only [f16, f16_l4, t1, t2, cond_false, w1, l1, h1, if_pos p1, beq_self_eq_true, cond_true, rm (m - 2) (by omega), Int.toNat_natCast]
      rw [room_ok (by simp [c1]), room_ok (by simp [c1]; omega)]
      unfold padB
      rw [if_pos a1]
      simp
    · have n1 : ¬ ((m - 2 : Nat) : Int) < 127 := by omega
      by_cases a2 : m < 16386
      · refine .suc (.suc ((rput1 (v := ((m - 2 : Nat) : Int)) (by omega)).up.imp2 (rput2 (v := ((m - 3 : Nat) : Int)) (by omega)) ?_))
        intro k h1 h2 R K
        have p2 : ((m - 3 : Nat) : Int) < 16383 := by omega
        rw [if_neg h]
        simp only [f16, f16_l4, t1, t2, cond_false, w1, l1, l2, h1, if_neg n1, z1, s1, w2 (by omega), h2, if_pos p2, beq_self_eq_true, cond_true, rm (m - 3) (by omega), Int.toNat_natCast]
        rw [room_ok (by simp [c2]), room_ok (by simp [c2]; omega)]
        unfold padB
        rw [if_neg a1, if_pos a2]
        simp
      · refine .suc (.suc (.suc ((rput1 (v := ((m - 2 : Nat) : Int)) (by omega)).up.up.imp3 (rput2 (v := ((m - 3 : Nat) : Int)) (by omega)).up (f54_n3 (v := ((m - 4 : Nat) : Int)) (by omega) (by omega)) ?_)))
        intro k h1 h2 h3 R K
        have n2 : ¬ ((m - 3 : Nat) : Int) < 16383 := by omega
        rw [if_neg h]
        simp only [f16, f16_l4, t1, t2, cond_false, w1, l1, l2, l3, h1, if_neg n1, z1, s1, s2, w2 (by omega), w3 (by omega), h2, if_neg n2, h3, beq_self_eq_true, cond_true, rm (m - 4) (by omega), Int.toNat_natCast]
        rw [room_ok (by simp [c3]), room_ok (by simp [c3]; omega)]
        unfold padB
        rw [if_neg a1, if_neg a2]
        simp

theorem elementPads_plain (n : Int) : ∃ k, f3 (R := Bool) k n some = some true := by
  refine Ev.some ?_
  refine (f15_v n).imp3 (f16_v n) awake_v fun k h1 h2 h3 => ?_
  by_cases h : n < 2 ∨ 1048576 < n
  · simp only [f3, h1, h2, if_pos h, f17_same, cond_true, h3]
    simp
  · have hl : (padB n.toNat).length = n.toNat := padB_len (by omega)
    have t : (((padB n.toNat).length : Int) == n) = true := by rw [hl]; simp; omega
    simp only [f3, h1, h2, if_neg h, f17_same, cond_true, h3, t]
    simp
end Go.Proofs.Ytklhjegfkpmdoaa

/-! Ids: how many bytes they have, their numbers, and what is one. -/
namespace Go.Proofs.Ytklhjegfkpmdoaa
open Go Go.Am

theorem reachV : reachBytes = 140737488351232 := rfl
def okBy (b : List Int) : Prop := ∀ n ∈ b, 0 ≤ n ∧ n < 256
theorem okBy.drop {b : List Int} (h : okBy b) (i : Nat) : okBy (b.drop i) := fun n hn => h n (List.mem_of_mem_drop hn)
theorem okBy.take {b : List Int} (h : okBy b) (i : Nat) : okBy (b.take i) := fun n hn => h n (List.mem_of_mem_take hn)
theorem okBy.get {b : List Int} (h : okBy b) {i : Nat} (hi : i < b.length) : 0 ≤ b[i] ∧ b[i] < 256 := h _ (List.getElem_mem hi)
def valF (l : List Int) (v : Int) : Int := l.foldl (fun v c => v * 256 + c) v
theorem valF_cons (c : Int) (l : List Int) (v : Int) : valF (c :: l) v = valF l (v * 256 + c) := rfl
theorem pow_pos256 (n : Nat) : (0 : Int) < 256 ^ n := Int.pow_pos (by decide)
theorem valF_bound : ∀ {l : List Int}, okBy l → ∀ (v : Int), v * 256 ^ l.length ≤ valF l v ∧ valF l v < (v + 1) * 256 ^ l.length
  | [], _, v => by simp [valF]; omega
  | c :: l, h, v => by
    have hc := h c (by simp)
    obtain ⟨h1, h2⟩ := valF_bound (l := l) (fun n hn => h n (by simp [hn])) (v * 256 + c)
    have hp := pow_pos256 l.length
    rw [valF_cons, List.length_cons, Int.pow_succ, Int.mul_comm (256 ^ l.length) 256, ← Int.mul_assoc, ← Int.mul_assoc]
    constructor
    · refine Int.le_trans ?_ h1
      exact Int.mul_le_mul_of_nonneg_right (by omega) (Int.le_of_lt hp)
    · refine Int.lt_of_lt_of_le h2 ?_
      exact Int.mul_le_mul_of_nonneg_right (by omega) (Int.le_of_lt hp)

/-! bits -/
theorem ofInt_nat {n : Nat} (h : n < 18446744073709551616) : (BitVec.ofInt 64 (n : Int)).toNat = n := by
  rw [BitVec.toNat_ofInt]
  have e : (2 ^ 64 : Nat) = 18446744073709551616 := by decide
  rw [e, Int.emod_eq_of_lt (by omega) (by omega)]
  omega
theorem or_byteU {a c : Int} (h : 0 ≤ a) (h' : a < 72057594037927936) (hc : 0 ≤ c) (hc' : c < 256) : orI .u64 (shlI .u64 a 8) (IntKind.u64.wrap c) = a * 256 + c := by
  obtain ⟨n, rfl⟩ : ∃ n : Nat, a = n := ⟨a.toNat, by omega⟩
  obtain ⟨m, rfl⟩ : ∃ n : Nat, c = n := ⟨c.toNat, by omega⟩
  have s : shlI .u64 (n : Int) 8 = ((256 * n : Nat) : Int) := by
    have : (min (8 : Int).toNat IntKind.u64.bits) = 8 := rfl
    unfold shlI
    rw [this]
    have e : (n : Int) * 2 ^ 8 = ((256 * n : Nat) : Int) := by
      have : (2 : Int) ^ 8 = 256 := by decide
      rw [this]; omega
    rw [e, wrapU64 (by omega) (by omega)]
  rw [s, wrapU64 (by omega) (by omega)]
  have e1 : (BitVec.ofInt IntKind.u64.bits ((256 * n : Nat) : Int)).toNat = 256 * n := ofInt_nat (by omega)
  have e2 : (BitVec.ofInt IntKind.u64.bits (m : Int)).toNat = m := ofInt_nat (by omega)
  unfold orI
  rw [BitVec.toNat_or, e1, e2]
  have e3 : 256 * n = 2 ^ 8 * n := rfl
  rw [e3, ← Nat.two_pow_add_eq_or_of_lt (i := 8) (by omega) n, wrapU64 (by omega) (by omega)]
  omega
theorem and_mask {v : Nat} {m : Nat} (h : v < 9223372036854775808) (hm : m ≤ 60) : andI .i64 (v : Int) ((2 ^ m - 1 : Nat) : Int) = ((v % 2 ^ m : Nat) : Int) := by
  have h3 : 2 ^ m ≤ 2 ^ 60 := Nat.pow_le_pow_right (by decide) hm
  have h4 : (2 : Nat) ^ 60 = 1152921504606846976 := by decide
  have e1 : (BitVec.ofInt IntKind.i64.bits (v : Int)).toNat = v := ofInt_nat (by omega)
  have e2 : (BitVec.ofInt IntKind.i64.bits ((2 ^ m - 1 : Nat) : Int)).toNat = 2 ^ m - 1 := ofInt_nat (by omega)
  unfold andI
  rw [BitVec.toNat_and, e1, e2, Nat.and_two_pow_sub_one_eq_mod]
  have := Nat.mod_le v (2 ^ m)
  exact wrapNat (by omega)

/-! how many bytes -/
def idLen (c : Int) : Nat := if 128 ≤ c then 1 else if 64 ≤ c then 2 else if 32 ≤ c then 3 else if 16 ≤ c then 4 else 0
def idC (c : Nat) : Bool := decide ((shrI .u8 (c : Int) 7 == 1) = decide (128 ≤ c) ∧ (c < 128 → (shrI .u8 (c : Int) 6 == 1) = decide (64 ≤ c)) ∧ (c < 64 → (shrI .u8 (c : Int) 5 == 1) = decide (32 ≤ c)) ∧ (c < 32 → (shrI .u8 (c : Int) 4 == 1) = decide (16 ≤ c)))
theorem idC_all : (List.range 256).all idC = true := by kernel_rfl
theorem f63_v {c : Int} (h : 0 ≤ c) (h' : c < 256) : Ev fun k => ∀ (R : Type) (K : Int → Option R), f63 k c K = K (idLen c : Int) := by
  obtain ⟨n, rfl⟩ : ∃ n : Nat, c = n := ⟨c.toNat, by omega⟩
  have hn := of_decide_eq_true (List.all_eq_true.1 idC_all n (by simp; omega))
  obtain ⟨q1, q2, q3, q4⟩ := hn
  have w1 : IntKind.i64.wrap (8 - 1) = 7 := by decide
  have w2 : IntKind.i64.wrap (8 - 2) = 6 := by decide
  have w3 : IntKind.i64.wrap (8 - 3) = 5 := by decide
  have w4 : IntKind.i64.wrap (8 - 4) = 4 := by decide
  have s1 : IntKind.i64.wrap (1 + 1) = 2 := by decide
  have s2 : IntKind.i64.wrap (2 + 1) = 3 := by decide
  have s3 : IntKind.i64.wrap (3 + 1) = 4 := by decide
  have s4 : IntKind.i64.wrap (4 + 1) = 5 := by decide
  have l1 : decide ((1 : Int) ≤ 4) = true := by decide
  have l2 : decide ((2 : Int) ≤ 4) = true := by decide
  have l3 : decide ((3 : Int) ≤ 4) = true := by decide
  have l4 : decide ((4 : Int) ≤ 4) = true := by decide
  have l5 : decide ((5 : Int) ≤ 4) = false := by decide
  have n7 : decide ((7 : Int) < 0) = false := by decide
  have n6 : decide ((6 : Int) < 0) = false := by decide
  have n5 : decide ((5 : Int) < 0) = false := by decide
  have n4 : decide ((4 : Int) < 0) = false := by decide
  refine .suc (.suc (.suc (.suc (.suc (.all fun k R K => ?_)))))
  simp only [f63, f63_l2, w1, w2, w3, w4, s1, s2, s3, s4, l1, l2, l3, l4, l5, n7, n6, n5, n4, cond_true, cond_false, q1]
  by_cases h1 : 128 ≤ n
  · simp [h1, idLen]; rw [if_pos (by omega)]; rfl
  · rw [q2 (by omega)]
    by_cases h2 : 64 ≤ n
    · simp [h1, h2, idLen]; rw [if_neg (by omega), if_pos (by omega)]; rfl
    · rw [q3 (by omega)]
      by_cases h3 : 32 ≤ n
      · simp [h1, h2, h3, idLen]; rw [if_neg (by omega), if_neg (by omega), if_pos (by omega)]; rfl
      · rw [q4 (by omega)]
        by_cases h4 : 16 ≤ n
        · simp [h1, h2, h3, h4, idLen]; rw [if_neg (by omega), if_neg (by omega), if_neg (by omega), if_pos (by omega)]; rfl
        · simp [h1, h2, h3, h4, idLen]; rw [if_neg (by omega), if_neg (by omega), if_neg (by omega), if_neg (by omega)]; rfl
theorem f65_v {c : Int} (h : 0 ≤ c) (h' : c < 256) : Ev fun k => ∀ (R : Type) (K : Int → Option R), f65 k c K = K (idLen c : Int) := by
  have w : IntKind.i64.wrap c = c := wrap64 (by omega) (by omega)
  have s1 : IntKind.i64.wrap (1 + 1) = 2 := by decide
  have s2 : IntKind.i64.wrap (2 + 1) = 3 := by decide
  have s3 : IntKind.i64.wrap (3 + 1) = 4 := by decide
  have s4 : IntKind.i64.wrap (4 + 1) = 5 := by decide
  have d1 : IntKind.i64.wrap ((128 : Int).tdiv 2) = 64 := by decide
  have d2 : IntKind.i64.wrap ((64 : Int).tdiv 2) = 32 := by decide
  have d3 : IntKind.i64.wrap ((32 : Int).tdiv 2) = 16 := by decide
  have d4 : IntKind.i64.wrap ((16 : Int).tdiv 2) = 8 := by decide
  have l1 : decide ((1 : Int) ≤ 4) = true := by decide
  have l2 : decide ((2 : Int) ≤ 4) = true := by decide
  have l3 : decide ((3 : Int) ≤ 4) = true := by decide
  have l4 : decide ((4 : Int) ≤ 4) = true := by decide
  have l5 : decide ((5 : Int) ≤ 4) = false := by decide
  refine .suc (.suc (.suc (.suc (.suc (.all fun k R K => ?_)))))
  simp only [f65, f65_l2, w, s1, s2, s3, s4, d1, d2, d3, d4, l1, l2, l3, l4, l5, cond_true, cond_false]
  have g1 : decide ((1 : Int) > 4) = false := by decide
  have g2 : decide ((2 : Int) > 4) = false := by decide
  have g3 : decide ((3 : Int) > 4) = false := by decide
  have g4 : decide ((4 : Int) > 4) = false := by decide
  have g5 : decide ((5 : Int) > 4) = true := by decide
  unfold idLen
  by_cases h1 : 128 ≤ c
  · rw [decide_eq_false (show ¬ c < 128 by omega), if_pos h1]
    simp only [cond_false, g1]; rfl
  · rw [decide_eq_true (show c < 128 by omega), if_neg h1]
    by_cases h2 : 64 ≤ c
    · rw [decide_eq_false (show ¬ c < 64 by omega), if_pos h2]
      simp only [cond_true, cond_false, g2]; rfl
    · rw [decide_eq_true (show c < 64 by omega), if_neg h2]
      by_cases h3 : 32 ≤ c
      · rw [decide_eq_false (show ¬ c < 32 by omega), if_pos h3]
        simp only [cond_true, cond_false, g3]; rfl
      · rw [decide_eq_true (show c < 32 by omega), if_neg h3]
        by_cases h4 : 16 ≤ c
        · rw [decide_eq_false (show ¬ c < 16 by omega), if_pos h4]
          simp only [cond_true, cond_false, g4]; rfl
        · rw [decide_eq_true (show c < 16 by omega), if_neg h4]
          simp only [cond_true, g5]; rfl

/-! the number -/
theorem f64_loop (l : List Int) (hl : okBy l) (h8 : l.length ≤ 8) : ∀ i, i ≤ l.length → Ev fun k => ∀ (R : Type) (v : Int) (X : Int → Option R), 0 ≤ v → v < 256 ^ i → f64_l7 k v l (l.length : Int) (i : Int) X = X (valF (l.drop i) v) := by
  refine Ev.down l.length ?_ ?_
  · exact Ev.suc (.all fun k R v X _ _ => by simp [f64_l7, valF])
  · intro i hi h
    refine Ev.suc (h.imp fun k hk R v X h0 h1 => ?_)
    have hc := hl.get hi
    have hp : (256 : Int) ^ i ≤ 72057594037927936 := by
      have h2 : (256 : Nat) ^ i ≤ 72057594037927936 := Nat.le_trans (Nat.pow_le_pow_right (by decide) (show i ≤ 7 by omega)) (by decide)
      have e : ((256 ^ i : Nat) : Int) = (256 : Int) ^ i := Int.natCast_pow 256 i
      omega
    have ho := or_byteU h0 (by omega) hc.1 hc.2
    rw [f64_l7, lt_nat, inb_nat, wrapSuc (by omega)]
    simp only [hi, decide_true, cond_true, Int.toNat_natCast, getD_get hi, ho]
    have hv : v * 256 + l[i] < 256 ^ (i + 1) := by
      rw [Int.pow_succ]; omega
    rw [hk R _ X (by omega) hv, List.drop_eq_getElem_cons hi, valF_cons]

/-- The number of so many bytes at a place. -/
def numB (b : List Int) (at_ n : Nat) : Int := valF ((b.drop at_).take n) 0
theorem numB_bound {b : List Int} (hb : okBy b) {at_ n : Nat} (h : at_ + n ≤ b.length) : 0 ≤ numB b at_ n ∧ numB b at_ n < 256 ^ n := by
  have := valF_bound ((hb.drop at_).take n) 0
  have e : ((b.drop at_).take n).length = n := by simp; omega
  rw [e] at this
  unfold numB
  omega
theorem f64_v (b : List Int) (hb : okBy b) (hl : b.length ≤ reachBytes) {at_ n : Nat} (h1 : 1 ≤ n) (h8 : n ≤ 8) (h : at_ + n ≤ b.length) : Ev fun k => ∀ (R : Type) (K : Int → Int → Option R),
    f64 k b (at_ : Int) (n : Int) K = if 9223372036854775807 < numB b at_ n then K 0 1 else K (numB b at_ n) 0 := by
  rw [reachV] at hl
  have e : (b.take (at_ + n)).drop at_ = (b.drop at_).take n := by rw [List.drop_take]; congr 1; omega
  have el : ((b.drop at_).take n).length = n := by simp; omega
  refine (f64_loop ((b.drop at_).take n) ((hb.drop at_).take n) (by omega) 0 (by omega)).imp fun k hk R K => ?_
  have t1 : decide ((n : Int) < 1) = false := decide_eq_false (by omega)
  have t2 : decide ((n : Int) > 8) = false := decide_eq_false (by omega)
  have t3 : decide ((at_ : Int) < 0) = false := decide_eq_false (by omega)
  have t4 : decide ((at_ : Int) > (b.length : Int)) = false := decide_eq_false (by omega)
  have w1 : IntKind.i64.wrap ((b.length : Int) - (at_ : Int)) = ((b.length - at_ : Nat) : Int) := by rw [wrap64 (by omega) (by omega)]; omega
  have w2 : IntKind.i64.wrap ((at_ : Int) + (n : Int)) = ((at_ + n : Nat) : Int) := by rw [wrap64 (by omega) (by omega)]; omega
  have t5 : decide (((b.length - at_ : Nat) : Int) < (n : Int)) = false := decide_eq_false (by omega)
  have t6 : decide ((0 : Int) ≤ (at_ : Int)) = true := decide_eq_true (by omega)
  have t7 : decide ((at_ : Int) ≤ ((at_ + n : Nat) : Int)) = true := decide_eq_true (by omega)
  simp only [Int.natCast_zero, List.drop_zero] at hk
  simp only [f64, t1, t2, t3, t4, w1, w2, t5, t6, t7, cond_false, upto_nat, h, decide_true, Bool.and_self, cond_true, Int.toNat_natCast, e]
  rw [hk R 0 _ (by omega) (by decide)]
  have hbd := numB_bound hb h
  show (bif decide (numB b at_ n > 9223372036854775807) then K 0 1 else K (IntKind.i64.wrap (numB b at_ n)) 0) = _
  by_cases hx : 9223372036854775807 < numB b at_ n
  · rw [if_pos hx, decide_eq_true (show numB b at_ n > 9223372036854775807 from hx)]; rfl
  · rw [if_neg hx, decide_eq_false (show ¬ numB b at_ n > 9223372036854775807 from hx), wrap64 (by omega) (by omega)]; rfl
theorem f64_short (b : List Int) (hl : b.length ≤ reachBytes) {at_ n : Nat} (h1 : 1 ≤ n) (h8 : n ≤ 8) (ha : at_ ≤ b.length) (h : b.length - at_ < n) (k : Nat) (R : Type) (K : Int → Int → Option R) :
    f64 k b (at_ : Int) (n : Int) K = K 0 3 := by
  rw [reachV] at hl
  have t1 : decide ((n : Int) < 1) = false := decide_eq_false (by omega)
  have t2 : decide ((n : Int) > 8) = false := decide_eq_false (by omega)
  have t3 : decide ((at_ : Int) < 0) = false := decide_eq_false (by omega)
  have t4 : decide ((at_ : Int) > (b.length : Int)) = false := decide_eq_false (by omega)
  have w1 : IntKind.i64.wrap ((b.length : Int) - (at_ : Int)) = ((b.length - at_ : Nat) : Int) := by rw [wrap64 (by omega) (by omega)]; omega
  have t5 : decide (((b.length - at_ : Nat) : Int) < (n : Int)) = true := decide_eq_true (by omega)
  simp only [f64, t1, t2, t3, t4, w1, t5, cond_false, cond_true]
end Go.Proofs.Ytklhjegfkpmdoaa

/-! The id at a place. -/
namespace Go.Proofs.Ytklhjegfkpmdoaa
open Go Go.Am

theorem idLen_range (c : Int) : idLen c ≤ 4 := by unfold idLen; split; omega; split; omega; split; omega; split <;> omega
/-- By its first byte. -/
theorem idLen_first {c : Int} (h' : c < 256) {n : Nat} (hn : idLen c = n) (h1 : 1 ≤ n) : (2 : Int) ^ (8 - n) ≤ c ∧ c < 2 ^ (9 - n) := by
  unfold idLen at hn
  split at hn
  · subst hn; exact ⟨by simpa using ‹128 ≤ c›, by simpa using h'⟩
  · split at hn
    · subst hn; exact ⟨by simpa using ‹64 ≤ c›, by simp; omega⟩
    · split at hn
      · subst hn; exact ⟨by simpa using ‹32 ≤ c›, by simp; omega⟩
      · split at hn
        · subst hn; exact ⟨by simpa using ‹16 ≤ c›, by simp; omega⟩
        · omega
/-- A number with the mark of so many bytes. -/
def Marked (v : Int) (n : Nat) : Prop := (2 : Int) ^ (7 * n) ≤ v ∧ v < 2 * 2 ^ (7 * n)
theorem marked_id {b : List Int} (hb : okBy b) {at_ n : Nat} (hat : at_ < b.length) (hn : idLen b[at_] = n) (h1 : 1 ≤ n) (h : at_ + n ≤ b.length) : Marked (numB b at_ n) n := by
  have hc := hb.get hat
  obtain ⟨l1, l2⟩ := idLen_first hc.2 hn h1
  have h4 : n ≤ 4 := by rw [← hn]; exact idLen_range _
  have e : (b.drop at_).take n = b[at_] :: (b.drop (at_ + 1)).take (n - 1) := by
    rw [List.drop_eq_getElem_cons hat]
    obtain ⟨m, rfl⟩ : ∃ m, n = m + 1 := ⟨n - 1, by omega⟩
    rw [List.take_succ_cons]; rfl
  have hv := valF_bound ((hb.drop (at_ + 1)).take (n - 1)) (0 * 256 + b[at_])
  have el : ((b.drop (at_ + 1)).take (n - 1)).length = n - 1 := by simp; omega
  have ev : numB b at_ n = valF ((b.drop (at_ + 1)).take (n - 1)) (0 * 256 + b[at_]) := by unfold numB; rw [e, valF_cons]
  rw [el, ← ev] at hv
  have : n = 1 ∨ n = 2 ∨ n = 3 ∨ n = 4 := by omega
  unfold Marked
  rcases this with rfl | rfl | rfl | rfl <;> simp at l1 l2 hv ⊢ <;> omega

def isIdB (v : Int) (n : Nat) : Bool := decide (2 ^ (7 * n) < v ∧ v < 2 * 2 ^ (7 * n) - 1)
theorem f60_v {v : Int} {n : Nat} (h1 : 1 ≤ n) (h4 : n ≤ 4) (h : Marked v n) (k : Nat) (R : Type) (K : Bool → Option R) : f60 k v (n : Int) K = K (isIdB v n) := by
  obtain ⟨l1, l2⟩ := h
  obtain ⟨m, rfl⟩ : ∃ m : Nat, v = m := ⟨v.toNat, by
    have : (0 : Int) < 2 ^ (7 * n) := Int.pow_pos (by decide)
    omega⟩
  have main : ∀ (p : Nat), p ≤ 28 → (2 : Nat) ^ p ≤ m → m < 2 * 2 ^ p → andI .i64 (m : Int) ((2 ^ p - 1 : Nat) : Int) = ((m - 2 ^ p : Nat) : Int) := by
    intro p hp a1 a2
    have hb : (2 : Nat) ^ p ≤ 2 ^ 28 := Nat.pow_le_pow_right (by decide) hp
    have e28 : (2 : Nat) ^ 28 = 268435456 := by decide
    rw [and_mask (by omega) (by omega)]
    congr 1
    rw [Nat.mod_eq_sub_mod (by omega), Nat.mod_eq_of_lt (by omega)]
  have fin : ∀ (p : Nat) (x : Int), p ≤ 28 → (2 : Nat) ^ p ≤ m → m < 2 * 2 ^ p → x = ((2 ^ p - 1 : Nat) : Int) → 2 ≤ p → (bif (andI .i64 (m : Int) x != 0) then K (andI .i64 (m : Int) x != x) else K false) = K (decide ((2 : Int) ^ p < m ∧ (m : Int) < 2 * 2 ^ p - 1)) := by
    intro p x hp a1 a2 hx h2
    have e0 : ((2 ^ p : Nat) : Int) = (2 : Int) ^ p := Int.natCast_pow 2 p
    have hb : (2 : Nat) ^ 2 ≤ 2 ^ p := Nat.pow_le_pow_right (by decide) h2
    subst hx
    rw [main p hp a1 a2, bne_dec, bne_dec]
    by_cases z : m = 2 ^ p
    · rw [decide_eq_true (show ((m - 2 ^ p : Nat) : Int) = 0 by omega), decide_eq_false (show ¬ ((2 : Int) ^ p < m ∧ (m : Int) < 2 * 2 ^ p - 1) by omega)]; rfl
    · rw [decide_eq_false (show ¬ ((m - 2 ^ p : Nat) : Int) = 0 by omega)]
      simp only [Bool.not_false, cond_true]
      by_cases y : m = 2 * 2 ^ p - 1
      · rw [decide_eq_true (show ((m - 2 ^ p : Nat) : Int) = ((2 ^ p - 1 : Nat) : Int) by omega), decide_eq_false (show ¬ ((2 : Int) ^ p < m ∧ (m : Int) < 2 * 2 ^ p - 1) by omega)]; rfl
      · rw [decide_eq_false (show ¬ ((m - 2 ^ p : Nat) : Int) = ((2 ^ p - 1 : Nat) : Int) by omega), decide_eq_true (show ((2 : Int) ^ p < m ∧ (m : Int) < 2 * 2 ^ p - 1) by omega)]; rfl
  have nat : ∀ p : Nat, (2 : Int) ^ p ≤ (m : Int) → (m : Int) < 2 * 2 ^ p → (2 : Nat) ^ p ≤ m ∧ m < 2 * 2 ^ p := by
    intro p a b
    have e0 : ((2 ^ p : Nat) : Int) = (2 : Int) ^ p := Int.natCast_pow 2 p
    omega
  obtain ⟨b1, b2⟩ := nat _ l1 l2
  have : n = 1 ∨ n = 2 ∨ n = 3 ∨ n = 4 := by omega
  unfold isIdB
  rcases this with rfl | rfl | rfl | rfl
  · exact fin 7 _ (by decide) b1 b2 (by decide) (by decide)
  · exact fin 14 _ (by decide) b1 b2 (by decide) (by decide)
  · exact fin 21 _ (by decide) b1 b2 (by decide) (by decide)
  · exact fin 28 _ (by decide) b1 b2 (by decide) (by decide)
theorem f62_v (v : Int) {n : Nat} (h1 : 1 ≤ n) (h4 : n ≤ 4) : Ev fun k => ∀ (R : Type) (K : Bool → Option R), f62 k v (n : Int) K = K (isIdB v n) := by
  have fin : ∀ (p : Int), p > 0 → p < 1000000000 → ∀ (R : Type) (K : Bool → Option R), (bif decide (v > p) then K (decide (v < IntKind.i64.wrap (IntKind.i64.wrap (2 * p) - 1))) else K false) = K (decide (p < v ∧ v < 2 * p - 1)) := by
    intro p h0 hp R K
    have w1 : IntKind.i64.wrap (2 * p) = 2 * p := wrap64 (by omega) (by omega)
    have w2 : IntKind.i64.wrap (2 * p - 1) = 2 * p - 1 := wrap64 (by omega) (by omega)
    rw [w1, w2]
    by_cases a : v > p
    · rw [decide_eq_true a]
      by_cases b : v < 2 * p - 1
      · rw [decide_eq_true b, decide_eq_true (show p < v ∧ v < 2 * p - 1 from ⟨a, b⟩)]; rfl
      · rw [decide_eq_false b, decide_eq_false (show ¬ (p < v ∧ v < 2 * p - 1) from fun h => b h.2)]; rfl
    · rw [decide_eq_false a, decide_eq_false (show ¬ (p < v ∧ v < 2 * p - 1) from fun h => a h.1)]; rfl
  unfold isIdB
  have : n = 1 ∨ n = 2 ∨ n = 3 ∨ n = 4 := by omega
  rcases this with rfl | rfl | rfl | rfl
  · exact .suc (.suc (.all fun k R K => fin 128 (by decide) (by decide) R K))
  · exact .suc (.suc (.suc (.all fun k R K => fin 16384 (by decide) (by decide) R K)))
  · exact .suc (.suc (.suc (.suc (.all fun k R K => fin 2097152 (by decide) (by decide) R K))))
  · exact .suc (.suc (.suc (.suc (.suc (.all fun k R K => fin 268435456 (by decide) (by decide) R K)))))

/-- The id at a place, how many bytes it has, the error. -/
def idR (b : List Int) (at_ : Int) : Int × Int × Int :=
  if at_ < 0 then (0, 0, 1)
  else if (b.length : Int) ≤ at_ then (0, 0, 3)
  else
    let n := idLen (b.getD at_.toNat 0)
    if n = 0 then (0, 0, 40) else if b.length - at_.toNat < n then (0, 0, 3) else if isIdB (numB b at_.toNat n) n = false then (0, 0, 40) else (numB b at_.toNat n, (n : Int), 0)

theorem f29_v (b : List Int) (hb : okBy b) (hl : b.length ≤ reachBytes) (at_ : Int) : Ev fun k => ∀ (R : Type) (K : Int → Int → Int → Option R), f29 k b at_ K = K (idR b at_).1 (idR b at_).2.1 (idR b at_).2.2 := by
  unfold idR
  by_cases h0 : at_ < 0
  · refine .all fun k R K => ?_
    rw [if_pos h0]; simp [f29, h0]
  · obtain ⟨p, rfl⟩ : ∃ p : Nat, at_ = p := ⟨at_.toNat, by omega⟩
    rw [if_neg h0]
    by_cases h1 : (b.length : Int) ≤ (p : Int)
    · refine .all fun k R K => ?_
      have t : decide ((p : Int) ≥ (b.length : Int)) = true := decide_eq_true h1
      rw [if_pos h1]
      simp only [f29, decide_eq_false h0, cond_false, t, cond_true]
    · have hp : p < b.length := by omega
      have t : decide ((p : Int) ≥ (b.length : Int)) = false := decide_eq_false (by omega)
      have hc := hb.get hp
      rw [if_neg h1]
      simp only [Int.toNat_natCast, getD_get hp]
      generalize hn : idLen b[p] = n
      have h63 := f63_v hc.1 hc.2
      rw [hn] at h63
      have h4 : n ≤ 4 := by rw [← hn]; exact idLen_range _
      by_cases z : n = 0
      · refine h63.imp fun k h63 R K => ?_
        rw [if_pos z]
        subst z
        simp only [f29, decide_eq_false h0, cond_false, t, inb_nat, hp, decide_true, cond_true, Int.toNat_natCast, getD_get hp, h63]
        rfl
      · rw [if_neg z]
        have zz : ((n : Int) == 0) = false := by rw [beq_dec]; exact decide_eq_false (by omega)
        by_cases sh : b.length - p < n
        · refine h63.imp fun k h63 R K => ?_
          rw [if_pos sh]
          simp only [f29, decide_eq_false h0, cond_false, t, inb_nat, hp, decide_true, cond_true, Int.toNat_natCast, getD_get hp, h63, zz, f64_short b hl (show 1 ≤ n by omega) (show n ≤ 8 by omega) (show p ≤ b.length by omega) sh]
          rfl
        · rw [if_neg sh]
          have mk := marked_id hb hp hn (by omega) (by omega)
          have nb := numB_bound hb (at_ := p) (n := n) (by omega)
          have big : ¬ 9223372036854775807 < numB b p n := by
            have := mk.2
            have e : n = 1 ∨ n = 2 ∨ n = 3 ∨ n = 4 := by omega
            rcases e with rfl | rfl | rfl | rfl <;> simp at this <;> omega
          refine h63.imp2 (f64_v b hb hl (show 1 ≤ n by omega) (show n ≤ 8 by omega) (show p + n ≤ b.length by omega)) fun k h63 h64 R K => ?_
          simp only [f29, decide_eq_false h0, cond_false, t, inb_nat, hp, decide_true, cond_true, Int.toNat_natCast, getD_get hp, h63, zz, h64, if_neg big]
          simp only [f60_v (show 1 ≤ n by omega) h4 mk]
          cases isIdB (numB b p n) n with
          | true => simp
          | false => simp

theorem f30_loop (b : List Int) (hb : okBy b) (hl : b.length ≤ reachBytes) {at_ n : Nat} (h4 : n ≤ 4) (h : at_ + n ≤ b.length) : ∀ i, i ≤ n → Ev fun k => ∀ (R : Type) (v : Int) (X : Int → Int → Option R), 0 ≤ v → v < 256 ^ i → f30_l12 k b (at_ : Int) (n : Int) v (i : Int) X = X (n : Int) (valF (((b.drop at_).take n).drop i) v) := by
  rw [reachV] at hl
  have el : ((b.drop at_).take n).length = n := by simp; omega
  refine Ev.down n ?_ ?_
  · exact Ev.suc (.all fun k R v X _ _ => by
      have e : ((b.drop at_).take n).drop n = [] := List.drop_eq_nil_of_le (by omega)
      simp [f30_l12, valF, e])
  · intro i hi hh
    refine Ev.suc (hh.imp fun k hk R v X h0 h1 => ?_)
    have hi2 : at_ + i < b.length := by omega
    have hc := hb.get hi2
    have hp : (256 : Int) ^ i ≤ 16777216 := by
      have h2 : (256 : Nat) ^ i ≤ 16777216 := Nat.le_trans (Nat.pow_le_pow_right (by decide) (show i ≤ 3 by omega)) (by decide)
      have e : ((256 ^ i : Nat) : Int) = (256 : Int) ^ i := Int.natCast_pow 256 i
      omega
    have w1 : IntKind.i64.wrap ((at_ : Int) + (i : Int)) = ((at_ + i : Nat) : Int) := by rw [wrap64 (by omega) (by omega)]; omega
    have w2 : IntKind.i64.wrap (v * 256) = v * 256 := wrap64 (by omega) (by omega)
    have w3 : IntKind.i64.wrap b[at_ + i] = b[at_ + i] := wrap64 (by omega) (by omega)
    have w4 : IntKind.i64.wrap (v * 256 + b[at_ + i]) = v * 256 + b[at_ + i] := wrap64 (by omega) (by omega)
    have ed : ((b.drop at_).take n).drop i = b[at_ + i] :: ((b.drop at_).take n).drop (i + 1) := by
      rw [List.drop_eq_getElem_cons (by omega)]
      congr 1
      simp
    rw [f30_l12, lt_nat, w1, inb_nat, wrapSuc (by omega)]
    simp only [hi, hi2, decide_true, cond_true, Int.toNat_natCast, getD_get hi2, w2, w3, w4]
    have hv : v * 256 + b[at_ + i] < 256 ^ (i + 1) := by
      rw [Int.pow_succ]; omega
    rw [hk R _ X (by omega) hv, ed, valF_cons]

theorem f30_v (b : List Int) (hb : okBy b) (hl : b.length ≤ reachBytes) (at_ : Int) : Ev fun k => ∀ (R : Type) (K : Int → Int → Int → Option R), f30 k b at_ K = K (idR b at_).1 (idR b at_).2.1 (idR b at_).2.2 := by
  have hl' := hl
  rw [reachV] at hl'
  unfold idR
  by_cases h0 : at_ < 0
  · refine .all fun k R K => ?_
    rw [if_pos h0]; simp [f30, h0]
  · obtain ⟨p, rfl⟩ : ∃ p : Nat, at_ = p := ⟨at_.toNat, by omega⟩
    rw [if_neg h0]
    by_cases h1 : (b.length : Int) ≤ (p : Int)
    · refine .all fun k R K => ?_
      have t : decide ((p : Int) ≥ (b.length : Int)) = true := decide_eq_true h1
      rw [if_pos h1]
      simp only [f30, decide_eq_false h0, cond_false, t, cond_true]
    · have hp : p < b.length := by omega
      have t : decide ((p : Int) ≥ (b.length : Int)) = false := decide_eq_false (by omega)
      have hc := hb.get hp
      have w1 : IntKind.i64.wrap ((b.length : Int) - (p : Int)) = ((b.length - p : Nat) : Int) := by rw [wrap64 (by omega) (by omega)]; omega
      rw [if_neg h1]
      simp only [Int.toNat_natCast, getD_get hp]
      generalize hn : idLen b[p] = n
      have h65 := f65_v hc.1 hc.2
      rw [hn] at h65
      have h4 : n ≤ 4 := by rw [← hn]; exact idLen_range _
      by_cases z : n = 0
      · refine h65.imp fun k h65 R K => ?_
        rw [if_pos z]
        subst z
        simp only [f30, decide_eq_false h0, cond_false, t, inb_nat, hp, decide_true, cond_true, Int.toNat_natCast, getD_get hp, h65]
        rfl
      · rw [if_neg z]
        have zz : ((n : Int) == 0) = false := by rw [beq_dec]; exact decide_eq_false (by omega)
        by_cases sh : b.length - p < n
        · refine h65.imp fun k h65 R K => ?_
          rw [if_pos sh]
          have t2 : decide ((n : Int) > ((b.length - p : Nat) : Int)) = true := decide_eq_true (by omega)
          simp only [f30, decide_eq_false h0, cond_false, t, inb_nat, hp, decide_true, cond_true, Int.toNat_natCast, getD_get hp, h65, zz, w1, t2]
        · rw [if_neg sh]
          have t2 : decide ((n : Int) > ((b.length - p : Nat) : Int)) = false := decide_eq_false (by omega)
          refine h65.imp3 (f30_loop b hb hl h4 (show p + n ≤ b.length by omega) 0 (by omega)) (f62_v (numB b p n) (show 1 ≤ n by omega) h4) fun k h65 hlp h62 R K => ?_
          simp only [Int.natCast_zero, List.drop_zero] at hlp
          simp only [f30, decide_eq_false h0, cond_false, t, inb_nat, hp, decide_true, cond_true, Int.toNat_natCast, getD_get hp, h65, zz, w1, t2]
          rw [hlp R 0 _ (by omega) (by decide)]
          show f62 k (numB b p n) (n : Int) _ = _
          rw [h62]
          cases isIdB (numB b p n) n with
          | true => simp [numB]
          | false => simp

theorem elementIds_plain (b : List Int) (hb : okBy b) (hl : b.length ≤ reachBytes) (at_ : Int) : ∃ k, f7 (R := Bool) k b at_ some = some true := by
  refine Ev.some ?_
  refine (f29_v b hb hl at_).imp3 (f30_v b hb hl at_) awake_v fun k h1 h2 h3 => ?_
  simp only [f7, h1, h2, h3, beq_self_eq_true, cond_true]
end Go.Proofs.Ytklhjegfkpmdoaa

/-! Numbers of variable length, read. -/
namespace Go.Proofs.Ytklhjegfkpmdoaa
open Go Go.Am

/-- How many bytes a number has that begins with c. -/
def vsz (c : Nat) : Nat := if 128 ≤ c then 1 else if 64 ≤ c then 2 else if 32 ≤ c then 3 else if 16 ≤ c then 4 else if 8 ≤ c then 5 else if 4 ≤ c then 6 else if 2 ≤ c then 7 else 8
theorem vsz_range (c : Nat) : 1 ≤ vsz c ∧ vsz c ≤ 8 := by
  unfold vsz
  repeat' split
  all_goals omega

def chkC (c : Nat) : Bool :=
  c == 0 || (decide (inb (c : Int) lit2.size = true ∧ IntKind.i64.wrap (IntKind.i64.wrap (8 - IntKind.i64.wrap (((lit2.data.toList.getD (c : Int).toNat 0).toNat : Int))) + 1) = (vsz c : Int) ∧
    andI .i64 (IntKind.i64.wrap (c : Int)) (shrI .i64 255 (vsz c : Int)) = (c : Int) - 2 ^ (8 - vsz c) ∧ IntKind.i64.wrap (IntKind.i64.wrap (c : Int) - shlI .i64 1 (IntKind.u64.wrap (IntKind.i64.wrap (8 - (vsz c : Int))))) = (c : Int) - 2 ^ (8 - vsz c) ∧
    (c : Int) < 2 ^ (9 - vsz c) ∧ (2 : Int) ^ (8 - vsz c) ≤ c))
theorem chk_all : (List.range 256).all chkC = true := by kernel_rfl
def chkN (c n : Nat) : Bool := decide (decide (IntKind.u64.wrap (IntKind.i64.wrap (8 - (n : Int))) < 0) = false ∧ (shrI .u8 (c : Int) (IntKind.u64.wrap (IntKind.i64.wrap (8 - (n : Int)))) == 0) = decide (n < vsz c))
theorem chkN_all : (List.range 256).all (fun c => c == 0 || (List.range 9).all fun n => n == 0 || chkN c n) = true := by kernel_rfl
theorem chk_of {c : Nat} (h : 0 < c) (h' : c < 256) : inb (c : Int) lit2.size = true ∧ IntKind.i64.wrap (IntKind.i64.wrap (8 - IntKind.i64.wrap (((lit2.data.toList.getD (c : Int).toNat 0).toNat : Int))) + 1) = (vsz c : Int) ∧
    andI .i64 (IntKind.i64.wrap (c : Int)) (shrI .i64 255 (vsz c : Int)) = (c : Int) - 2 ^ (8 - vsz c) ∧ IntKind.i64.wrap (IntKind.i64.wrap (c : Int) - shlI .i64 1 (IntKind.u64.wrap (IntKind.i64.wrap (8 - (vsz c : Int))))) = (c : Int) - 2 ^ (8 - vsz c) ∧
    (c : Int) < 2 ^ (9 - vsz c) ∧ (2 : Int) ^ (8 - vsz c) ≤ c := by
  have := List.all_eq_true.1 chk_all c (by simpa using h')
  unfold chkC at this
  simp only [Bool.or_eq_true] at this
  rcases this with h1 | h1
  · simp at h1; omega
  · exact of_decide_eq_true h1
theorem chkN_of {c n : Nat} (h : 0 < c) (h' : c < 256) (hn : 1 ≤ n) (hn' : n ≤ 8) : decide (IntKind.u64.wrap (IntKind.i64.wrap (8 - (n : Int))) < 0) = false ∧ (shrI .u8 (c : Int) (IntKind.u64.wrap (IntKind.i64.wrap (8 - (n : Int)))) == 0) = decide (n < vsz c) := by
  have := List.all_eq_true.1 chkN_all c (by simpa using h')
  simp only [Bool.or_eq_true] at this
  rcases this with h1 | h1
  · simp at h1; omega
  · have := List.all_eq_true.1 h1 n (by simp; omega)
    simp only [Bool.or_eq_true] at this
    rcases this with h2 | h2
    · simp at h2; omega
    · unfold chkN at h2
      exact of_decide_eq_true h2

/-- Bytes. -/
theorem or_byte {a c : Int} (h : 0 ≤ a) (h' : a < 36028797018963968) (hc : 0 ≤ c) (hc' : c < 256) : orI .i64 (shlI .i64 a 8) (IntKind.i64.wrap c) = a * 256 + c := by
  obtain ⟨n, rfl⟩ : ∃ n : Nat, a = n := ⟨a.toNat, by omega⟩
  obtain ⟨m, rfl⟩ : ∃ n : Nat, c = n := ⟨c.toNat, by omega⟩
  have s : shlI .i64 (n : Int) 8 = ((256 * n : Nat) : Int) := by
    have : (min (8 : Int).toNat IntKind.i64.bits) = 8 := rfl
    unfold shlI
    rw [this]
    have e : (n : Int) * 2 ^ 8 = ((256 * n : Nat) : Int) := by
      have : (2 : Int) ^ 8 = 256 := by decide
      rw [this]; omega
    rw [e, wrap64 (by omega) (by omega)]
  have w : IntKind.i64.wrap (m : Int) = m := wrap64 (by omega) (by omega)
  rw [w, s]
  have e1 : (BitVec.ofInt IntKind.i64.bits ((256 * n : Nat) : Int)).toNat = 256 * n := ofInt_nat (by omega)
  have e2 : (BitVec.ofInt IntKind.i64.bits (m : Int)).toNat = m := ofInt_nat (by omega)
  unfold orI
  rw [BitVec.toNat_or, e1, e2]
  have e3 : 256 * n = 2 ^ 8 * n := rfl
  rw [e3, ← Nat.two_pow_add_eq_or_of_lt (i := 8) (by omega) n]
  have e4 : 2 ^ 8 * n + m = 256 * n + m := rfl
  rw [e4, wrap64 (by omega) (by omega)]
  omega

/-- What a number of m bytes more is below, behind i of them. -/
def capN (m i : Nat) : Nat := 2 ^ (7 - m) * 256 ^ i
theorem cap_small : ∀ m, m < 8 → ∀ i, i < m → capN m i ≤ 281474976710656 := by decide
theorem cap_step {m i : Nat} {v c : Int} (h : v < capN m i) (hc' : c < 256) : v * 256 + c < capN m (i + 1) := by
  have e : capN m (i + 1) = capN m i * 256 := by unfold capN; rw [Nat.pow_succ, Nat.mul_assoc]
  rw [e]; omega

theorem f107_loop (n : Int) (l : List Int) (hl : okBy l) (h7 : l.length ≤ 7) : ∀ i, i ≤ l.length → Ev fun k => ∀ (R : Type) (v : Int) (X : Int → Int → Option R), 0 ≤ v → v < capN l.length i →
    f107_l12 k v n l (l.length : Int) (i : Int) X = X (valF (l.drop i) v) n := by
  refine Ev.down l.length ?_ ?_
  · exact Ev.suc (.all fun k R v X _ _ => by simp [f107_l12, valF])
  · intro i hi h
    refine Ev.suc (h.imp fun k h R v X h0 hb => ?_)
    have hc := hl _ (List.getElem_mem hi)
    have hs := cap_small l.length (by omega) i hi
    rw [f107_l12, lt_nat, inb_nat, wrapSuc (by omega)]
    simp only [hi, decide_true, cond_true, Int.toNat_natCast, getD_get hi]
    rw [or_byte h0 (by omega) hc.1 hc.2, h R _ X (by omega) (cap_step hb hc.2), List.drop_eq_getElem_cons hi]
    rfl

theorem al1 (k : Nat) (R : Type) (K : Int → Option R) : f82 k ((1 : Nat) : Int) K = K (2 ^ (7 * 1) - 1) := by kernel_rfl
theorem mo1 (k : Nat) (R : Type) (K : Int → Option R) : f85 k ((1 : Nat) : Int) K = K (2 ^ (7 * 1) - 1) := by kernel_rfl
theorem al2 (k : Nat) (R : Type) (K : Int → Option R) : f82 k ((2 : Nat) : Int) K = K (2 ^ (7 * 2) - 1) := by kernel_rfl
theorem mo2 (k : Nat) (R : Type) (K : Int → Option R) : f85 k ((2 : Nat) : Int) K = K (2 ^ (7 * 2) - 1) := by kernel_rfl
theorem al3 (k : Nat) (R : Type) (K : Int → Option R) : f82 k ((3 : Nat) : Int) K = K (2 ^ (7 * 3) - 1) := by kernel_rfl
theorem mo3 (k : Nat) (R : Type) (K : Int → Option R) : f85 k ((3 : Nat) : Int) K = K (2 ^ (7 * 3) - 1) := by kernel_rfl
theorem al4 (k : Nat) (R : Type) (K : Int → Option R) : f82 k ((4 : Nat) : Int) K = K (2 ^ (7 * 4) - 1) := by kernel_rfl
theorem mo4 (k : Nat) (R : Type) (K : Int → Option R) : f85 k ((4 : Nat) : Int) K = K (2 ^ (7 * 4) - 1) := by kernel_rfl
theorem al5 (k : Nat) (R : Type) (K : Int → Option R) : f82 k ((5 : Nat) : Int) K = K (2 ^ (7 * 5) - 1) := by kernel_rfl
theorem mo5 (k : Nat) (R : Type) (K : Int → Option R) : f85 k ((5 : Nat) : Int) K = K (2 ^ (7 * 5) - 1) := by kernel_rfl
theorem al6 (k : Nat) (R : Type) (K : Int → Option R) : f82 k ((6 : Nat) : Int) K = K (2 ^ (7 * 6) - 1) := by kernel_rfl
theorem mo6 (k : Nat) (R : Type) (K : Int → Option R) : f85 k ((6 : Nat) : Int) K = K (2 ^ (7 * 6) - 1) := by kernel_rfl
theorem al7 (k : Nat) (R : Type) (K : Int → Option R) : f82 k ((7 : Nat) : Int) K = K (2 ^ (7 * 7) - 1) := by kernel_rfl
theorem mo7 (k : Nat) (R : Type) (K : Int → Option R) : f85 k ((7 : Nat) : Int) K = K (2 ^ (7 * 7) - 1) := by kernel_rfl
theorem al8 (k : Nat) (R : Type) (K : Int → Option R) : f82 k ((8 : Nat) : Int) K = K (2 ^ (7 * 8) - 1) := by kernel_rfl
theorem mo8 (k : Nat) (R : Type) (K : Int → Option R) : f85 k ((8 : Nat) : Int) K = K (2 ^ (7 * 8) - 1) := by kernel_rfl
theorem allN (n : Nat) (h : 1 ≤ n) (h' : n ≤ 8) (k : Nat) (R : Type) (K : Int → Option R) : f82 k (n : Int) K = K (2 ^ (7 * n) - 1) := by
  have : n = 1 ∨ n = 2 ∨ n = 3 ∨ n = 4 ∨ n = 5 ∨ n = 6 ∨ n = 7 ∨ n = 8 := by omega
  rcases this with rfl | rfl | rfl | rfl | rfl | rfl | rfl | rfl
  · exact al1 k R K
  · exact al2 k R K
  · exact al3 k R K
  · exact al4 k R K
  · exact al5 k R K
  · exact al6 k R K
  · exact al7 k R K
  · exact al8 k R K
theorem mostN (n : Nat) (h : 1 ≤ n) (h' : n ≤ 8) (k : Nat) (R : Type) (K : Int → Option R) : f85 k (n : Int) K = K (2 ^ (7 * n) - 1) := by
  have : n = 1 ∨ n = 2 ∨ n = 3 ∨ n = 4 ∨ n = 5 ∨ n = 6 ∨ n = 7 ∨ n = 8 := by omega
  rcases this with rfl | rfl | rfl | rfl | rfl | rfl | rfl | rfl
  · exact mo1 k R K
  · exact mo2 k R K
  · exact mo3 k R K
  · exact mo4 k R K
  · exact mo5 k R K
  · exact mo6 k R K
  · exact mo7 k R K
  · exact mo8 k R K

/-- What a number of variable length is, that is read at a place: value, bytes, unknown, error. -/
def readV (b : List Int) (at_ : Nat) : Int × Int × Bool × Int :=
  if h : at_ < b.length then
    if b[at_] = 0 then (0, 0, false, 4)
    else if b.length - at_ < vsz b[at_].toNat then (0, 0, false, 3)
    else
      let v := valF ((b.drop (at_ + 1)).take (vsz b[at_].toNat - 1)) (b[at_] - 2 ^ (8 - vsz b[at_].toNat))
      if v = 2 ^ (7 * vsz b[at_].toNat) - 1 then (0, vsz b[at_].toNat, true, 0) else (v, vsz b[at_].toNat, false, 0)
  else (0, 0, false, 3)

theorem wrapAdd {a b : Nat} (h : a + b < 9223372036854775808) : IntKind.i64.wrap ((a : Int) + (b : Int)) = ((a + b : Nat) : Int) := by
  rw [wrap64 (by omega) (by omega)]; omega
theorem wrapSub {a b : Nat} (h : b ≤ a) (h' : a < 9223372036854775808) : IntKind.i64.wrap ((a : Int) - (b : Int)) = ((a - b : Nat) : Int) := by
  rw [wrap64 (by omega) (by omega)]; omega
theorem readV_zero {b : List Int} {at_ : Nat} (h : at_ < b.length) (hz : b[at_] = 0) : readV b at_ = (0, 0, false, 4) := by
  unfold readV; rw [dif_pos h, if_pos hz]
theorem readV_short {b : List Int} {at_ c : Nat} (h : at_ < b.length) (hce : b[at_] = (c : Int)) (hz : c ≠ 0) (hs : b.length - at_ < vsz c) : readV b at_ = (0, 0, false, 3) := by
  have tn : b[at_].toNat = c := by omega
  unfold readV; rw [dif_pos h, if_neg (by omega), tn, if_pos hs]
theorem readV_val {b : List Int} {at_ c : Nat} (h : at_ < b.length) (hce : b[at_] = (c : Int)) (hz : c ≠ 0) (hs : ¬ b.length - at_ < vsz c) :
    readV b at_ = if valF ((b.drop (at_ + 1)).take (vsz c - 1)) ((c : Int) - 2 ^ (8 - vsz c)) = 2 ^ (7 * vsz c) - 1 then (0, (vsz c : Int), true, 0) else (valF ((b.drop (at_ + 1)).take (vsz c - 1)) ((c : Int) - 2 ^ (8 - vsz c)), (vsz c : Int), false, 0) := by
  have tn : b[at_].toNat = c := by omega
  unfold readV; rw [dif_pos h, if_neg (by omega), tn, if_neg hs, hce]
theorem readV_end {b : List Int} {at_ : Nat} (h : ¬ at_ < b.length) : readV b at_ = (0, 0, false, 3) := by
  unfold readV; rw [dif_neg h]

theorem cap_first {c : Nat} (h : 0 < c) (h' : c < 256) : 0 ≤ (c : Int) - 2 ^ (8 - vsz c) ∧ (c : Int) - 2 ^ (8 - vsz c) < capN (vsz c - 1) 0 := by
  obtain ⟨_, _, _, _, q5, q6⟩ := chk_of h h'
  have hv := vsz_range c
  have e : capN (vsz c - 1) 0 = 2 ^ (8 - vsz c) := by
    have : 7 - (vsz c - 1) = 8 - vsz c := by omega
    unfold capN; rw [Nat.pow_zero, Nat.mul_one, this]
  have e2 : (2 : Int) ^ (9 - vsz c) = 2 ^ (8 - vsz c) * 2 := by
    have : 9 - vsz c = (8 - vsz c) + 1 := by omega
    rw [this, Int.pow_succ]
  rw [e2] at q5
  rw [e]
  have e3 : (((2 : Nat) ^ (8 - vsz c) : Nat) : Int) = 2 ^ (8 - vsz c) := by simp
  rw [e3]
  generalize (2 : Int) ^ (8 - vsz c) = p at *
  omega

theorem f107_v (b : List Int) (hb : okBy b) (hl : b.length ≤ reachBytes) (at_ : Nat) (hat : at_ ≤ reachBytes) : Ev fun k => ∀ (R : Type) (K : Int → Int → Bool → Int → Option R), f107 k b (at_ : Int) K = K (readV b at_).1 (readV b at_).2.1 (readV b at_).2.2.1 (readV b at_).2.2.2 := by
  rw [reachV] at hl hat
  have n0 : decide ((at_ : Int) < 0) = false := by simp
  by_cases h : at_ < b.length
  · have g0 : decide ((at_ : Int) ≥ (b.length : Int)) = false := by simp; omega
    have hc := hb _ (List.getElem_mem h)
    obtain ⟨c, hce⟩ : ∃ c : Nat, b[at_] = (c : Int) := ⟨b[at_].toNat, by omega⟩
    have hc' : c < 256 := by omega
    by_cases hz : c = 0
    · refine .all fun k R K => ?_
      have hz : b[at_] = 0 := by omega
      have e0 : ((b[at_] == 0) = true) := by simp [hz]
      simp only [f107, n0, g0, inb_nat, h, decide_true, cond_true, cond_false, Int.toNat_natCast, getD_get h, e0]
      rw [readV_zero h hz]
    · have e0c : (((c : Nat) : Int) == 0) = false := by simp; exact hz
      obtain ⟨q1, q2, q3, _, _, _⟩ := chk_of (c := c) (by omega) hc'
      rw [inb_nat] at q1
      simp only [Int.toNat_natCast] at q2
      have hv := vsz_range c
      have wl := wrapSub (a := b.length) (b := at_) (by omega) (by omega)
      by_cases hs : b.length - at_ < vsz c
      · refine .all fun k R K => ?_
        have t1 : decide (((b.length - at_ : Nat) : Int) < (vsz c : Int)) = true := by rw [lt_nat]; simp [hs]
        simp only [f107, f111, f112, n0, g0, inb_nat, h, decide_true, cond_true, cond_false, Int.toNat_natCast, getD_get h, hce, e0c, q1]
        rw [q2, wl, t1, readV_short h hce hz hs]; rfl
      · have hll : ((b.take (at_ + vsz c)).drop (at_ + 1)).length = vsz c - 1 := by simp; omega
        have heq : (b.take (at_ + vsz c)).drop (at_ + 1) = (b.drop (at_ + 1)).take (vsz c - 1) := by
          have : at_ + vsz c - (at_ + 1) = vsz c - 1 := by omega
          rw [List.drop_take, this]
        have cp := cap_first (c := c) (by omega) hc'
        refine (f107_loop (vsz c : Int) ((b.take (at_ + vsz c)).drop (at_ + 1)) ((hb.take _).drop _) (by omega) 0 (by omega)).imp fun k hk R K => ?_
        simp only [Int.natCast_zero, List.drop_zero] at hk
        have t1 : decide (((b.length - at_ : Nat) : Int) < (vsz c : Int)) = false := by rw [lt_nat]; simp; omega
        have t2 : decide ((vsz c : Int) < 0) = false := by simp
        have wa := wrapAdd (a := at_) (b := vsz c) (by omega)
        have ws := wrapSuc (n := at_) (by omega)
        have t3 : decide (0 ≤ ((at_ + 1 : Nat) : Int)) = true := by simp; omega
        have t4 : decide (((at_ + 1 : Nat) : Int) ≤ ((at_ + vsz c : Nat) : Int)) = true := by simp; omega
        simp only [f107, f111, f112, n0, g0, inb_nat, h, decide_true, cond_true, cond_false, Int.toNat_natCast, getD_get h, hce, e0c, q1]
        simp only [q2, q3, wl, t1, t2, wa, ws, upto_nat, show at_ + vsz c ≤ b.length by omega, t3, t4, decide_true, Bool.and_self, cond_true, cond_false, Int.toNat_natCast]
        rw [hll] at hk ⊢
        rw [hk R _ _ cp.1 cp.2, allN _ hv.1 hv.2, heq, beq_dec, readV_val h hce hz hs]
        by_cases hu : valF ((b.drop (at_ + 1)).take (vsz c - 1)) ((c : Int) - 2 ^ (8 - vsz c)) = 2 ^ (7 * vsz c) - 1
        · rw [if_pos hu, decide_eq_true hu]; rfl
        · rw [if_neg hu, decide_eq_false hu]; rfl
  · refine .all fun k R K => ?_
    have g0 : decide ((at_ : Int) ≥ (b.length : Int)) = true := by simp; omega
    simp only [f107, n0, g0, cond_true, cond_false]
    rw [readV_end h]

theorem f109_size (b : List Int) (at_ c : Nat) (h : at_ < b.length) (hce : b[at_] = (c : Int)) (hc : 0 < c) (hc' : c < 256) (_hat : at_ ≤ reachBytes) : ∀ n, n ≤ vsz c → Ev fun k => ∀ (R : Type) (X : List Int → Int → Int → Option R), 1 ≤ n → f109_l8 k b (at_ : Int) (n : Int) X = X b (at_ : Int) (vsz c : Int) := by
  have hv := vsz_range c
  refine Ev.down (vsz c) ?_ ?_
  · refine Ev.suc (.all fun k R X h1 => ?_)
    obtain ⟨t1, t2⟩ := chkN_of hc hc' hv.1 hv.2
    have t3 : decide (vsz c < vsz c) = false := by simp
    rw [f109_l8, inb_nat]
    simp only [h, decide_true, cond_true, Int.toNat_natCast, getD_get h, hce]
    rw [t1, t2, t3]; rfl
  · intro n hn hh
    refine Ev.suc (hh.imp fun k hk R X h1 => ?_)
    obtain ⟨t1, t2⟩ := chkN_of hc hc' (n := n) h1 (by omega)
    have t3 : decide (n < vsz c) = true := by simp [hn]
    rw [f109_l8, inb_nat, wrapSuc (by omega)]
    simp only [h, decide_true, cond_true, Int.toNat_natCast, getD_get h, hce]
    rw [t1, t2, t3, cond_false, cond_true, hk R X (by omega)]

theorem f109_fold (b : List Int) (hb : okBy b) (hl : b.length ≤ reachBytes) (at_ n : Nat) (hn : 1 ≤ n) (hn' : n ≤ 8) (hat : at_ + n ≤ b.length) : ∀ i, i ≤ n → Ev fun k => ∀ (R : Type) (v : Int) (X : Int → Int → Option R), 1 ≤ i → 0 ≤ v → v < capN (n - 1) (i - 1) →
    f109_l14 k b (at_ : Int) (n : Int) v (i : Int) X = X (n : Int) (valF ((b.drop (at_ + i)).take (n - i)) v) := by
  rw [reachV] at hl
  refine Ev.down n ?_ ?_
  · refine Ev.suc (.all fun k R v X _ _ _ => ?_)
    have : decide ((n : Int) < (n : Int)) = false := by simp
    rw [f109_l14, this]; simp [valF]
  · intro i hi hh
    refine Ev.suc (hh.imp fun k hk R v X h1 h0 hv => ?_)
    have hi' : at_ + i < b.length := by omega
    have hc := hb _ (List.getElem_mem hi')
    have hs := cap_small (n - 1) (by omega) (i - 1) (by omega)
    have w1 := wrapAdd (a := at_) (b := i) (by omega)
    have w2 : IntKind.i64.wrap (v * 256) = v * 256 := wrap64 (by omega) (by omega)
    have w3 : IntKind.i64.wrap b[at_ + i] = b[at_ + i] := wrap64 (by omega) (by omega)
    have w4 : IntKind.i64.wrap (v * 256 + b[at_ + i]) = v * 256 + b[at_ + i] := wrap64 (by omega) (by omega)
    have cs := cap_step hv hc.2
    have e1 : i - 1 + 1 = i + 1 - 1 := by omega
    rw [e1] at cs
    rw [f109_l14, lt_nat, w1, inb_nat, wrapSuc (by omega)]
    simp only [hi, hi', decide_true, cond_true, Int.toNat_natCast, getD_get hi']
    rw [w2, w3, w4, hk R _ X (by omega) (by omega) cs]
    have e2 : n - i = (n - (i + 1)) + 1 := by omega
    rw [List.drop_eq_getElem_cons hi', e2, List.take_succ_cons]
    rfl

theorem f109_v (b : List Int) (hb : okBy b) (hl : b.length ≤ reachBytes) (at_ : Nat) (hat : at_ ≤ reachBytes) : Ev fun k => ∀ (R : Type) (K : Int → Int → Bool → Int → Option R), f109 k b (at_ : Int) K = K (readV b at_).1 (readV b at_).2.1 (readV b at_).2.2.1 (readV b at_).2.2.2 := by
  have hl0 := hl
  have hat0 := hat
  rw [reachV] at hl hat
  have n0 : decide ((at_ : Int) < 0) = false := by simp
  by_cases h : at_ < b.length
  · have g0 : decide ((at_ : Int) ≥ (b.length : Int)) = false := by simp; omega
    have hc := hb _ (List.getElem_mem h)
    obtain ⟨c, hce⟩ : ∃ c : Nat, b[at_] = (c : Int) := ⟨b[at_].toNat, by omega⟩
    have hc' : c < 256 := by omega
    by_cases hz : c = 0
    · refine .all fun k R K => ?_
      have hz : b[at_] = 0 := by omega
      have e0 : ((b[at_] == 0) = true) := by simp [hz]
      simp only [f109, n0, g0, inb_nat, h, decide_true, cond_true, cond_false, Int.toNat_natCast, getD_get h, e0]
      rw [readV_zero h hz]
    · have e0c : (((c : Nat) : Int) == 0) = false := by simp; exact hz
      obtain ⟨_, _, _, q4, _, _⟩ := chk_of (c := c) (by omega) hc'
      have hv := vsz_range c
      obtain ⟨t1, _⟩ := chkN_of (c := c) (by omega) hc' hv.1 hv.2
      have hsz := f109_size b at_ c h hce (by omega) hc' hat0 1 hv.1
      by_cases hs : b.length - at_ < vsz c
      · refine hsz.imp fun k hk R K => ?_
        have t2 : decide ((at_ : Int) > IntKind.i64.wrap ((b.length : Int) - (vsz c : Int))) = true := by
          rw [wrap64 (by omega) (by omega)]; simp; omega
        have hk := fun X => hk R X (by omega)
        simp only [Int.natCast_one] at hk
        simp only [f109, n0, g0, inb_nat, h, decide_true, cond_true, cond_false, Int.toNat_natCast, getD_get h, hce, e0c]
        rw [hk, t2, readV_short h hce hz hs]; rfl
      · have cp := cap_first (c := c) (by omega) hc'
        have hcap : (c : Int) - 2 ^ (8 - vsz c) < capN (vsz c - 1) (1 - 1) := cp.2
        refine hsz.imp2 (f109_fold b hb hl0 at_ (vsz c) hv.1 hv.2 (by omega) 1 hv.1) fun k hk hf R K => ?_
        have t2 : decide ((at_ : Int) > IntKind.i64.wrap ((b.length : Int) - (vsz c : Int))) = false := by
          rw [wrap64 (by omega) (by omega)]; simp; omega
        have hk := fun X => hk R X (by omega)
        simp only [Int.natCast_one] at hk hf
        simp only [f109, n0, g0, inb_nat, h, decide_true, cond_true, cond_false, Int.toNat_natCast, getD_get h, hce, e0c]
        rw [hk, t2, cond_false, inb_nat]
        simp only [h, decide_true, cond_true, Int.toNat_natCast, getD_get h, hce]
        rw [t1, cond_false, q4, hf R _ _ (by omega) cp.1 hcap, mostN _ hv.1 hv.2, beq_dec, readV_val h hce hz hs]
        by_cases hu : valF ((b.drop (at_ + 1)).take (vsz c - 1)) ((c : Int) - 2 ^ (8 - vsz c)) = 2 ^ (7 * vsz c) - 1
        · rw [if_pos hu, decide_eq_true hu]; rfl
        · rw [if_neg hu, decide_eq_false hu]; rfl
  · refine .all fun k R K => ?_
    have g0 : decide ((at_ : Int) ≥ (b.length : Int)) = true := by simp; omega
    simp only [f109, n0, g0, cond_true, cond_false]
    rw [readV_end h]
theorem valF_nn {l : List Int} (hl : okBy l) : ∀ {v : Int}, 0 ≤ v → 0 ≤ valF l v := by
  induction l with
  | nil => exact fun h => h
  | cons c l ih =>
    intro v h
    have := hl c (by simp)
    exact ih (fun n hn => hl n (by simp [hn])) (v := v * 256 + c) (by omega)
theorem valF_lt {m : Nat} : ∀ {l : List Int}, okBy l → ∀ {i : Nat} {v : Int}, v < capN m i → valF l v < capN m (i + l.length)
  | [], _, i, v, h => h
  | c :: l, hl, i, v, h => by
    have := cap_step h (hl c (by simp)).2
    have := valF_lt (l := l) (fun n hn => hl n (by simp [hn])) this
    have e : i + 1 + l.length = i + (c :: l).length := by simp; omega
    rw [e] at this
    exact this
theorem cap_end : ∀ m, m < 8 → capN m m = 2 ^ (7 * (m + 1)) := by decide
theorem cap_big : ∀ m, m < 8 → capN m m ≤ 72057594037927936 := by decide

/-- What is known of a number that has been read. -/
theorem readV_ok {b : List Int} (hb : okBy b) {at_ : Nat} : 0 ≤ (readV b at_).1 ∧ (readV b at_).1 < 72057594037927936 ∧
    ((readV b at_).2.2.2 = 0 → ∃ n : Nat, (readV b at_).2.1 = n ∧ 1 ≤ n ∧ n ≤ 8 ∧ at_ + n ≤ b.length) ∧ ((readV b at_).2.2.2 = 0 ∨ (readV b at_).2.2.2 = 3 ∨ (readV b at_).2.2.2 = 4) := by
  by_cases h : at_ < b.length
  · have hc := hb _ (List.getElem_mem h)
    obtain ⟨c, hce⟩ : ∃ c : Nat, b[at_] = (c : Int) := ⟨b[at_].toNat, by omega⟩
    by_cases hz : c = 0
    · rw [readV_zero h (by omega)]; simp
    · by_cases hs : b.length - at_ < vsz c
      · rw [readV_short h hce hz hs]; simp
      · rw [readV_val h hce hz hs]
        have hv := vsz_range c
        have cp := cap_first (c := c) (by omega) (by omega)
        have n1 := valF_nn (((hb.drop (at_ + 1)).take (vsz c - 1))) cp.1
        have n2 := valF_lt (((hb.drop (at_ + 1)).take (vsz c - 1))) cp.2
        have hl : ((b.drop (at_ + 1)).take (vsz c - 1)).length = vsz c - 1 := by simp; omega
        rw [hl, Nat.zero_add] at n2
        have n3 := cap_big (vsz c - 1) (by omega)
        split
        · exact ⟨by simp, by simp, fun _ => ⟨vsz c, rfl, hv.1, hv.2, by omega⟩, .inl rfl⟩
        · exact ⟨n1, by simp only; omega, fun _ => ⟨vsz c, rfl, hv.1, hv.2, by omega⟩, .inl rfl⟩
  · rw [readV_end h]; simp

end Go.Proofs.Ytklhjegfkpmdoaa

/-! The schema: both texts have the same rows. -/
namespace Go.Proofs.Ytklhjegfkpmdoaa
open Go Go.Am

noncomputable def tabP : List D0 := (f58 (R := List D0) 0 some).getD []
noncomputable def tabR : List D0 := (f59 (R := List D0) 0 some).getD []
theorem f58_v (k : Nat) (R : Type) (K : List D0 → Option R) : f58 k K = K tabP := by kernel_rfl
theorem f59_v (k : Nat) (R : Type) (K : List D0 → Option R) : f59 k K = K tabR := by kernel_rfl
theorem tabP_len : tabP.length = 65 := by kernel_rfl
theorem tabR_len : tabR.length = 65 := by kernel_rfl
def rowAt (l : List D0) (id : Int) : Option D0 := l.find? fun s => s.1 == id
theorem tab_chk : (tabP.all fun s => decide (rowAt tabR s.1 = some s) && decide (rowAt tabP s.1 = some s)) = true := by kernel_rfl
theorem tab_chk2 : (tabR.all fun s => (rowAt tabP s.1).isSome) = true := by kernel_rfl
theorem rowAt_some {l : List D0} {id : Int} {s : D0} (h : rowAt l id = some s) : s ∈ l ∧ s.1 = id :=
  ⟨List.mem_of_find?_eq_some h, by simpa using List.find?_some h⟩
theorem tab_same (id : Int) : rowAt tabR id = rowAt tabP id := by
  cases h : rowAt tabP id with
  | some s =>
    obtain ⟨h1, rfl⟩ := rowAt_some h
    have := List.all_eq_true.1 tab_chk s h1
    simp only [Bool.and_eq_true] at this
    exact of_decide_eq_true this.1
  | none =>
    cases h' : rowAt tabR id with
    | none => rfl
    | some s =>
      obtain ⟨h1, rfl⟩ := rowAt_some h'
      have := List.all_eq_true.1 tab_chk2 s h1
      rw [h] at this; simp at this

theorem f25_loop (l : List D0) (hl : l.length = 65) (id : Int) (R : Type) : ∀ i, i ≤ l.length → Ev fun k => ∀ (a : Int) (b : ByteArray) (c : Int) (d e : Bool) (X0 : Int → ByteArray → Int → Bool → Bool → Option R) (X1 : Bool → Int → ByteArray → Int → Bool → Bool → Option R),
    f25_l2 k id l (i : Int) a b c d e X0 X1 = match rowAt (l.drop i) id with
      | some s => X1 true s.1 s.2.1 s.2.2.1 s.2.2.2.1 s.2.2.2.2
      | none => X0 a b c d e := by
  refine Ev.down l.length ?_ ?_
  · refine Ev.suc (.all fun k a b c d e X0 X1 => ?_)
    rw [List.drop_length, f25_l2, hl]; rfl
  · intro i hi h
    refine Ev.suc (h.imp fun k hk a b c d e X0 X1 => ?_)
    rw [List.drop_eq_getElem_cons hi, f25_l2, wrapSuc (by omega)]
    simp (disch := omega) only [deT, inT, inb_nat, hi, cond_true, Bool.and_self, Int.toNat_natCast, getD_get hi, decide_true]
    unfold rowAt
    rw [List.find?_cons]
    cases hb : (l[i].1 == id) with
    | true => rfl
    | false => simp only [cond_false]; exact hk a b c d e X0 X1
theorem f26_loop (l : List D0) (hl : l.length = 65) (id : Int) (R : Type) : ∀ i, i ≤ l.length → Ev fun k => ∀ (a : Int) (b : ByteArray) (c : Int) (d e : Bool) (X0 : Int → ByteArray → Int → Bool → Bool → Option R) (X1 : Bool → Int → ByteArray → Int → Bool → Bool → Option R),
    f26_l3 k id (i : Int) a b c d e l X0 X1 = match rowAt (l.drop i) id with
      | some s => X1 true s.1 s.2.1 s.2.2.1 s.2.2.2.1 s.2.2.2.2
      | none => X0 a b c d e := by
  refine Ev.down l.length ?_ ?_
  · refine Ev.suc (.all fun k a b c d e X0 X1 => ?_)
    rw [List.drop_length, f26_l3, hl]; rfl
  · intro i hi h
    refine Ev.suc (h.imp fun k hk a b c d e X0 X1 => ?_)
    rw [List.drop_eq_getElem_cons hi, f26_l3, wrapSuc (by omega)]
    simp (disch := omega) only [deT, inb_nat, hi, cond_true, Bool.and_self, Int.toNat_natCast, getD_get hi, decide_true]
    unfold rowAt
    rw [List.find?_cons]
    cases hb : (l[i].1 == id) with
    | true => rfl
    | false => simp only [cond_false]; exact hk a b c d e X0 X1

/-- The row of an id; zero if there is none. -/
noncomputable def rowOf (id : Int) : D0 := (rowAt tabP id).getD zero0
noncomputable def known (id : Int) : Bool := (rowAt tabP id).isSome
theorem f25_v (id : Int) (R : Type) : Ev fun k => ∀ (K : Int → ByteArray → Int → Bool → Bool → Bool → Option R), f25 k id K = K (rowOf id).1 (rowOf id).2.1 (rowOf id).2.2.1 (rowOf id).2.2.2.1 (rowOf id).2.2.2.2 (known id) :=
  (f25_loop tabP tabP_len id R 0 (by omega)).imp fun k hk K => by
    rw [Int.natCast_zero, List.drop_zero] at hk
    simp only [f25, f58_v, hk]
    unfold rowOf known
    cases rowAt tabP id <;> rfl
theorem f26_v (id : Int) (R : Type) : Ev fun k => ∀ (K : Int → ByteArray → Int → Bool → Bool → Bool → Option R), f26 k id K = K (rowOf id).1 (rowOf id).2.1 (rowOf id).2.2.1 (rowOf id).2.2.2.1 (rowOf id).2.2.2.2 (known id) :=
  (f26_loop tabR tabR_len id R 0 (by omega)).imp fun k hk K => by
    rw [Int.natCast_zero, List.drop_zero, tab_same] at hk
    simp only [f26, f59_v, hk]
    unfold rowOf known
    cases rowAt tabP id <;> rfl

/-- Every row of the schema, and the row of no id. -/
theorem row_all (p : D0 → Bool) (h : tabP.all p = true) (h0 : p zero0 = true) (id : Int) : p (rowOf id) = true := by
  unfold rowOf
  cases h1 : rowAt tabP id with
  | none => exact h0
  | some s => exact List.all_eq_true.1 h s (rowAt_some h1).1
theorem row_id {id : Int} (h : known id = true) : (rowOf id).1 = id := by
  unfold known at h; unfold rowOf
  cases h1 : rowAt tabP id with
  | none => rw [h1] at h; simp at h
  | some s => exact (rowAt_some h1).2
theorem row_none {id : Int} (h : known id = false) : rowOf id = zero0 := by
  unfold known at h; unfold rowOf
  cases h1 : rowAt tabP id with
  | none => rfl
  | some s => rw [h1] at h; simp at h
/-- May it stand there? -/
def within (s : D0) (p : Int) : Bool := s.2.2.1 == p || (s.1 == 227 && p == 227)
theorem f68_v (s : D0) (p : Int) (k : Nat) (R : Type) (K : Bool → Option R) : f68 k s.1 s.2.1 s.2.2.1 s.2.2.2.1 s.2.2.2.2 p K = K (within s p) := by
  simp only [f68, within]
  cases s.2.2.1 == p <;> cases s.1 == 227 <;> rfl
theorem chap_chk : (tabP.all fun s => (s.2.1.toList == (⟨#[67, 104, 97, 112, 116, 101, 114]⟩ : ByteArray).toList) == (s.1 == 227)) = true := by kernel_rfl
theorem f98_v (id p : Int) (k : Nat) (R : Type) (K : Bool → Option R) : f98 k (rowOf id).1 (rowOf id).2.1 (rowOf id).2.2.1 (rowOf id).2.2.2.1 (rowOf id).2.2.2.2 p K = K (within (rowOf id) p) := by
  have h := row_all (fun s => (s.2.1.toList == (⟨#[67, 104, 97, 112, 116, 101, 114]⟩ : ByteArray).toList) == (s.1 == 227)) chap_chk (by kernel_rfl) id
  simp only [f98, within]
  rw [eq_of_beq h]
  cases (rowOf id).2.2.1 == p
  · cases hb : (rowOf id).1 == 227
    · rfl
    · rw [eq_of_beq hb]; rfl
  · rfl
/-- What is passed over: an id that nobody knows, and those without a parent. -/
noncomputable def free (id : Int) : Bool := !known id || decide ((rowOf id).2.2.1 < 0)
theorem free_chk : (tabP.all fun s => (decide (s.2.2.1 < 0) == (s.1 == 236 || s.1 == 237)) && (!s.2.2.2.2 || s.2.2.2.1)) = true := by kernel_rfl
theorem free_known {id : Int} (h : known id = true) : free id = (id == 236 || id == 237) := by
  unfold free
  have h1 := row_id h
  have h2 := row_all (fun s => (s.1 == 0) || ((decide (s.2.2.1 < 0) == (s.1 == 236 || s.1 == 237)) && (!s.2.2.2.2 || s.2.2.2.1))) (by
    refine List.all_eq_true.2 fun s hs => ?_
    rw [List.all_eq_true.1 free_chk s hs]; simp) (by kernel_rfl) id
  rw [h]
  unfold known at h
  cases h3 : rowAt tabP id with
  | none => rw [h3] at h; simp at h
  | some s =>
    have h4 := List.all_eq_true.1 free_chk s (rowAt_some h3).1
    have h5 : rowOf id = s := by unfold rowOf; rw [h3]; rfl
    rw [h5] at h1 ⊢
    rw [Bool.and_eq_true] at h4
    rw [eq_of_beq h4.1, h1]; rfl
theorem open_group (id : Int) (h : (rowOf id).2.2.2.2 = true) : (rowOf id).2.2.2.1 = true := by
  have h2 := row_all (fun s => (!s.2.2.2.2 || s.2.2.2.1)) (by
    refine List.all_eq_true.2 fun s hs => ?_
    have := List.all_eq_true.1 free_chk s hs
    rw [Bool.and_eq_true] at this; exact this.2) (by kernel_rfl) id
  simpa [h] using h2
theorem known_sum : known 237 = true ∧ rowOf 237 = (237, (⟨#[83, 117, 109]⟩ : ByteArray), -1, false, false) := ⟨by kernel_rfl, by kernel_rfl⟩
theorem known_void : known 236 = true := by kernel_rfl
end Go.Proofs.Ytklhjegfkpmdoaa

/-! The check sum of bytes; the head of an element. -/
namespace Go.Proofs.Ytklhjegfkpmdoaa
open Go Go.Am

def crc1 (s : Int) : Int := bif (andI .u32 s 1) == 1 then xorI .u32 (shrI .u32 s 1) 3558460437 else shrI .u32 s 1
def crcN : Nat → Int → Int
  | 0, s => s
  | n + 1, s => crcN n (crc1 s)
def crcF (l : List Int) (s : Int) : Int := l.foldl (fun s c => crcN 8 (xorI .u32 s (IntKind.u32.wrap c))) s
theorem crcF_cons (c : Int) (l : List Int) (s : Int) : crcF (c :: l) s = crcF l (crcN 8 (xorI .u32 s (IntKind.u32.wrap c))) := rfl
def sumB (l : List Int) : Int := xorI .u32 4294967295 (crcF l 4294967295)
theorem xor_comm32 (a b : Int) : xorI .u32 a b = xorI .u32 b a := by
  unfold xorI; rw [BitVec.xor_comm]
theorem f108_bits (l : List Int) (a b : Int) (R : Type) : ∀ i : Nat, i ≤ 8 → Ev fun k => ∀ (s : Int) (X : Int → List Int → Int → Int → Option R), f108_l7 k s l a b (i : Int) X = X (crcN (8 - i) s) l a b := by
  refine Ev.down 8 ?_ ?_
  · exact Ev.suc (.all fun k s X => by simp [f108_l7, crcN])
  · intro i hi h
    refine Ev.suc (h.imp fun k hk s X => ?_)
    rw [f108_l7, wrapSuc (by omega), ifT (by omega), show 8 - i = (8 - (i + 1)) + 1 by omega, crcN, crc1]
    cases (andI .u32 s 1) == 1 <;> simp only [cond_true, cond_false, hk]
theorem f94_bits (l : List Int) (b : Int) (R : Type) : ∀ i : Nat, i ≤ 8 → Ev fun k => ∀ (s : Int) (X : List Int → Int → Int → Option R), f94_l7 k l s b (i : Int) X = X l (crcN (8 - i) s) b := by
  refine Ev.down 8 ?_ ?_
  · exact Ev.suc (.all fun k s X => by simp [f94_l7, crcN])
  · intro i hi h
    refine Ev.suc (h.imp fun k hk s X => ?_)
    rw [f94_l7, wrapSuc (by omega), ifT (by omega), show 8 - i = (8 - (i + 1)) + 1 by omega, crcN, crc1]
    cases (andI .u32 s 1) == 1 <;> simp only [cond_true, cond_false, hk]
theorem f108_loop (l : List Int) (hl : l.length ≤ reachBytes) (R : Type) : ∀ i, i ≤ l.length → Ev fun k => ∀ (s : Int) (X : Int → Option R), f108_l3 k s l (l.length : Int) (i : Int) X = X (crcF (l.drop i) s) := by
  rw [reachV] at hl
  refine Ev.down l.length ?_ ?_
  · exact Ev.suc (.all fun k s X => by simp [f108_l3, crcF])
  · intro i hi h
    refine Ev.suc (h.imp2 (f108_bits l (l.length : Int) (i : Int) R 0 (by omega)) fun k hk hb s X => ?_)
    rw [List.drop_eq_getElem_cons hi, crcF_cons, f108_l3]
    simp only [lt_nat, hi, decide_true, cond_true, inb_nat, Int.toNat_natCast, getD_get hi]
    rw [Int.natCast_zero] at hb
    rw [hb, wrapSuc (by omega), hk]
theorem f94_loop (l : List Int) (hl : l.length ≤ reachBytes) (R : Type) : ∀ i, i ≤ l.length → Ev fun k => ∀ (s : Int) (X : Int → Option R), f94_l3 k l s (i : Int) X = X (crcF (l.drop i) s) := by
  rw [reachV] at hl
  refine Ev.down l.length ?_ ?_
  · exact Ev.suc (.all fun k s X => by simp [f94_l3, crcF])
  · intro i hi h
    refine Ev.suc (h.imp2 (f94_bits l (i : Int) R 0 (by omega)) fun k hk hb s X => ?_)
    rw [List.drop_eq_getElem_cons hi, crcF_cons, f94_l3]
    simp only [lt_nat, hi, decide_true, cond_true, inb_nat, Int.toNat_natCast, getD_get hi]
    rw [Int.natCast_zero] at hb
    rw [hb, wrapSuc (by omega), hk]
theorem f108_v (l : List Int) (hl : l.length ≤ reachBytes) (R : Type) : Ev fun k => ∀ (K : Int → Option R), f108 k l K = K (sumB l) :=
  (f108_loop l hl R 0 (by omega)).imp fun k hk K => by
    rw [Int.natCast_zero, List.drop_zero] at hk
    simp only [f108, hk, sumB]
theorem f94_v (l : List Int) (hl : l.length ≤ reachBytes) (R : Type) : Ev fun k => ∀ (K : Int → Option R), f94 k l K = K (sumB l) :=
  (f94_loop l hl R 0 (by omega)).imp fun k hk K => by
    rw [Int.natCast_zero, List.drop_zero] at hk
    simp only [f94, hk, sumB, xor_comm32]

/-! the head of an element -/
inductive HR | bad (c : Int) | ok (id : Int) (hb sz : Nat) (unk : Bool)
def headR (b : List Int) (at_ : Nat) : HR :=
  if idLen (b.getD at_ 0) = 0 then .bad 40
  else if b.length ≤ at_ + idLen (b.getD at_ 0) then .bad 3
  else if isIdB (numB b at_ (idLen (b.getD at_ 0))) (idLen (b.getD at_ 0)) = false then .bad 40
  else if (readV b (at_ + idLen (b.getD at_ 0))).2.2.2 ≠ 0 then .bad (readV b (at_ + idLen (b.getD at_ 0))).2.2.2
  else .ok (numB b at_ (idLen (b.getD at_ 0))) (idLen (b.getD at_ 0) + (readV b (at_ + idLen (b.getD at_ 0))).2.1.toNat) (readV b (at_ + idLen (b.getD at_ 0))).1.toNat (readV b (at_ + idLen (b.getD at_ 0))).2.2.1

theorem readV_unk {b : List Int} {at_ : Nat} (h : (readV b at_).2.2.1 = true) : (readV b at_).1 = 0 := by
  by_cases h1 : at_ < b.length
  · unfold readV at h ⊢
    simp only [dif_pos h1] at h ⊢
    by_cases a : b[at_] = 0
    · rw [if_pos a]
    · rw [if_neg a] at h ⊢
      by_cases c : b.length - at_ < vsz b[at_].toNat
      · rw [if_pos c]
      · rw [if_neg c] at h ⊢
        by_cases d : valF (List.take (vsz b[at_].toNat - 1) (List.drop (at_ + 1) b)) (b[at_] - 2 ^ (8 - vsz b[at_].toNat)) = 2 ^ (7 * vsz b[at_].toNat) - 1
        · rw [if_pos d]
        · rw [if_neg d] at h; simp at h
  · rw [readV_end h1]
/-- What is known of a head. -/
theorem head_ok {b : List Int} (hb : okBy b) {at_ : Nat} {id : Int} {h sz : Nat} {unk : Bool} (e : headR b at_ = .ok id h sz unk) :
    2 ≤ h ∧ h ≤ 12 ∧ at_ + h ≤ b.length ∧ sz < 72057594037927936 ∧ (unk = true → sz = 0) ∧ 0 < id := by
  unfold headR at e
  split at e; · simp at e
  split at e; · simp at e
  split at e; · simp at e
  split at e; · simp at e
  have hl := idLen_range (b.getD at_ 0)
  simp only [HR.ok.injEq] at e
  obtain ⟨rfl, rfl, rfl, rfl⟩ := e
  obtain ⟨r1, r2, r3, r4⟩ := readV_ok hb (at_ := at_ + idLen (b.getD at_ 0))
  obtain ⟨n, e1, e2, e3, e4⟩ := r3 (by simpa using ‹¬ _ ≠ _›)
  have hi : isIdB (numB b at_ (idLen (b.getD at_ 0))) (idLen (b.getD at_ 0)) = true := by simpa using ‹¬ isIdB _ _ = false›
  unfold isIdB at hi
  have hi := of_decide_eq_true hi
  have hp : (0 : Int) < 2 ^ (7 * idLen (b.getD at_ 0)) := Int.pow_pos (by decide)
  refine ⟨by omega, by omega, by omega, by omega, fun hu => ?_, by omega⟩
  rw [readV_unk hu]; rfl
theorem head_bad {b : List Int} (hb : okBy b) {at_ : Nat} {c : Int} (e : headR b at_ = .bad c) : c = 40 ∨ c = 3 ∨ c = 4 := by
  unfold headR at e
  split at e; · simp at e; omega
  split at e; · simp at e; omega
  split at e; · simp at e; omega
  split at e
  · simp only [HR.bad.injEq] at e
    have := (readV_ok hb (at_ := at_ + idLen (b.getD at_ 0))).2.2.2
    omega
  · simp at e

theorem f99_2_v (b : List Int) (hb : okBy b) (hl : b.length ≤ 1048576) (at_ : Nat) (hat : at_ < b.length) (R : Type) : Ev fun k => ∀ (nd ba : Int) (pl : List D1),
    match headR b at_ with
    | .bad c => ∃ g1 g2 g3 g4, ∀ (K : Int → Int → Int → Bool → List Int → Int → Int → Int → Int → List D1 → Option R), f99_2 k b (at_ : Int) nd 0 ba pl K = K g1 g2 g3 g4 b (at_ : Int) nd c (at_ : Int) pl
    | .ok id h sz unk => ∀ (K : Int → Int → Int → Bool → List Int → Int → Int → Int → Int → List D1 → Option R), f99_2 k b (at_ : Int) nd 0 ba pl K = K id (h : Int) (sz : Int) unk b (at_ : Int) nd 0 ba pl := by
  have hc := hb.get hat
  have hgd : b.getD at_ 0 = b[at_] := getD_get hat
  have hlr : b.length ≤ reachBytes := by rw [reachV]; omega
  unfold headR
  rw [hgd]
  generalize hn : idLen b[at_] = n
  have h63 := f63_v hc.1 hc.2
  rw [hn] at h63
  have h4 : n ≤ 4 := by rw [← hn]; exact idLen_range _
  by_cases z : n = 0
  · refine h63.imp fun k h63 nd ba pl => ?_
    rw [if_pos z]; subst z
    refine ⟨0, 0, 0, false, fun K => ?_⟩
    simp (disch := omega) only [f99_2, inb_nat, hat, decide_true, cond_true, Int.toNat_natCast, getD_get hat, h63, beT, f87_2, f56_2]
  · rw [if_neg z]
    by_cases sh : b.length ≤ at_ + n
    · refine h63.imp fun k h63 nd ba pl => ?_
      rw [if_pos sh]
      refine ⟨0, 0, 0, false, fun K => ?_⟩
      simp (disch := omega) only [f99_2, inb_nat, hat, decide_true, cond_true, cond_false, Int.toNat_natCast, getD_get hat, h63, beT, beF, wr, ifT, f87_2, f56_2]
    · rw [if_neg sh]
      have mk := marked_id hb hat hn (by omega) (by omega)
      have nb := numB_bound hb (at_ := at_) (n := n) (by omega)
      have big : ¬ 9223372036854775807 < numB b at_ n := by
        have := mk.2
        have e : n = 1 ∨ n = 2 ∨ n = 3 ∨ n = 4 := by omega
        rcases e with rfl | rfl | rfl | rfl <;> simp at this <;> omega
      refine h63.imp3 (f64_v b hb hlr (show 1 ≤ n by omega) (show n ≤ 8 by omega) (show at_ + n ≤ b.length by omega)) (f107_v b hb hlr (at_ + n) (by rw [reachV]; omega)) fun k h63 h64 h107 nd ba pl => ?_
      simp only [if_neg big] at h64
      have w : IntKind.i64.wrap ((at_ : Int) + (n : Int)) = ((at_ + n : Nat) : Int) := wrapAdd (by omega)
      by_cases hi : isIdB (numB b at_ n) n = false
      · rw [if_pos hi]
        refine ⟨numB b at_ n, IntKind.i64.wrap ((n : Int) + (readV b (at_ + n)).2.1), (readV b (at_ + n)).1, (readV b (at_ + n)).2.2.1, fun K => ?_⟩
        simp (disch := omega) only [f99_2, inb_nat, hat, decide_true, cond_true, cond_false, Int.toNat_natCast, getD_get hat, h63, beT, beF, w, ifF, h64, h107, f60_v (show 1 ≤ n by omega) h4 mk, hi, Bool.not_false, f87_2, f56_2]
      · rw [if_neg hi]
        have hi : isIdB (numB b at_ n) n = true := by simpa using hi
        by_cases he : (readV b (at_ + n)).2.2.2 ≠ 0
        · rw [if_pos he]
          refine ⟨numB b at_ n, IntKind.i64.wrap ((n : Int) + (readV b (at_ + n)).2.1), (readV b (at_ + n)).1, (readV b (at_ + n)).2.2.1, fun K => ?_⟩
          simp (disch := omega) only [f99_2, inb_nat, hat, decide_true, cond_true, cond_false, Int.toNat_natCast, getD_get hat, h63, beT, beF, w, ifF, h64, h107, f60_v (show 1 ≤ n by omega) h4 mk, hi, Bool.not_true, bnT, f87_2, f56_2]
        · rw [if_neg he]
          have he : (readV b (at_ + n)).2.2.2 = 0 := by simpa using he
          obtain ⟨m, e1, e2, e3, e4⟩ := (readV_ok hb (at_ := at_ + n)).2.2.1 he
          have r1 := (readV_ok hb (at_ := at_ + n)).1
          have w2 : IntKind.i64.wrap ((n : Int) + (m : Int)) = ((n + m : Nat) : Int) := wrapAdd (by omega)
          have w3 : (readV b (at_ + n)).1 = ((readV b (at_ + n)).1.toNat : Int) := by omega
          intro K
          rw [← w3, e1, Int.toNat_natCast]
          simp (disch := omega) only [f99_2, inb_nat, hat, decide_true, cond_true, cond_false, Int.toNat_natCast, getD_get hat, h63, beT, beF, w, ifF, h64, h107, f60_v (show 1 ≤ n by omega) h4 mk, hi, Bool.not_true, bnF, he, e1, w2]

theorem f102_2_v (b : List Int) (hb : okBy b) (hl : b.length ≤ 1048576) (at_ : Nat) (hat : at_ < b.length) (R : Type) : Ev fun k => ∀ (nd ea : Int) (pl : List D1) (K : Int → Int → Int → Bool → Bool → List Int → Int → Int → Int → List D1 → Option R),
    match headR b at_ with
    | .bad c => f102_2 k (at_ : Int) b nd 0 ea pl K = K 0 0 0 false false b nd c (at_ : Int) pl
    | .ok id h sz unk => f102_2 k (at_ : Int) b nd 0 ea pl K = K id (h : Int) (sz : Int) unk true b nd 0 ea pl := by
  have hc := hb.get hat
  have hgd : b.getD at_ 0 = b[at_] := getD_get hat
  have hlr : b.length ≤ reachBytes := by rw [reachV]; omega
  have h30 := f30_v b hb hlr (at_ : Int)
  have hid : idR b (at_ : Int) = (if idLen b[at_] = 0 then (0, 0, 40) else if b.length - at_ < idLen b[at_] then (0, 0, 3) else if isIdB (numB b at_ (idLen b[at_])) (idLen b[at_]) = false then (0, 0, 40) else (numB b at_ (idLen b[at_]), (idLen b[at_] : Int), 0)) := by
    unfold idR
    rw [if_neg (by omega), if_neg (by omega)]
    simp only [Int.toNat_natCast, hgd]
  unfold headR
  rw [hgd]
  rw [hid] at h30
  generalize hn : idLen b[at_] = n at *
  have h65 := f65_v hc.1 hc.2
  rw [hn] at h65
  have h4 : n ≤ 4 := by rw [← hn]; exact idLen_range _
  have w0 : IntKind.i64.wrap ((b.length : Int) - (at_ : Int)) = ((b.length - at_ : Nat) : Int) := wrapSub (by omega) (by omega)
  by_cases z : n = 0
  · refine h65.imp fun k h65 nd ea pl K => ?_
    rw [if_pos z]; subst z
    simp (disch := omega) only [f102_2, inb_nat, hat, decide_true, cond_true, Int.toNat_natCast, getD_get hat, h65, beT, f105_2]
  · rw [if_neg z]; rw [if_neg z] at h30
    by_cases sh : b.length ≤ at_ + n
    · refine h65.imp fun k h65 nd ea pl K => ?_
      rw [if_pos sh]
      simp (disch := omega) only [f102_2, inb_nat, hat, decide_true, cond_true, cond_false, Int.toNat_natCast, getD_get hat, h65, beT, beF, w0, ifT, f105_2]
    · rw [if_neg sh]; rw [if_neg (by omega)] at h30
      refine h65.imp3 h30 (f109_v b hb hlr (at_ + n) (by rw [reachV]; omega)) fun k h65 h30 h109 nd ea pl K => ?_
      have w : IntKind.i64.wrap ((at_ : Int) + (n : Int)) = ((at_ + n : Nat) : Int) := wrapAdd (by omega)
      have hat2 : at_ + n < b.length := by omega
      by_cases hi : isIdB (numB b at_ n) n = false
      · rw [if_pos hi]; rw [if_pos hi] at h30
        simp (disch := omega) only [f102_2, inb_nat, hat, decide_true, cond_true, cond_false, Int.toNat_natCast, getD_get hat, h65, beT, beF, bnT, w0, ifF, h30, f105_2]
      · rw [if_neg hi]; rw [if_neg hi] at h30
        by_cases zb : b[at_ + n] = 0
        · have hz := readV_zero hat2 zb
          rw [hz, if_pos (by simp)]
          simp (disch := omega) only [f102_2, inb_nat, hat, decide_true, cond_true, cond_false, Int.toNat_natCast, getD_get hat, getD_get hat2, hat2, h65, beT, beF, bnT, bnF, w0, w, ifF, h30, f105_2]
        · have he3 : (readV b (at_ + n)).2.2.2 = 0 ∨ (readV b (at_ + n)).2.2.2 = 3 := by
            obtain ⟨c, hce⟩ : ∃ c : Nat, b[at_ + n] = (c : Int) := ⟨b[at_ + n].toNat, by have := hb.get hat2; omega⟩
            by_cases hs : b.length - (at_ + n) < vsz c
            · rw [readV_short hat2 hce (by omega) hs]; simp
            · rw [readV_val hat2 hce (by omega) hs]; split <;> simp
          by_cases he : (readV b (at_ + n)).2.2.2 ≠ 0
          · rw [if_pos he]
            have he' : (readV b (at_ + n)).2.2.2 = 3 := by omega
            simp (disch := omega) only [f102_2, inb_nat, hat, decide_true, cond_true, cond_false, Int.toNat_natCast, getD_get hat, getD_get hat2, hat2, h65, beT, beF, bnT, bnF, w0, w, ifF, h30, h109, he', f105_2]
          · rw [if_neg he]
            have he : (readV b (at_ + n)).2.2.2 = 0 := by simpa using he
            obtain ⟨m, e1, e2, e3, e4⟩ := (readV_ok hb (at_ := at_ + n)).2.2.1 he
            have r1 := (readV_ok hb (at_ := at_ + n)).1
            have w2 : IntKind.i64.wrap ((n : Int) + (m : Int)) = ((n + m : Nat) : Int) := wrapAdd (by omega)
            have w3 : (readV b (at_ + n)).1 = ((readV b (at_ + n)).1.toNat : Int) := by omega
            dsimp only
            rw [← w3, e1, Int.toNat_natCast]
            simp (disch := omega) only [f102_2, inb_nat, hat, decide_true, cond_true, cond_false, Int.toNat_natCast, getD_get hat, getD_get hat2, hat2, h65, beT, beF, bnT, bnF, w0, w, ifF, h30, h109, he, e1, w2]
end Go.Proofs.Ytklhjegfkpmdoaa

/-! The pieces of a round of the program that reads elements. -/
namespace Go.Proofs.Ytklhjegfkpmdoaa
open Go Go.Am

theorem j18_bad {R : Type} {g : Nat → f101_3_T R} {k : Nat} {free : Bool} {b : List Int} {at_ nd ba : Int} {pl : List D1} {hid en : Int} {fm op : Bool} {dp : Int} {acc : List D2} {id hb sz : Int} {unk : Bool} {s1 : Int} {s2 : ByteArray} {s3 : Int} {s4 s5 : Bool} {X : Bool → List Int → Int → Int → Int → Int → List D1 → Int → Int → Bool → Bool → Int → List D2 → Int → Int → Int → Bool → Int → ByteArray → Int → Bool → Bool → Option R} :
    f88_2_j18 g k free true b at_ nd 0 ba pl hid en fm op dp acc id hb sz unk s1 s2 s3 s4 s5 X =
    X free b at_ nd 42 at_ pl hid en fm op dp acc id hb sz unk s1 s2 s3 s4 s5 := by
  simp only [f88_2_j18, f87_2, f56_2, beq_self_eq_true, cond_true, cond_false]
theorem j18_deep {R : Type} {g : Nat → f101_3_T R} {k : Nat} {free : Bool} {b : List Int} {at_ nd ba : Int} {pl : List D1} {hid en : Int} {fm op : Bool} {dp : Int} {acc : List D2} {id hb sz : Int} {unk : Bool} {s1 : Int} {s2 : ByteArray} {s3 : Int} {s4 s5 : Bool} {X : Bool → List Int → Int → Int → Int → Int → List D1 → Int → Int → Bool → Bool → Int → List D2 → Int → Int → Int → Bool → Int → ByteArray → Int → Bool → Bool → Option R} (h : dp > 8) :
    f88_2_j18 g k free false b at_ nd 0 ba pl hid en fm op dp acc id hb sz unk s1 s2 s3 s4 s5 X =
    X free b at_ nd 43 at_ pl hid en fm op dp acc id hb sz unk s1 s2 s3 s4 s5 := by
  simp only [f88_2_j18, deT h, f87_2, f56_2, beq_self_eq_true, cond_true, cond_false]
theorem j18_sum {R : Type} {g : Nat → f101_3_T R} {k : Nat} {free : Bool} {b : List Int} {at_ nd ba : Int} {pl : List D1} {hid en : Int} {fm op : Bool} {dp : Int} {acc : List D2} {id hb sz : Int} {unk : Bool} {s1 : Int} {s2 : ByteArray} {s3 : Int} {s4 s5 : Bool} {X : Bool → List Int → Int → Int → Int → Int → List D1 → Int → Int → Bool → Bool → Int → List D2 → Int → Int → Int → Bool → Int → ByteArray → Int → Bool → Bool → Option R} (h : ¬ dp > 8) (hs : (s1 == 237) = true) :
    f88_2_j18 g k free false b at_ nd 0 ba pl hid en fm op dp acc id hb sz unk s1 s2 s3 s4 s5 X =
    f100 k id hb sz unk hid en fm op dp b at_ nd 0 ba pl (fun b at_ nd bd ba pl => X free b at_ nd bd ba pl hid en fm op dp acc id hb sz unk s1 s2 s3 s4 s5) := by
  simp only [f88_2_j18, deF h, hs, cond_true, cond_false]
theorem j18_ok {R : Type} {g : Nat → f101_3_T R} {k : Nat} {free : Bool} {b : List Int} {at_ nd ba : Int} {pl : List D1} {hid en : Int} {fm op : Bool} {dp : Int} {acc : List D2} {id hb sz : Int} {unk : Bool} {s1 : Int} {s2 : ByteArray} {s3 : Int} {s4 s5 : Bool} {X : Bool → List Int → Int → Int → Int → Int → List D1 → Int → Int → Bool → Bool → Int → List D2 → Int → Int → Int → Bool → Int → ByteArray → Int → Bool → Bool → Option R} (h : ¬ dp > 8) (hs : (s1 == 237) = false) :
    f88_2_j18 g k free false b at_ nd 0 ba pl hid en fm op dp acc id hb sz unk s1 s2 s3 s4 s5 X =
    X free b at_ nd 0 ba pl hid en fm op dp acc id hb sz unk s1 s2 s3 s4 s5 := by
  simp only [f88_2_j18, deF h, hs, cond_true, cond_false]
theorem j17_v {R : Type} {g : Nat → f101_3_T R} {k : Nat} {first free q : Bool} {b : List Int} {at_ nd bd ba : Int} {pl : List D1} {hid en : Int} {fm op : Bool} {dp : Int} {acc : List D2} {id hb sz : Int} {unk : Bool} {s1 : Int} {s2 : ByteArray} {s3 : Int} {s4 s5 : Bool} {X : Bool → Bool → List Int → Int → Int → Int → Int → List D1 → Int → Int → Bool → Bool → Int → List D2 → Int → Int → Int → Bool → Int → ByteArray → Int → Bool → Bool → Option R} :
    f88_2_j17 g k first free q b at_ nd bd ba pl hid en fm op dp acc id hb sz unk s1 s2 s3 s4 s5 X =
    X free (q || (s1 == 237 && (hid == 0 || !first))) b at_ nd bd ba pl hid en fm op dp acc id hb sz unk s1 s2 s3 s4 s5 := by
  simp only [f88_2_j17]
  cases q <;> cases s1 == 237 <;> cases hid == 0 <;> rfl
theorem j15_bad {R : Type} {g : Nat → f101_3_T R} {k : Nat} {first free : Bool} {b : List Int} {at_ nd ba : Int} {pl : List D1} {hid en : Int} {fm op : Bool} {dp : Int} {acc : List D2} {id hb sz : Int} {unk : Bool} {s1 : Int} {s2 : ByteArray} {s3 : Int} {s4 s5 : Bool} {X : Bool → List Int → Int → Int → Int → Int → List D1 → Int → Int → Bool → Bool → Int → List D2 → Int → Int → Int → Bool → Int → ByteArray → Int → Bool → Bool → Option R} :
    f88_2_j15 g k first free true b at_ nd 0 ba pl hid en fm op dp acc id hb sz unk s1 s2 s3 s4 s5 X =
    X free b at_ nd 3 at_ pl hid en fm op dp acc id hb sz unk s1 s2 s3 s4 s5 := by
  simp only [f88_2_j15, f87_2, f56_2, beq_self_eq_true, cond_true, cond_false]
theorem j15_ok {R : Type} {g : Nat → f101_3_T R} {k : Nat} {first free : Bool} {b : List Int} {at_ nd ba : Int} {pl : List D1} {hid en : Int} {fm op : Bool} {dp : Int} {acc : List D2} {id hb sz : Int} {unk : Bool} {s : D0} {X : Bool → List Int → Int → Int → Int → Int → List D1 → Int → Int → Bool → Bool → Int → List D2 → Int → Int → Int → Bool → Int → ByteArray → Int → Bool → Bool → Option R} :
    f88_2_j15 g k first free false b at_ nd 0 ba pl hid en fm op dp acc id hb sz unk s.1 s.2.1 s.2.2.1 s.2.2.2.1 s.2.2.2.2 X =
    f88_2_j18 g k free ((!free && !within s hid) || (s.1 == 237 && (hid == 0 || !first))) b at_ nd 0 ba pl hid en fm op dp acc id hb sz unk s.1 s.2.1 s.2.2.1 s.2.2.2.1 s.2.2.2.2 X := by
  simp only [f88_2_j15, f68_v, cond_false, j17_v]
  cases free <;> simp only [Bool.not_true, Bool.not_false, Bool.true_and, Bool.false_and, Bool.false_or, cond_true, cond_false]
theorem j13_bad {R : Type} {g : Nat → f101_3_T R} {k : Nat} {first free : Bool} {e : Int} {b : List Int} {at_ nd ba : Int} {pl : List D1} {hid en : Int} {fm op : Bool} {dp : Int} {acc : List D2} {id hb sz : Int} {unk : Bool} {s1 : Int} {s2 : ByteArray} {s3 : Int} {s4 s5 : Bool} {X : Bool → List Int → Int → Int → Int → Int → List D1 → Int → Int → Bool → Bool → Int → List D2 → Int → Int → Int → Bool → Int → ByteArray → Int → Bool → Bool → Option R} :
    f88_2_j13 g k first free e true b at_ nd 0 ba pl hid en fm op dp acc id hb sz unk s1 s2 s3 s4 s5 X =
    X free b at_ nd 41 at_ pl hid en fm op dp acc id hb sz unk s1 s2 s3 s4 s5 := by
  simp only [f88_2_j13, f87_2, f56_2, beq_self_eq_true, cond_true, cond_false]
theorem j13_ok {R : Type} {g : Nat → f101_3_T R} {k : Nat} {first free : Bool} {e : Int} {b : List Int} {at_ nd ba : Int} {pl : List D1} {hid en : Int} {fm op : Bool} {dp : Int} {acc : List D2} {id hb sz : Int} {unk : Bool} {s1 : Int} {s2 : ByteArray} {s3 : Int} {s4 s5 : Bool} {X : Bool → List Int → Int → Int → Int → Int → List D1 → Int → Int → Bool → Bool → Int → List D2 → Int → Int → Int → Bool → Int → ByteArray → Int → Bool → Bool → Option R} (hz : sz ≤ e) :
    f88_2_j13 g k first free e false b at_ nd 0 ba pl hid en fm op dp acc id hb sz unk s1 s2 s3 s4 s5 X =
    f88_2_j15 g k first free (decide (e > (b.length : Int))) b at_ nd 0 ba pl hid en fm op dp acc id hb sz unk s1 s2 s3 s4 s5 X := by
  simp only [f88_2_j13, cond_false]
  by_cases h : e > (b.length : Int)
  · simp only [deT h, cond_true]
  · simp only [deF h, cond_false, deF (show ¬ sz > (b.length : Int) by omega)]
theorem j12_v {R : Type} {g : Nat → f101_3_T R} {k : Nat} {first free : Bool} {e : Int} {q : Bool} {b : List Int} {at_ nd bd ba : Int} {pl : List D1} {hid en : Int} {fm op : Bool} {dp : Int} {acc : List D2} {id hb sz : Int} {unk : Bool} {s1 : Int} {s2 : ByteArray} {s3 : Int} {s4 s5 : Bool} {X : Bool → Bool → Int → Bool → List Int → Int → Int → Int → Int → List D1 → Int → Int → Bool → Bool → Int → List D2 → Int → Int → Int → Bool → Int → ByteArray → Int → Bool → Bool → Option R} (hz : sz ≤ e) :
    f88_2_j12 g k first free e q b at_ nd bd ba pl hid en fm op dp acc id hb sz unk s1 s2 s3 s4 s5 X =
    X first free e (q || (fm && decide (e > en))) b at_ nd bd ba pl hid en fm op dp acc id hb sz unk s1 s2 s3 s4 s5 := by
  simp only [f88_2_j12]
  cases q
  · cases fm
    · rfl
    · by_cases h : e > en
      · simp only [deT h, cond_true, cond_false]; rfl
      · simp only [deF h, cond_true, cond_false, deF (show ¬ sz > en by omega)]; rfl
  · rfl
theorem j10_v {R : Type} {g : Nat → f101_3_T R} {k : Nat} {first free : Bool} {e : Int} {b : List Int} {at_ nd bd ba : Int} {pl : List D1} {hid en : Int} {fm op : Bool} {dp : Int} {acc : List D2} {id hb sz : Int} {unk : Bool} {s1 : Int} {s2 : ByteArray} {s3 : Int} {s4 s5 : Bool} {X0 : List D2 → List Int → Int → Int → Int → Int → List D1 → Option R} {X1 : List Int → Int → Int → Int → Int → List D1 → Int → Int → Bool → Bool → Int → List D2 → Option R} (hz : sz ≤ e) (he : IntKind.i64.wrap (IntKind.i64.wrap (at_ + hb) + sz) = e) :
    f88_2_j10 g k first free b at_ nd bd ba pl hid en fm op dp acc id hb sz unk s1 s2 s3 s4 s5 X0 X1 =
    f88_2_j13 g k first free e ((unk && !s5) || (fm && decide (e > en))) b at_ nd bd ba pl hid en fm op dp acc id hb sz unk s1 s2 s3 s4 s5 (fun free b at_ nd bd ba pl hid en fm op dp acc id hb sz unk s1 s2 s3 s4 s5 => f88_2_j23 g k free b at_ nd bd ba pl hid en fm op dp acc id hb sz unk s1 s2 s3 s4 s5 X0 X1) := by
  simp only [f88_2_j10, he]
  cases unk
  · simp only [cond_false, j12_v hz, Bool.false_and]
  · simp only [cond_true, j12_v hz, Bool.true_and]
theorem j9_stop {R : Type} {g : Nat → f101_3_T R} {k : Nat} {first : Bool} {b : List Int} {at_ nd ba : Int} {pl : List D1} {hid en : Int} {fm op : Bool} {dp : Int} {acc : List D2} {id hb sz : Int} {unk : Bool} {s : D0} {X0 : List D2 → List Int → Int → Int → Int → Int → List D1 → Option R} {X1 : List Int → Int → Int → Int → Int → List D1 → Int → Int → Bool → Bool → Int → List D2 → Option R} (h : op = true) (hw : within s hid = false) :
    f88_2_j9 g k first false b at_ nd 0 ba pl hid en fm op dp acc id hb sz unk s.1 s.2.1 s.2.2.1 s.2.2.2.1 s.2.2.2.2 X0 X1 =
    X0 acc b at_ nd 0 ba pl := by
  simp only [f88_2_j9, h, f68_v, hw, Bool.not_false, cond_true]
theorem j9_go {R : Type} {g : Nat → f101_3_T R} {k : Nat} {first free : Bool} {b : List Int} {at_ nd ba : Int} {pl : List D1} {hid en : Int} {fm op : Bool} {dp : Int} {acc : List D2} {id hb sz : Int} {unk : Bool} {s : D0} {X0 : List D2 → List Int → Int → Int → Int → Int → List D1 → Option R} {X1 : List Int → Int → Int → Int → Int → List D1 → Int → Int → Bool → Bool → Int → List D2 → Option R} (h : (op && (!free && !within s hid)) = false) :
    f88_2_j9 g k first free b at_ nd 0 ba pl hid en fm op dp acc id hb sz unk s.1 s.2.1 s.2.2.1 s.2.2.2.1 s.2.2.2.2 X0 X1 =
    f88_2_j10 g k first free b at_ nd 0 ba pl hid en fm op dp acc id hb sz unk s.1 s.2.1 s.2.2.1 s.2.2.2.1 s.2.2.2.2 X0 X1 := by
  simp only [f88_2_j9, f68_v]
  cases op
  · rfl
  · cases free
    · cases hw : within s hid
      · rw [hw] at h; exact absurd h (by decide)
      · rfl
    · rfl
theorem j23_bad {R : Type} {g : Nat → f101_3_T R} {k : Nat} {free : Bool} {b : List Int} {at_ nd bd ba : Int} {pl : List D1} {hid en : Int} {fm op : Bool} {dp : Int} {acc : List D2} {id hb sz : Int} {unk : Bool} {s1 : Int} {s2 : ByteArray} {s3 : Int} {s4 s5 : Bool} {X0 : List D2 → List Int → Int → Int → Int → Int → List D1 → Option R} {X1 : List Int → Int → Int → Int → Int → List D1 → Int → Int → Bool → Bool → Int → List D2 → Option R} (h : (bd == 0) = false) :
    f88_2_j23 g k free b at_ nd bd ba pl hid en fm op dp acc id hb sz unk s1 s2 s3 s4 s5 X0 X1 =
    X0 acc b at_ nd bd ba pl := by
  simp only [f88_2_j23, f56_2, h, Bool.not_false, cond_true]
theorem j23_ok {R : Type} {g : Nat → f101_3_T R} {k : Nat} {free : Bool} {b : List Int} {at_ nd ba : Int} {pl : List D1} {hid en : Int} {fm op : Bool} {dp : Int} {acc : List D2} {id hb sz : Int} {unk : Bool} {s1 : Int} {s2 : ByteArray} {s3 : Int} {s4 s5 : Bool} {X0 : List D2 → List Int → Int → Int → Int → Int → List D1 → Option R} {X1 : List Int → Int → Int → Int → Int → List D1 → Int → Int → Bool → Bool → Int → List D2 → Option R} :
    f88_2_j23 g k free b at_ nd 0 ba pl hid en fm op dp acc id hb sz unk s1 s2 s3 s4 s5 X0 X1 =
    g k id hb sz unk s1 s2 s3 s4 s5 free hid en fm op dp b at_ nd 0 ba pl (fun i gr keep b at_ nd bd ba dat kids pl => bif keep then bif room 64 (acc.length + [D2.mk i dat kids gr].length) then X1 b at_ nd bd ba pl hid en fm op dp (acc ++ [D2.mk i dat kids gr]) else none else X1 b at_ nd bd ba pl hid en fm op dp acc) := by
  simp only [f88_2_j23, f56_2, beq_self_eq_true, Bool.not_true, cond_false]
/-- The loop over the elements of a holder, as the program does it. -/
noncomputable def lvP {R : Type} (g : Nat → f101_3_T R) (k : Nat) (first : Bool) (b : List Int) (at_ nd bd ba : Int) (pl : List D1) (hid en : Int) (fm op : Bool) (dp : Int) (acc : List D2) (X : List D2 → List Int → Int → Int → Int → Int → List D1 → Option R) : Option R :=
  f88_2_l3 g k first b at_ nd bd ba pl hid en fm op dp acc X
end Go.Proofs.Ytklhjegfkpmdoaa

/-! What elements in a holder are: the plain reading, and one round of it by the program. -/
namespace Go.Proofs.Ytklhjegfkpmdoaa
open Go Go.Am

/-- What elements stand in. -/
structure Ho where
  id : Int
  en : Nat
  fm : Bool
  op : Bool
  dp : Nat
def Ho.Ok (b : List Int) (h : Ho) : Prop := h.en ≤ b.length ∧ (h.fm = false → h.en = b.length) ∧ h.dp ≤ 9
/-- The first error of an element whose head has been read; 0: none. -/
noncomputable def chkE (b : List Int) (h : Ho) (first : Bool) (at_ hb sz : Nat) (unk : Bool) (id : Int) : Int :=
  if ((unk && !(rowOf id).2.2.2.2) || (h.fm && decide (h.en < at_ + hb + sz))) = true then 41
  else if b.length < at_ + hb + sz then 3
  else if ((!free id && !within (rowOf id) h.id) || ((rowOf id).1 == 237 && (h.id == 0 || !first))) = true then 42
  else if 8 < h.dp then 43
  else if ((rowOf id).1 == 237) = true then
    if sz ≠ 4 ∨ h.op = true then 4 else if numB b (at_ + hb) 4 ≠ IntKind.i64.wrap (sumB ((b.take h.en).drop (at_ + hb + 4))) then 6 else 0
  else 0
theorem chk_ok {b : List Int} {h : Ho} (hh : h.Ok b) {first : Bool} {at_ hb sz : Nat} {unk : Bool} {id : Int} (e : chkE b h first at_ hb sz unk id = 0) :
    at_ + hb + sz ≤ h.en ∧ h.dp ≤ 8 ∧ (unk = true → (rowOf id).2.2.2.2 = true) ∧ (free id = true ∨ within (rowOf id) h.id = true) := by
  unfold chkE at e
  split at e; · simp at e
  split at e; · simp at e
  split at e; · simp at e
  split at e; · simp at e
  rename_i h1 h2 h3 h4
  simp only [Bool.or_eq_true, Bool.and_eq_true, not_or, not_and, decide_eq_true_eq, Bool.not_eq_true'] at h1 h3
  refine ⟨?_, by omega, fun hu => by simpa using h1.1 hu, ?_⟩
  · cases hf : h.fm with
    | true => have := h1.2 hf; omega
    | false => have := hh.2.1 hf; omega
  · cases hf : free id with
    | true => exact .inl rfl
    | false => right; simpa using h3.1 hf

theorem f100_v (b : List Int) (hb : okBy b) (hl : b.length ≤ 1048576) {at_ h sz en : Nat} (h1 : at_ + h + sz ≤ en) (he : en ≤ b.length) (R : Type) : Ev fun k => ∀ (id : Int) (unk : Bool) (hid : Int) (fm op : Bool) (dp nd ba : Int) (pl : List D1) (K : List Int → Int → Int → Int → Int → List D1 → Option R),
    f100 k id (h : Int) (sz : Int) unk hid (en : Int) fm op dp b (at_ : Int) nd 0 ba pl K =
    if sz ≠ 4 ∨ op = true then K b (at_ : Int) nd 4 (at_ : Int) pl else if numB b (at_ + h) 4 ≠ IntKind.i64.wrap (sumB ((b.take en).drop (at_ + h + 4))) then K b (at_ : Int) nd 6 (at_ : Int) pl else K b (at_ : Int) nd 0 ba pl := by
  have hlr : b.length ≤ reachBytes := by rw [reachV]; omega
  by_cases c : sz = 4
  · subst c
    have h64 := f64_v b hb hlr (at_ := at_ + h) (n := 4) (by omega) (by omega) (by omega)
    have nb := numB_bound hb (at_ := at_ + h) (n := 4) (by omega)
    have big : ¬ 9223372036854775807 < numB b (at_ + h) 4 := by simp at nb; omega
    refine h64.imp2 (f108_v ((b.take en).drop (at_ + h + 4)) (by rw [reachV]; simp; omega) R) fun k h64 h108 id unk hid fm op dp nd ba pl K => ?_
    simp only [if_neg big] at h64
    have e4 : ((4 : Nat) : Int) = 4 := rfl
    rw [e4] at h64 ⊢
    have w : IntKind.i64.wrap ((at_ : Int) + (h : Int)) = ((at_ + h : Nat) : Int) := wrapAdd (by omega)
    have w4 : IntKind.i64.wrap (((at_ + h : Nat) : Int) + 4) = ((at_ + h + 4 : Nat) : Int) := by rw [wr (by omega)]; omega
    cases op with
    | true => simp (disch := omega) only [f100, bnF, bnT, cond_true, cond_false, f87_2, f56_2, beT, or_true, if_true]
    | false =>
      have no : ¬ (4 ≠ 4 ∨ false = true) := by simp
      rw [if_neg no]
      simp (disch := omega) only [f100, bnF, bnT, cond_true, cond_false, f87_2, f56_2, beT, w, w4, h64, upT, deT, Bool.and_self, Int.toNat_natCast, h108]
      by_cases d : numB b (at_ + h) 4 = IntKind.i64.wrap (sumB ((b.take en).drop (at_ + h + 4)))
      · rw [if_neg (by simpa using d), bnF d]; rfl
      · rw [if_pos d, bnT d]; rfl
  · refine .all fun k id unk hid fm op dp nd ba pl K => ?_
    rw [if_pos (.inl c)]
    simp (disch := omega) only [f100, bnT, cond_true, f87_2, f56_2, beT]

/-- What comes behind an element. -/
noncomputable def contP {R : Type} (g : Nat → f101_3_T R) (k : Nat) (h : Ho) (acc : List D2) (X : List D2 → List Int → Int → Int → Int → Int → List D1 → Option R) (i : Int) (gr keep : Bool) (b : List Int) (at_ nd bd ba : Int) (dat : List Int) (kids : List D2) (pl : List D1) : Option R :=
  bif keep then bif room 64 (acc.length + [D2.mk i dat kids gr].length) then lvP g k false b at_ nd bd ba pl h.id (h.en : Int) h.fm h.op (h.dp : Int) (acc ++ [D2.mk i dat kids gr]) X else none
  else lvP g k false b at_ nd bd ba pl h.id (h.en : Int) h.fm h.op (h.dp : Int) acc X
theorem rnd_v (b : List Int) (hb : okBy b) (hl : b.length ≤ 1048576) (h : Ho) (hh : h.Ok b) (first : Bool) (at_ : Nat) (hat : at_ < h.en) (R : Type) : Ev fun k => ∀ (g : Nat → f101_3_T R) (nd ba : Int) (pl : List D1) (acc : List D2) (X : List D2 → List Int → Int → Int → Int → Int → List D1 → Option R),
    lvP g (k + 1) first b (at_ : Int) nd 0 ba pl h.id (h.en : Int) h.fm h.op (h.dp : Int) acc X = match headR b at_ with
    | .bad c => X acc b (at_ : Int) nd c (at_ : Int) pl
    | .ok id hb sz unk =>
      if (h.op && (!free id && !within (rowOf id) h.id)) = true then X acc b (at_ : Int) nd 0 ba pl
      else if chkE b h first at_ hb sz unk id ≠ 0 then X acc b (at_ : Int) nd (chkE b h first at_ hb sz unk id) (at_ : Int) pl
      else g k id (hb : Int) (sz : Int) unk (rowOf id).1 (rowOf id).2.1 (rowOf id).2.2.1 (rowOf id).2.2.2.1 (rowOf id).2.2.2.2 (free id) h.id (h.en : Int) h.fm h.op (h.dp : Int) b (at_ : Int) nd 0 ba pl (contP g k h acc X) := by
  obtain ⟨hh1, hh2, hh3⟩ := hh
  have h99 := f99_2_v b hb hl at_ (by omega) R
  have lt : (at_ : Int) < (h.en : Int) := by omega
  cases hd : headR b at_ with
  | bad c =>
    have c0 : (c == 0) = false := by have := head_bad hb hd; rw [beq_dec]; exact decide_eq_false (by omega)
    rw [hd] at h99
    refine h99.imp fun k h99 g nd ba pl acc X => ?_
    obtain ⟨g1, g2, g3, g4, h99⟩ := h99 nd ba pl
    rw [lvP, f88_2_l3]
    simp only [deT lt, cond_true, f56_2, beq_self_eq_true, f88_2_j5, h99, c0, Bool.not_false]
  | ok id h1 sz unk =>
    obtain ⟨p1, p2, p3, p4, p5, p6⟩ := head_ok hb hd
    rw [hd] at h99
    dsimp only at h99 ⊢
    have he : IntKind.i64.wrap (IntKind.i64.wrap ((at_ : Int) + (h1 : Int)) + (sz : Int)) = ((at_ + h1 + sz : Nat) : Int) := by rw [wrapAdd (by omega), wrapAdd (by omega)]
    have hz : (sz : Int) ≤ ((at_ + h1 + sz : Nat) : Int) := by omega
    -- up to the checks
    have start : ∀ (k : Nat), (∀ (nd ba : Int) (pl : List D1) (K : Int → Int → Int → Bool → List Int → Int → Int → Int → Int → List D1 → Option R), f99_2 k b (at_ : Int) nd 0 ba pl K = K id (h1 : Int) (sz : Int) unk b (at_ : Int) nd 0 ba pl) →
        (∀ (K : Int → ByteArray → Int → Bool → Bool → Bool → Option R), f25 k id K = K (rowOf id).1 (rowOf id).2.1 (rowOf id).2.2.1 (rowOf id).2.2.2.1 (rowOf id).2.2.2.2 (known id)) →
        ∀ (g : Nat → f101_3_T R) (nd ba : Int) (pl : List D1) (acc : List D2) (X : List D2 → List Int → Int → Int → Int → Int → List D1 → Option R),
        lvP g (k + 1) first b (at_ : Int) nd 0 ba pl h.id (h.en : Int) h.fm h.op (h.dp : Int) acc X =
        f88_2_j9 g k first (free id) b (at_ : Int) nd 0 ba pl h.id (h.en : Int) h.fm h.op (h.dp : Int) acc id (h1 : Int) (sz : Int) unk (rowOf id).1 (rowOf id).2.1 (rowOf id).2.2.1 (rowOf id).2.2.2.1 (rowOf id).2.2.2.2 X
          (fun b at_ nd bd ba pl hid en fm op dp acc => lvP g k false b at_ nd bd ba pl hid en fm op dp acc X) := by
      intro k h99 h25 g nd ba pl acc X
      rw [lvP, f88_2_l3]
      simp only [deT lt, cond_true, f56_2, beq_self_eq_true, f88_2_j5, h99, Bool.not_true, cond_false, h25, free]
      cases known id <;> rfl
    by_cases st : (h.op && (!free id && !within (rowOf id) h.id)) = true
    · have stp := st
      simp only [Bool.and_eq_true, Bool.not_eq_true'] at st
      refine h99.imp2 (f25_v id R) fun k h99 h25 g nd ba pl acc X => ?_
      rw [if_pos stp, start k h99 h25, st.2.1, j9_stop st.1 st.2.2]
    · have stn := st
      have st : (h.op && (!free id && !within (rowOf id) h.id)) = false := by simpa using st
      by_cases c1 : ((unk && !(rowOf id).2.2.2.2) || (h.fm && decide (h.en < at_ + h1 + sz))) = true
      · have ce : chkE b h first at_ h1 sz unk id = 41 := by unfold chkE; rw [if_pos c1]
        have c1' : ((unk && !(rowOf id).2.2.2.2) || (h.fm && decide (((at_ + h1 + sz : Nat) : Int) > (h.en : Int)))) = true := by
          rw [← c1]; congr 2; simp; omega
        refine h99.imp2 (f25_v id R) fun k h99 h25 g nd ba pl acc X => ?_
        rw [if_neg stn, start k h99 h25, j9_go st, j10_v hz he, c1', j13_bad, j23_bad (by decide), ce, if_pos (by decide)]
      · have c1' : ((unk && !(rowOf id).2.2.2.2) || (h.fm && decide (((at_ + h1 + sz : Nat) : Int) > (h.en : Int)))) = false := by
          have c1 : ((unk && !(rowOf id).2.2.2.2) || (h.fm && decide (h.en < at_ + h1 + sz))) = false := by simpa using c1
          rw [← c1]; congr 2; simp; omega
        by_cases c2 : b.length < at_ + h1 + sz
        · have ce : chkE b h first at_ h1 sz unk id = 3 := by unfold chkE; rw [if_neg c1, if_pos c2]
          refine h99.imp2 (f25_v id R) fun k h99 h25 g nd ba pl acc X => ?_
          rw [if_neg stn, start k h99 h25, j9_go st, j10_v hz he, c1', j13_ok hz, deT (show ((at_ + h1 + sz : Nat) : Int) > (b.length : Int) by omega), j15_bad, j23_bad (by decide), ce, if_pos (by decide)]
        · by_cases c3 : ((!free id && !within (rowOf id) h.id) || ((rowOf id).1 == 237 && (h.id == 0 || !first))) = true
          · have ce : chkE b h first at_ h1 sz unk id = 42 := by unfold chkE; rw [if_neg c1, if_neg c2, if_pos c3]
            refine h99.imp2 (f25_v id R) fun k h99 h25 g nd ba pl acc X => ?_
            rw [if_neg stn, start k h99 h25, j9_go st, j10_v hz he, c1', j13_ok hz, deF (show ¬ ((at_ + h1 + sz : Nat) : Int) > (b.length : Int) by omega), j15_ok, c3, j18_bad, j23_bad (by decide), ce, if_pos (by decide)]
          · have c3' : ((!free id && !within (rowOf id) h.id) || ((rowOf id).1 == 237 && (h.id == 0 || !first))) = false := by simpa using c3
            by_cases c4 : 8 < h.dp
            · have ce : chkE b h first at_ h1 sz unk id = 43 := by unfold chkE; rw [if_neg c1, if_neg c2, if_neg c3, if_pos c4]
              refine h99.imp2 (f25_v id R) fun k h99 h25 g nd ba pl acc X => ?_
              rw [if_neg stn, start k h99 h25, j9_go st, j10_v hz he, c1', j13_ok hz, deF (show ¬ ((at_ + h1 + sz : Nat) : Int) > (b.length : Int) by omega), j15_ok, c3', j18_deep (by omega), j23_bad (by decide), ce, if_pos (by decide)]
            · have inn : at_ + h1 + sz ≤ h.en := by
                cases hf : h.fm with
                | true => rw [hf] at c1'; simp at c1'; omega
                | false => have := hh2 hf; omega
              by_cases c5 : ((rowOf id).1 == 237) = true
              · have ce : chkE b h first at_ h1 sz unk id = if sz ≠ 4 ∨ h.op = true then 4 else if numB b (at_ + h1) 4 ≠ IntKind.i64.wrap (sumB ((b.take h.en).drop (at_ + h1 + 4))) then 6 else 0 := by
                  unfold chkE; rw [if_neg c1, if_neg c2, if_neg c3, if_neg c4, if_pos c5]
                refine h99.imp3 (f25_v id R) (f100_v b hb hl inn hh1 R) fun k h99 h25 h100 g nd ba pl acc X => ?_
                rw [if_neg stn, start k h99 h25, j9_go st, j10_v hz he, c1', j13_ok hz, deF (show ¬ ((at_ + h1 + sz : Nat) : Int) > (b.length : Int) by omega), j15_ok, c3', j18_sum (by omega) c5, h100, ce]
                by_cases c6 : sz ≠ 4 ∨ h.op = true
                · rw [if_pos c6, if_pos c6, j23_bad (by decide), if_pos (by decide)]
                · rw [if_neg c6, if_neg c6]
                  by_cases c7 : numB b (at_ + h1) 4 ≠ IntKind.i64.wrap (sumB ((b.take h.en).drop (at_ + h1 + 4)))
                  · rw [if_pos c7, if_pos c7, j23_bad (by decide), if_pos (by decide)]
                  · rw [if_neg c7, if_neg c7, j23_ok, if_neg (by decide)]; rfl
              · have ce : chkE b h first at_ h1 sz unk id = 0 := by unfold chkE; rw [if_neg c1, if_neg c2, if_neg c3, if_neg c4, if_neg c5]
                refine h99.imp2 (f25_v id R) fun k h99 h25 g nd ba pl acc X => ?_
                rw [if_neg stn, start k h99 h25, j9_go st, j10_v hz he, c1', j13_ok hz, deF (show ¬ ((at_ + h1 + sz : Nat) : Int) > (b.length : Int) by omega), j15_ok, c3', j18_ok (by omega) (by simpa using c5), j23_ok, ce, if_neg (by decide)]; rfl
end Go.Proofs.Ytklhjegfkpmdoaa

/-! The elements in a holder: the plain reading, and that the program reads so. -/
namespace Go.Proofs.Ytklhjegfkpmdoaa
open Go Go.Am

inductive Res | bad (c : Int) (at_ : Nat) | fine (kids : List D2) (at_ nd : Nat) (pl : List D1)
def Ho.inner (h : Ho) (id : Int) (e : Nat) (unk : Bool) : Ho := if unk = true then ⟨id, h.en, h.fm, true, h.dp + 1⟩ else ⟨id, e, true, false, h.dp + 1⟩
noncomputable def setSz (pl : List D1) (i : Nat) (n : Int) : List D1 := pl.set i ((pl.getD i zero1).1, (pl.getD i zero1).2.1, (pl.getD i zero1).2.2.1, n, (pl.getD i zero1).2.2.2.2.1, (pl.getD i zero1).2.2.2.2.2)
def plc (id : Int) (at_ hb sz dp : Nat) (unk : Bool) : D1 := (id, (at_ : Int), (hb : Int), (sz : Int), (dp : Int), unk)
noncomputable def lev (b : List Int) : Nat → Ho → Bool → Nat → Nat → List D1 → List D2 → Option Res
  | 0, _, _, _, _, _, _ => none
  | n + 1, h, first, at_, nd, pl, acc =>
    if at_ < h.en then
      match headR b at_ with
      | .bad c => some (.bad c at_)
      | .ok id hb sz unk =>
        if (h.op && (!free id && !within (rowOf id) h.id)) = true then some (.fine acc at_ nd pl)
        else if chkE b h first at_ hb sz unk id ≠ 0 then some (.bad (chkE b h first at_ hb sz unk id) at_)
        else if free id = true then lev b n h false (at_ + hb + sz) nd (pl ++ [plc id at_ hb sz h.dp unk]) acc
        else if 4000 < nd + 1 then some (.bad 2 at_)
        else if (rowOf id).2.2.2.1 = false then lev b n h false (at_ + hb + sz) (nd + 1) (pl ++ [plc id at_ hb sz h.dp unk]) (acc ++ [D2.mk id ((b.drop (at_ + hb)).take sz) [] false])
        else match lev b n (h.inner id (at_ + hb + sz) unk) true (at_ + hb) (nd + 1) (pl ++ [plc id at_ hb sz h.dp unk]) [] with
          | some (.fine kids a nd' pl') => lev b n h false a nd' (setSz pl' pl.length ((a : Int) - ((at_ + hb : Nat) : Int))) (acc ++ [D2.mk id [] kids true])
          | r => r
    else some (.fine acc at_ nd pl)
theorem inner_ok {b : List Int} {h : Ho} (hh : h.Ok b) {id : Int} {e : Nat} {unk : Bool} (he : e ≤ h.en) (hd : h.dp ≤ 8) : (h.inner id e unk).Ok b := by
  obtain ⟨h1, h2, h3⟩ := hh
  unfold Ho.inner
  split
  · exact ⟨h1, h2, by show h.dp + 1 ≤ 9; omega⟩
  · exact ⟨by show e ≤ b.length; omega, fun h => by simp at h, by show h.dp + 1 ≤ 9; omega⟩
theorem setSz_len (pl : List D1) (i : Nat) (n : Int) : (setSz pl i n).length = pl.length := by unfold setSz; rw [List.length_set]
/-- Where a reading ends, and how much it has read. -/
theorem lev_inv {b : List Int} (hb : okBy b) : ∀ (n : Nat) {h : Ho} {first : Bool} {at_ nd : Nat} {pl : List D1} {acc : List D2} {r : Res}, h.Ok b → at_ ≤ b.length → lev b n h first at_ nd pl acc = some r →
    match r with
    | .bad c a => c ≠ 0 ∧ a < b.length
    | .fine kids a nd' pl' => at_ ≤ a ∧ a ≤ b.length ∧ nd ≤ nd' ∧ (nd ≤ 4000 → nd' ≤ 4000) ∧ pl.length ≤ pl'.length ∧ pl'.length + at_ ≤ pl.length + a ∧ kids.length + at_ ≤ acc.length + a ∧ acc.length ≤ kids.length := by
  intro n
  induction n with
  | zero => intro h first at_ nd pl acc r _ _ e; simp [lev] at e
  | succ n ih =>
    intro h first at_ nd pl acc r hh hat e
    rw [lev] at e
    split at e
    · rename_i lt
      obtain ⟨hh1, hh2, hh3⟩ := hh
      split at e
      · rename_i c hd
        obtain rfl := Option.some.inj e
        have := head_bad hb hd
        exact ⟨by omega, by omega⟩
      · rename_i id h1 sz unk hd
        obtain ⟨p1, p2, p3, p4, p5, p6⟩ := head_ok hb hd
        split at e
        · obtain rfl := Option.some.inj e
          exact ⟨Nat.le_refl _, hat, Nat.le_refl _, fun x => x, Nat.le_refl _, Nat.le_refl _, Nat.le_refl _, Nat.le_refl _⟩
        · split at e
          · obtain rfl := Option.some.inj e
            exact ⟨by assumption, by omega⟩
          · rename_i hc
            have hc : chkE b h first at_ h1 sz unk id = 0 := by simpa using hc
            obtain ⟨q1, q2, q3, q4⟩ := chk_ok ⟨hh1, hh2, hh3⟩ hc
            split at e
            · have := ih ⟨hh1, hh2, hh3⟩ (by omega) e
              cases r with
              | bad c a => exact this
              | fine kids a nd' pl' =>
                simp only [List.length_append, List.length_cons, List.length_nil] at this
                exact ⟨by omega, by omega, by omega, by omega, by omega, by omega, by omega, by omega⟩
            · split at e
              · obtain rfl := Option.some.inj e
                exact ⟨by decide, by omega⟩
              · split at e
                · have := ih ⟨hh1, hh2, hh3⟩ (by omega) e
                  cases r with
                  | bad c a => exact this
                  | fine kids a nd' pl' =>
                    simp only [List.length_append, List.length_cons, List.length_nil] at this
                    exact ⟨by omega, by omega, by omega, by omega, by omega, by omega, by omega, by omega⟩
                · split at e
                  · rename_i kids a nd' pl' he
                    have t1 := ih (inner_ok ⟨hh1, hh2, hh3⟩ q1 q2) (by omega) he
                    simp only [List.length_append, List.length_cons, List.length_nil] at t1
                    have t2 := ih ⟨hh1, hh2, hh3⟩ t1.2.1 e
                    cases r with
                    | bad c a => exact t2
                    | fine kids2 a2 nd2 pl2 =>
                      simp only [List.length_append, List.length_cons, List.length_nil, setSz_len] at t2
                      exact ⟨by omega, by omega, by omega, by omega, by omega, by omega, by omega, by omega⟩
                  · rename_i r' hr'
                    cases r with
                    | bad c a => exact ih (inner_ok ⟨hh1, hh2, hh3⟩ q1 q2) (by omega) e
                    | fine kids a nd' pl' => exact absurd e (hr' kids a nd' pl')
    · obtain rfl := Option.some.inj e
      exact ⟨Nat.le_refl _, hat, Nat.le_refl _, fun x => x, Nat.le_refl _, Nat.le_refl _, Nat.le_refl _, Nat.le_refl _⟩
/-- It ends. -/
theorem lev_some {b : List Int} (hb : okBy b) : ∀ (n : Nat) {h : Ho} (first : Bool) {at_ : Nat} (nd : Nat) (pl : List D1) (acc : List D2), h.Ok b → at_ ≤ b.length → b.length - at_ < n → ∃ r, lev b n h first at_ nd pl acc = some r := by
  intro n
  induction n with
  | zero => intro h first at_ nd pl acc _ _ e; omega
  | succ n ih =>
    intro h first at_ nd pl acc hh hat e
    rw [lev]
    by_cases lt : at_ < h.en
    · rw [if_pos lt]
      cases hd : headR b at_ with
      | bad c => exact ⟨_, rfl⟩
      | ok id h1 sz unk =>
        obtain ⟨p1, p2, p3, p4, p5, p6⟩ := head_ok hb hd
        dsimp only
        split
        · exact ⟨_, rfl⟩
        · split
          · exact ⟨_, rfl⟩
          · rename_i hc
            have hc : chkE b h first at_ h1 sz unk id = 0 := by simpa using hc
            obtain ⟨q1, q2, q3, q4⟩ := chk_ok hh hc
            have := hh.1
            split
            · exact ih _ _ _ _ hh (by omega) (by omega)
            · split
              · exact ⟨_, rfl⟩
              · split
                · exact ih _ _ _ _ hh (by omega) (by omega)
                · obtain ⟨r, hr⟩ := ih true (nd + 1) (pl ++ [plc id at_ h1 sz h.dp unk]) [] (inner_ok hh (id := id) (unk := unk) q1 q2) (at_ := at_ + h1) (by omega) (by omega)
                  rw [hr]
                  cases r with
                  | bad c a => exact ⟨_, rfl⟩
                  | fine kids a nd' pl' =>
                    have := lev_inv hb n (inner_ok hh (id := id) (unk := unk) q1 q2) (by omega) hr
                    exact ih _ _ _ _ hh this.2.1 (by omega)
    · rw [if_neg lt]; exact ⟨_, rfl⟩

/-! one element, by the program -/
section
variable {R : Type} {gg : Nat → f88_2_T R} {k : Nat} {id : Int} {at_ hb sz dp nd : Nat} {unk : Bool} {s1 : Int} {s2 : ByteArray} {s3 : Int} {s4 s5 : Bool} {hid en : Int} {fm op : Bool} {b : List Int} {ba : Int} {pl : List D1}
  {K : Int → Bool → Bool → List Int → Int → Int → Int → Int → List Int → List D2 → List D1 → Option R}
theorem el_free (hl : b.length ≤ 1048576) (hp : pl.length ≤ 1048576) (h : at_ + hb + sz ≤ b.length) :
    f101_3_s gg k id (hb : Int) (sz : Int) unk s1 s2 s3 s4 s5 true hid en fm op (dp : Int) b (at_ : Int) (nd : Int) 0 ba pl K =
    K 0 false false b ((at_ + hb + sz : Nat) : Int) (nd : Int) 0 ba [] [] (pl ++ [plc id at_ hb sz dp unk]) := by
  have w : IntKind.i64.wrap ((at_ : Int) + IntKind.i64.wrap ((hb : Int) + (sz : Int))) = ((at_ + hb + sz : Nat) : Int) := by rw [wrapAdd (by omega), wrapAdd (by omega)]; congr 1; omega
  simp only [f101_3_s, cond_true, w]
  rw [roT (by simp only [List.length_cons, List.length_nil]; omega)]; rfl
theorem el_limit (hl : b.length ≤ 1048576) (hp : pl.length ≤ 1048576) (hn : 4000 < nd + 1) (hn' : nd ≤ 4000) :
    f101_3_s gg k id (hb : Int) (sz : Int) unk s1 s2 s3 s4 s5 false hid en fm op (dp : Int) b (at_ : Int) (nd : Int) 0 ba pl K =
    K 0 false false b (at_ : Int) ((nd + 1 : Nat) : Int) 2 (at_ : Int) [] [] (pl ++ [plc id at_ hb sz dp unk]) := by
  simp (disch := omega) only [f101_3_s, cond_false, wrapSuc, deT, cond_true, f87_2, f56_2, beq_self_eq_true]
  rw [roT (by simp only [List.length_cons, List.length_nil]; omega)]; rfl
theorem el_leaf (hl : b.length ≤ 1048576) (hp : pl.length ≤ 1048576) (hn : ¬ 4000 < nd + 1) (h : at_ + hb + sz ≤ b.length) :
    f101_3_s gg k id (hb : Int) (sz : Int) unk s1 s2 s3 false s5 false hid en fm op (dp : Int) b (at_ : Int) (nd : Int) 0 ba pl K =
    K id false true b ((at_ + hb + sz : Nat) : Int) ((nd + 1 : Nat) : Int) 0 ba ((b.drop (at_ + hb)).take sz) [] (pl ++ [plc id at_ hb sz dp unk]) := by
  have w1 : IntKind.i64.wrap ((at_ : Int) + (hb : Int)) = ((at_ + hb : Nat) : Int) := wrapAdd (by omega)
  have w2 : IntKind.i64.wrap (((at_ + hb : Nat) : Int) + (sz : Int)) = ((at_ + hb + sz : Nat) : Int) := wrapAdd (by omega)
  have e : (b.take (at_ + hb + sz)).drop (at_ + hb) = (b.drop (at_ + hb)).take sz := by rw [List.drop_take]; congr 1; omega
  simp (disch := omega) only [f101_3_s, cond_false, wrapSuc, deF, cond_true, Bool.not_false, w1, w2, upT, deT, Bool.and_self, Int.toNat_natCast, e, f95_2, List.length_nil]
  rw [roT (by simp only [List.length_cons, List.length_nil]; omega), roT (by simp; omega)]; rfl
theorem el_group (hl : b.length ≤ 1048576) (hp : pl.length ≤ 1048576) (hn : ¬ 4000 < nd + 1) {h : Ho} (hd : h.dp ≤ 8) (hle : at_ + hb + sz ≤ b.length) :
    f101_3_s gg k id (hb : Int) (sz : Int) unk s1 s2 s3 true s5 false h.id (h.en : Int) h.fm h.op (h.dp : Int) b (at_ : Int) (nd : Int) 0 ba pl K =
    gg k (h.inner id (at_ + hb + sz) unk).id ((h.inner id (at_ + hb + sz) unk).en : Int) (h.inner id (at_ + hb + sz) unk).fm (h.inner id (at_ + hb + sz) unk).op ((h.inner id (at_ + hb + sz) unk).dp : Int) b ((at_ + hb : Nat) : Int) ((nd + 1 : Nat) : Int) 0 ba (pl ++ [plc id at_ hb sz h.dp unk])
      (fun b' a nd' bd ba' kids pl' => bif inb (pl.length : Int) pl'.length then K id true true b' a nd' bd ba' [] kids (setSz pl' pl.length (IntKind.i64.wrap (a - ((at_ + hb : Nat) : Int)))) else none) := by
  have w1 : IntKind.i64.wrap ((at_ : Int) + (hb : Int)) = ((at_ + hb : Nat) : Int) := wrapAdd (by omega)
  have w2 : IntKind.i64.wrap (((at_ + hb : Nat) : Int) + (sz : Int)) = ((at_ + hb + sz : Nat) : Int) := wrapAdd (by omega)
  have w3 : IntKind.i64.wrap ((h.dp : Int) + 1) = ((h.dp + 1 : Nat) : Int) := wrapSuc (by omega)
  simp (disch := omega) only [f101_3_s, cond_false, wrapSuc, deF, cond_true, Bool.not_true, w1, w2, w3, Int.toNat_natCast]
  rw [roT (by simp only [List.length_cons, List.length_nil]; omega)]
  cases unk <;> rfl
end

/-- The calls within a level are those of the level, with much fuel. -/
def Good {R : Type} (g : Nat → f101_3_T R) (m : Nat) : Prop := ∀ j, m ≤ j → ∃ k, m ≤ k ∧ g j = f101_3 k
theorem lvP_end {R : Type} (g : Nat → f101_3_T R) (j : Nat) (first : Bool) (b : List Int) (at_ nd ba : Int) (pl : List D1) (hid en : Int) (fm op : Bool) (dp : Int) (acc : List D2) (X : List D2 → List Int → Int → Int → Int → Int → List D1 → Option R) {c : Int} (hc : c ≠ 0 ∨ ¬ at_ < en) :
    lvP g (j + 1) first b at_ nd c ba pl hid en fm op dp acc X = X acc b at_ nd c ba pl := by
  rw [lvP, f88_2_l3]
  by_cases lt : at_ < en
  · have c0 : (c == 0) = false := by rw [beq_dec]; exact decide_eq_false (hc.resolve_right (fun h => h lt))
    simp only [deT lt, cond_true, f56_2, c0, cond_false]
  · simp only [deF lt, cond_false]
/-- What the program reads in a holder. -/
def RdP {R : Type} (b : List Int) (h : Ho) (first : Bool) (at_ nd : Nat) (pl : List D1) (acc : List D2) (r : Res) (g : Nat → f101_3_T R) (j : Nat) : Prop :=
  ∀ (ba : Int) (X : List D2 → List Int → Int → Int → Int → Int → List D1 → Option R),
    match r with
    | .fine kids a nd' pl' => lvP g j first b (at_ : Int) (nd : Int) 0 ba pl h.id (h.en : Int) h.fm h.op (h.dp : Int) acc X = X kids b (a : Int) (nd' : Int) 0 ba pl'
    | .bad c a => ∃ (ks : List D2) (a' nd' : Int) (pl' : List D1), pl.length ≤ pl'.length ∧ lvP g j first b (at_ : Int) (nd : Int) 0 ba pl h.id (h.en : Int) h.fm h.op (h.dp : Int) acc X = X ks b a' nd' c (a : Int) pl'
theorem prog_lev (b : List Int) (hb : okBy b) (hl : b.length ≤ 1048576) (R : Type) : ∀ (n : Nat) {h : Ho} {first : Bool} {at_ nd : Nat} {pl : List D1} {acc : List D2} {r : Res}, h.Ok b → at_ ≤ b.length → nd ≤ 4000 → pl.length ≤ at_ → acc.length ≤ at_ → lev b n h first at_ nd pl acc = some r →
    ∃ k0, ∀ m, k0 ≤ m → ∀ g : Nat → f101_3_T R, Good g m → ∀ j, m + k0 ≤ j → RdP b h first at_ nd pl acc r g j := by
  intro n
  induction n with
  | zero => intro h first at_ nd pl acc r _ _ _ _ _ e; simp [lev] at e
  | succ n ih =>
    intro h first at_ nd pl acc r hh hat hnd hpl hac e
    rw [lev] at e
    by_cases lt : at_ < h.en
    · rw [if_pos lt] at e
      obtain ⟨k1, rn⟩ := rnd_v b hb hl h hh first at_ lt R
      have hh1 := hh.1
      cases hd : headR b at_ with
      | bad c =>
        rw [hd] at e rn
        obtain rfl := Option.some.inj e
        refine ⟨k1 + 1, fun m hm g hg j hj ba X => ?_⟩
        obtain ⟨j, rfl⟩ : ∃ i, j = i + 1 := ⟨j - 1, by omega⟩
        exact ⟨acc, at_, nd, pl, Nat.le_refl _, rn j (by omega) g nd ba pl acc X⟩
      | ok id h1 sz unk =>
        rw [hd] at e rn
        obtain ⟨p1, p2, p3, p4, p5, p6⟩ := head_ok hb hd
        dsimp only at e rn
        by_cases st : (h.op && (!free id && !within (rowOf id) h.id)) = true
        · rw [if_pos st] at e
          obtain rfl := Option.some.inj e
          refine ⟨k1 + 1, fun m hm g hg j hj ba X => ?_⟩
          obtain ⟨j, rfl⟩ : ∃ i, j = i + 1 := ⟨j - 1, by omega⟩
          have := rn j (by omega) g nd ba pl acc X
          rw [if_pos st] at this
          exact this
        · rw [if_neg st] at e
          by_cases hc : chkE b h first at_ h1 sz unk id ≠ 0
          · rw [if_pos hc] at e
            obtain rfl := Option.some.inj e
            refine ⟨k1 + 1, fun m hm g hg j hj ba X => ?_⟩
            obtain ⟨j, rfl⟩ : ∃ i, j = i + 1 := ⟨j - 1, by omega⟩
            have := rn j (by omega) g nd ba pl acc X
            rw [if_neg st, if_pos hc] at this
            exact ⟨acc, at_, nd, pl, Nat.le_refl _, this⟩
          · rw [if_neg hc] at e
            have hc0 : chkE b h first at_ h1 sz unk id = 0 := by simpa using hc
            obtain ⟨q1, q2, q3, q4⟩ := chk_ok hh hc0
            have pl1 : (pl ++ [plc id at_ h1 sz h.dp unk]).length = pl.length + 1 := by simp
            -- the element, by the program
            have st1 : ∀ m g, Good g m → ∀ j, m + k1 + 1 ≤ j → 1 ≤ m → ∀ (ba : Int) (X : List D2 → List Int → Int → Int → Int → Int → List D1 → Option R), ∃ i k, j = i + 1 ∧ m ≤ k + 1 ∧
                lvP g j first b (at_ : Int) (nd : Int) 0 ba pl h.id (h.en : Int) h.fm h.op (h.dp : Int) acc X = f101_3_s (fun _ => f88_2 k) k id (h1 : Int) (sz : Int) unk (rowOf id).1 (rowOf id).2.1 (rowOf id).2.2.1 (rowOf id).2.2.2.1 (rowOf id).2.2.2.2 (free id) h.id (h.en : Int) h.fm h.op (h.dp : Int) b (at_ : Int) nd 0 ba pl (contP g i h acc X) := by
              intro m g hg j hj hm ba X
              obtain ⟨i, rfl⟩ : ∃ i, j = i + 1 := ⟨j - 1, by omega⟩
              obtain ⟨k, hk, hgk⟩ := hg i (by omega)
              obtain ⟨k, rfl⟩ : ∃ q, k = q + 1 := ⟨k - 1, by omega⟩
              have := rn i (by omega) g nd ba pl acc X
              rw [if_neg st, if_neg hc, hgk, f101_3_step] at this
              exact ⟨i, k, rfl, hk, this⟩
            by_cases hf : free id = true
            · rw [if_pos hf] at e
              obtain ⟨k2, h2⟩ := ih hh (by omega) hnd (by rw [pl1]; omega) (by omega) e
              refine ⟨k1 + k2 + 2, fun m hm g hg j hj ba X => ?_⟩
              obtain ⟨i, k, rfl, hk, he⟩ := st1 m g hg j (by omega) (by omega) ba X
              rw [hf, el_free hl (by omega) (by omega)] at he
              have h3 := h2 m (by omega) g hg i (by omega) ba X
              cases r with
              | fine kids a nd' pl' => exact he.trans h3
              | bad c a =>
                obtain ⟨ks, a', nd', pl', l1, l2⟩ := h3
                exact ⟨ks, a', nd', pl', by omega, he.trans l2⟩
            · rw [if_neg hf] at e
              have hf : free id = false := by simpa using hf
              by_cases hn : 4000 < nd + 1
              · rw [if_pos hn] at e
                obtain rfl := Option.some.inj e
                refine ⟨k1 + 2, fun m hm g hg j hj ba X => ?_⟩
                obtain ⟨i, k, rfl, hk, he⟩ := st1 m g hg j (by omega) (by omega) ba X
                obtain ⟨i, rfl⟩ : ∃ q, i = q + 1 := ⟨i - 1, by omega⟩
                rw [hf, el_limit hl (by omega) hn hnd] at he
                exact ⟨acc, _, _, pl ++ [plc id at_ h1 sz h.dp unk], by omega, he.trans (lvP_end g i false b _ _ _ _ _ _ _ _ _ acc X (.inl (by decide)))⟩
              · rw [if_neg hn] at e
                have ac1 : ∀ x : D2, (acc ++ [x]).length = acc.length + 1 := fun x => by simp
                have rm : ∀ x : D2, room 64 (acc.length + [x].length) = true := fun x => roT (by simp only [List.length_cons, List.length_nil]; omega)
                by_cases hg4 : (rowOf id).2.2.2.1 = false
                · rw [if_pos hg4] at e
                  obtain ⟨k2, h2⟩ := ih hh (by omega) (by omega) (by rw [pl1]; omega) (by rw [ac1]; omega) e
                  refine ⟨k1 + k2 + 2, fun m hm g hg j hj ba X => ?_⟩
                  obtain ⟨i, k, rfl, hk, he⟩ := st1 m g hg j (by omega) (by omega) ba X
                  rw [hf, hg4, el_leaf hl (by omega) hn (by omega), contP, cond_true, rm, cond_true] at he
                  have h3 := h2 m (by omega) g hg i (by omega) ba X
                  cases r with
                  | fine kids a nd' pl' => exact he.trans h3
                  | bad c a =>
                    obtain ⟨ks, a', nd', pl', l1, l2⟩ := h3
                    exact ⟨ks, a', nd', pl', by omega, he.trans l2⟩
                · rw [if_neg hg4] at e
                  have hg4 : (rowOf id).2.2.2.1 = true := by simpa using hg4
                  have hin := inner_ok hh (id := id) (unk := unk) q1 q2
                  -- what is in the group
                  have grp : ∀ rn', lev b n (h.inner id (at_ + h1 + sz) unk) true (at_ + h1) (nd + 1) (pl ++ [plc id at_ h1 sz h.dp unk]) [] = some rn' → ∃ k3, ∀ k, k3 ≤ k → ∀ (ba : Int) (X : List Int → Int → Int → Int → Int → List D2 → List D1 → Option R),
                      match rn' with
                      | .fine kids a nd' pl' => f88_2 k (h.inner id (at_ + h1 + sz) unk).id ((h.inner id (at_ + h1 + sz) unk).en : Int) (h.inner id (at_ + h1 + sz) unk).fm (h.inner id (at_ + h1 + sz) unk).op ((h.inner id (at_ + h1 + sz) unk).dp : Int) b ((at_ + h1 : Nat) : Int) ((nd + 1 : Nat) : Int) 0 ba (pl ++ [plc id at_ h1 sz h.dp unk]) X = X b (a : Int) (nd' : Int) 0 ba kids pl'
                      | .bad c a => ∃ (ks : List D2) (a' nd' : Int) (pl' : List D1), pl.length + 1 ≤ pl'.length ∧ f88_2 k (h.inner id (at_ + h1 + sz) unk).id ((h.inner id (at_ + h1 + sz) unk).en : Int) (h.inner id (at_ + h1 + sz) unk).fm (h.inner id (at_ + h1 + sz) unk).op ((h.inner id (at_ + h1 + sz) unk).dp : Int) b ((at_ + h1 : Nat) : Int) ((nd + 1 : Nat) : Int) 0 ba (pl ++ [plc id at_ h1 sz h.dp unk]) X = X b a' nd' c (a : Int) ks pl' := by
                    intro rn' hrn
                    obtain ⟨k0, h0⟩ := ih hin (by omega) (by omega) (by rw [pl1]; omega) (by simp) hrn
                    refine ⟨2 * k0 + 1, fun k hk ba X => ?_⟩
                    obtain ⟨k, rfl⟩ : ∃ q, k = q + 1 := ⟨k - 1, by omega⟩
                    have h3 := h0 k0 (Nat.le_refl _) (fun _ => f101_3 k) (fun j hj => ⟨k, by omega, rfl⟩) k (by omega) ba (fun ks b' a nd' bd ba' pl' => X b' a nd' bd ba' ks pl')
                    cases rn' with
                    | fine kids a nd' pl' => dsimp only; rw [f88_2_step]; exact h3
                    | bad c a =>
                      obtain ⟨ks, a', nd', pl', l1, l2⟩ := h3
                      rw [pl1] at l1
                      refine ⟨ks, a', nd', pl', l1, ?_⟩
                      rw [f88_2_step]; exact l2
                  cases hn' : lev b n (h.inner id (at_ + h1 + sz) unk) true (at_ + h1) (nd + 1) (pl ++ [plc id at_ h1 sz h.dp unk]) [] with
                  | none => rw [hn'] at e; simp at e
                  | some rn' =>
                    obtain ⟨k3, h3⟩ := grp rn' hn'
                    have iv := lev_inv hb n hin (by omega) hn'
                    rw [hn'] at e
                    cases rn' with
                    | bad c a =>
                      dsimp only at e
                      obtain rfl := Option.some.inj e
                      refine ⟨k1 + k3 + 3, fun m hm g hg j hj ba X => ?_⟩
                      obtain ⟨i, k, rfl, hk, he⟩ := st1 m g hg j (by omega) (by omega) ba X
                      obtain ⟨i, rfl⟩ : ∃ q, i = q + 1 := ⟨i - 1, by omega⟩
                      rw [hf, hg4, el_group hl (by omega) hn q2 (by omega)] at he
                      obtain ⟨ks, a', nd', pl', l1, l2⟩ := h3 k (by omega) ba _
                      rw [l2, inT (by omega), cond_true, contP, cond_true, rm, cond_true, lvP_end _ _ _ _ _ _ _ _ _ _ _ _ _ _ _ (.inl iv.1)] at he
                      exact ⟨_, a', nd', _, by rw [setSz_len]; omega, he⟩
                    | fine kids a nd' pl' =>
                      dsimp only at e iv
                      rw [pl1] at iv
                      obtain ⟨k2, h2⟩ := ih hh iv.2.1 (by omega) (by rw [setSz_len]; omega) (by rw [ac1]; omega) e
                      refine ⟨k1 + k2 + k3 + 3, fun m hm g hg j hj ba X => ?_⟩
                      obtain ⟨i, k, rfl, hk, he⟩ := st1 m g hg j (by omega) (by omega) ba X
                      have wr1 : IntKind.i64.wrap ((a : Int) - ((at_ + h1 : Nat) : Int)) = (a : Int) - ((at_ + h1 : Nat) : Int) := wr (by omega)
                      have h4 := h3 k (by omega) ba
                      dsimp only at h4
                      rw [hf, hg4, el_group hl (by omega) hn q2 (by omega), h4, inT (by omega), cond_true, contP, cond_true, rm, cond_true, wr1] at he
                      have h5 := h2 m (by omega) g hg i (by omega) ba X
                      cases r with
                      | fine kids a nd' pl' => exact he.trans h5
                      | bad c a =>
                        obtain ⟨ks, a', nd', pl', l1, l2⟩ := h5
                        rw [setSz_len] at l1
                        exact ⟨ks, a', nd', pl', by omega, he.trans l2⟩
    · rw [if_neg lt] at e
      obtain rfl := Option.some.inj e
      refine ⟨1, fun m hm g hg j hj ba X => ?_⟩
      obtain ⟨j, rfl⟩ : ∃ i, j = i + 1 := ⟨j - 1, by omega⟩
      exact lvP_end _ _ _ _ _ _ _ _ _ _ _ _ _ _ _ (.inr (by omega))
end Go.Proofs.Ytklhjegfkpmdoaa

/-! The pieces of a round of the document that reads elements. -/
namespace Go.Proofs.Ytklhjegfkpmdoaa
open Go Go.Am

theorem rj8_v {R : Type} {g : Nat → f89_2_T R} {k : Nat} {at_ cnt id : Int} {there early : Bool} {b : List Int} {nd er ea : Int} {pl : List D1} {hid en kn dp : Int} {op : Bool} {acc : List D2} {s1 : Int} {s2 : ByteArray} {s3 : Int} {s4 s5 : Bool} {X0 : Int → Int → Int → Bool → List Int → Int → Int → Int → List D1 → Int → Int → Int → Int → Bool → List D2 → Int → ByteArray → Int → Bool → Bool → Option R} {X1 : Int → List D2 → List Int → Int → Int → Int → List D1 → Option R} :
    f89_2_j8 g k at_ cnt id there early b nd er ea pl hid en kn dp op acc s1 s2 s3 s4 s5 X0 X1 =
    bif early then X1 at_ acc b nd er ea pl else X0 at_ cnt id there b nd er ea pl hid en kn dp op acc s1 s2 s3 s4 s5 := by
  simp only [f89_2_j8]
theorem rj16_bad {R : Type} {g : Nat → f89_2_T R} {k : Nat} {at_ cnt id : Int} {there : Bool} {end_ : Int} {b : List Int} {nd ea : Int} {pl : List D1} {hid en kn dp : Int} {op : Bool} {acc : List D2} {s1 : Int} {s2 : ByteArray} {s3 : Int} {s4 s5 : Bool} {xid xb xs : Int} {xu : Bool} {X0 : Int → Int → Int → Bool → Int → List Int → Int → Int → Int → List D1 → Int → Int → Int → Int → Bool → List D2 → Int → ByteArray → Int → Bool → Bool → Int → Int → Int → Bool → Option R} :
    f89_2_j16 g k at_ cnt id there end_ true b nd 0 ea pl hid en kn dp op acc s1 s2 s3 s4 s5 xid xb xs xu X0 =
    X0 at_ cnt id there end_ b nd 42 at_ pl hid en kn dp op acc s1 s2 s3 s4 s5 xid xb xs xu := by
  simp only [f89_2_j16, f105_2, beq_self_eq_true, cond_true, cond_false]
theorem rj16_deep {R : Type} {g : Nat → f89_2_T R} {k : Nat} {at_ cnt id : Int} {there : Bool} {end_ : Int} {b : List Int} {nd ea : Int} {pl : List D1} {hid en kn dp : Int} {op : Bool} {acc : List D2} {s1 : Int} {s2 : ByteArray} {s3 : Int} {s4 s5 : Bool} {xid xb xs : Int} {xu : Bool} {X0 : Int → Int → Int → Bool → Int → List Int → Int → Int → Int → List D1 → Int → Int → Int → Int → Bool → List D2 → Int → ByteArray → Int → Bool → Bool → Int → Int → Int → Bool → Option R} (h : dp > 8) :
    f89_2_j16 g k at_ cnt id there end_ false b nd 0 ea pl hid en kn dp op acc s1 s2 s3 s4 s5 xid xb xs xu X0 =
    X0 at_ cnt id there end_ b nd 43 at_ pl hid en kn dp op acc s1 s2 s3 s4 s5 xid xb xs xu := by
  simp only [f89_2_j16, deT h, f105_2, beq_self_eq_true, cond_true, cond_false]
theorem rj16_ok {R : Type} {g : Nat → f89_2_T R} {k : Nat} {at_ cnt id : Int} {there : Bool} {end_ : Int} {b : List Int} {nd er ea : Int} {pl : List D1} {hid en kn dp : Int} {op : Bool} {acc : List D2} {s1 : Int} {s2 : ByteArray} {s3 : Int} {s4 s5 : Bool} {xid xb xs : Int} {xu : Bool} {X0 : Int → Int → Int → Bool → Int → List Int → Int → Int → Int → List D1 → Int → Int → Int → Int → Bool → List D2 → Int → ByteArray → Int → Bool → Bool → Int → Int → Int → Bool → Option R} (h : ¬ dp > 8) :
    f89_2_j16 g k at_ cnt id there end_ false b nd er ea pl hid en kn dp op acc s1 s2 s3 s4 s5 xid xb xs xu X0 =
    X0 at_ cnt id there end_ b nd er ea pl hid en kn dp op acc s1 s2 s3 s4 s5 xid xb xs xu := by
  simp only [f89_2_j16, deF h, cond_false]
theorem rj14_no {R : Type} {g : Nat → f89_2_T R} {k : Nat} {at_ cnt id : Int} {there : Bool} {end_ : Int} {b : List Int} {nd er ea : Int} {pl : List D1} {hid en kn dp : Int} {op : Bool} {acc : List D2} {xid xb xs : Int} {xu : Bool} {X0 : Int → Int → Int → Bool → Int → List Int → Int → Int → Int → List D1 → Int → Int → Int → Int → Bool → List D2 → Int → ByteArray → Int → Bool → Bool → Int → Int → Int → Bool → Option R} :
    f89_2_j14 g k at_ cnt id there end_ false b nd er ea pl hid en kn dp op acc (rowOf id).1 (rowOf id).2.1 (rowOf id).2.2.1 (rowOf id).2.2.2.1 (rowOf id).2.2.2.2 xid xb xs xu X0 =
    f89_2_j16 g k at_ cnt id there end_ (there && ((id != 236) && !within (rowOf id) hid)) b nd er ea pl hid en kn dp op acc (rowOf id).1 (rowOf id).2.1 (rowOf id).2.2.1 (rowOf id).2.2.2.1 (rowOf id).2.2.2.2 xid xb xs xu X0 := by
  simp only [f89_2_j14, f98_v, cond_false]
  cases there
  · rfl
  · cases id != 236 <;> rfl
theorem rj14_sum {R : Type} {g : Nat → f89_2_T R} {k : Nat} {at_ cnt id : Int} {there : Bool} {end_ : Int} {b : List Int} {nd er ea : Int} {pl : List D1} {hid en kn dp : Int} {op : Bool} {acc : List D2} {s1 : Int} {s2 : ByteArray} {s3 : Int} {s4 s5 : Bool} {xid xb xs : Int} {xu : Bool} {X0 : Int → Int → Int → Bool → Int → List Int → Int → Int → Int → List D1 → Int → Int → Int → Int → Bool → List D2 → Int → ByteArray → Int → Bool → Bool → Int → Int → Int → Bool → Option R} :
    f89_2_j14 g k at_ cnt id there end_ true b nd er ea pl hid en kn dp op acc s1 s2 s3 s4 s5 xid xb xs xu X0 =
    f104_2 k at_ (IntKind.i64.wrap (at_ + xb)) end_ cnt hid en kn dp op b nd er ea pl (fun b nd er ea pl => X0 at_ cnt id there end_ b nd er ea pl hid en kn dp op acc s1 s2 s3 s4 s5 xid xb xs xu) := by
  simp only [f89_2_j14, cond_true]
theorem rj19_v {R : Type} {g : Nat → f89_2_T R} {k : Nat} {at_ cnt id : Int} {there : Bool} {end_ : Int} {b : List Int} {nd er ea : Int} {pl : List D1} {hid en kn dp : Int} {op : Bool} {acc : List D2} {s1 : Int} {s2 : ByteArray} {s3 : Int} {s4 s5 : Bool} {xid xb xs : Int} {xu : Bool} {X0 : Int → List D2 → List Int → Int → Int → Int → List D1 → Option R} {X1 : Int → Int → List Int → Int → Int → Int → List D1 → Int → Int → Int → Int → Bool → List D2 → Option R} :
    f89_2_j19 g k at_ cnt id there end_ b nd er ea pl hid en kn dp op acc s1 s2 s3 s4 s5 xid xb xs xu X0 X1 =
    f89_2_j20 g k at_ cnt id end_ (there && ((id != 236) && (id != 237))) b nd er ea pl hid en kn dp op acc s1 s2 s3 s4 s5 xid xb xs xu X0 X1 := by
  simp only [f89_2_j19]
  cases there
  · rfl
  · cases id != 236 <;> rfl
theorem rj20_no {R : Type} {g : Nat → f89_2_T R} {k : Nat} {at_ cnt id end_ : Int} {b : List Int} {nd er ea : Int} {pl : List D1} {hid en kn dp : Int} {op : Bool} {acc : List D2} {s1 : Int} {s2 : ByteArray} {s3 : Int} {s4 s5 : Bool} {xid xb xs : Int} {xu : Bool} {X0 : Int → List D2 → List Int → Int → Int → Int → List D1 → Option R} {X1 : Int → Int → List Int → Int → Int → Int → List D1 → Int → Int → Int → Int → Bool → List D2 → Option R} :
    f89_2_j20 g k at_ cnt id end_ false b nd er ea pl hid en kn dp op acc s1 s2 s3 s4 s5 xid xb xs xu X0 X1 =
    f89_2_j24 g k at_ cnt id end_ false b nd er ea pl hid en kn dp op acc s1 s2 s3 s4 s5 xid xb xs xu X0 X1 := by
  simp only [f89_2_j20, cond_false]
theorem rj20_lim {R : Type} {g : Nat → f89_2_T R} {k : Nat} {at_ cnt id end_ : Int} {b : List Int} {nd ea : Int} {pl : List D1} {hid en kn dp : Int} {op : Bool} {acc : List D2} {s1 : Int} {s2 : ByteArray} {s3 : Int} {s4 s5 : Bool} {xid xb xs : Int} {xu : Bool} {X0 : Int → List D2 → List Int → Int → Int → Int → List D1 → Option R} {X1 : Int → Int → List Int → Int → Int → Int → List D1 → Int → Int → Int → Int → Bool → List D2 → Option R} (h : IntKind.i64.wrap (nd + 1) > 4000) :
    f89_2_j20 g k at_ cnt id end_ true b nd 0 ea pl hid en kn dp op acc s1 s2 s3 s4 s5 xid xb xs xu X0 X1 =
    f89_2_j24 g k at_ cnt id end_ true b (IntKind.i64.wrap (nd + 1)) 2 at_ pl hid en kn dp op acc s1 s2 s3 s4 s5 xid xb xs xu X0 X1 := by
  simp only [f89_2_j20, deT h, f105_2, beq_self_eq_true, cond_true, cond_false]
theorem rj20_ok {R : Type} {g : Nat → f89_2_T R} {k : Nat} {at_ cnt id end_ : Int} {b : List Int} {nd er ea : Int} {pl : List D1} {hid en kn dp : Int} {op : Bool} {acc : List D2} {s1 : Int} {s2 : ByteArray} {s3 : Int} {s4 s5 : Bool} {xid xb xs : Int} {xu : Bool} {X0 : Int → List D2 → List Int → Int → Int → Int → List D1 → Option R} {X1 : Int → Int → List Int → Int → Int → Int → List D1 → Int → Int → Int → Int → Bool → List D2 → Option R} (h : ¬ IntKind.i64.wrap (nd + 1) > 4000) :
    f89_2_j20 g k at_ cnt id end_ true b nd er ea pl hid en kn dp op acc s1 s2 s3 s4 s5 xid xb xs xu X0 X1 =
    f89_2_j24 g k at_ cnt id end_ true b (IntKind.i64.wrap (nd + 1)) er ea pl hid en kn dp op acc s1 s2 s3 s4 s5 xid xb xs xu X0 X1 := by
  simp only [f89_2_j20, deF h, cond_true, cond_false]
theorem rj24_bad {R : Type} {g : Nat → f89_2_T R} {k : Nat} {at_ cnt id end_ : Int} {node : Bool} {b : List Int} {nd er ea : Int} {pl : List D1} {hid en kn dp : Int} {op : Bool} {acc : List D2} {s1 : Int} {s2 : ByteArray} {s3 : Int} {s4 s5 : Bool} {xid xb xs : Int} {xu : Bool} {X0 : Int → List D2 → List Int → Int → Int → Int → List D1 → Option R} {X1 : Int → Int → List Int → Int → Int → Int → List D1 → Int → Int → Int → Int → Bool → List D2 → Option R} (h : er ≠ 0) :
    f89_2_j24 g k at_ cnt id end_ node b nd er ea pl hid en kn dp op acc s1 s2 s3 s4 s5 xid xb xs xu X0 X1 =
    X0 at_ acc b nd er ea pl := by
  simp only [f89_2_j24, bnT h, cond_true]
theorem rj20_err {R : Type} {g : Nat → f89_2_T R} {k : Nat} {at_ cnt id end_ : Int} {node : Bool} {b : List Int} {nd er ea : Int} {pl : List D1} {hid en kn dp : Int} {op : Bool} {acc : List D2} {s1 : Int} {s2 : ByteArray} {s3 : Int} {s4 s5 : Bool} {xid xb xs : Int} {xu : Bool} {X0 : Int → List D2 → List Int → Int → Int → Int → List D1 → Option R} {X1 : Int → Int → List Int → Int → Int → Int → List D1 → Int → Int → Int → Int → Bool → List D2 → Option R} (h : er ≠ 0) :
    f89_2_j20 g k at_ cnt id end_ node b nd er ea pl hid en kn dp op acc s1 s2 s3 s4 s5 xid xb xs xu X0 X1 =
    X0 at_ acc b (bif node then IntKind.i64.wrap (nd + 1) else nd) er ea pl := by
  simp only [f89_2_j20]
  cases node
  · simp only [cond_false]; rw [rj24_bad h]
  · by_cases h2 : IntKind.i64.wrap (nd + 1) > 4000
    · simp only [deT h2, cond_true, f105_2, beF h, cond_false]; rw [rj24_bad h]
    · simp only [deF h2, cond_true, cond_false]; rw [rj24_bad h]
theorem rj24_ok {R : Type} {g : Nat → f89_2_T R} {k : Nat} {at_ cnt id end_ : Int} {node : Bool} {b : List Int} {nd ea : Int} {pl : List D1} {hid en kn dp : Int} {op : Bool} {acc : List D2} {s1 : Int} {s2 : ByteArray} {s3 : Int} {s4 s5 : Bool} {xid xb xs : Int} {xu : Bool} {X0 : Int → List D2 → List Int → Int → Int → Int → List D1 → Option R} {X1 : Int → Int → List Int → Int → Int → Int → List D1 → Int → Int → Int → Int → Bool → List D2 → Option R} (hr : room 48 (pl.length + [(id, at_, xb, 0, dp, xu)].length) = true) :
    f89_2_j24 g k at_ cnt id end_ node b nd 0 ea pl hid en kn dp op acc s1 s2 s3 s4 s5 xid xb xs xu X0 X1 =
    f89_2_j30 g k at_ cnt id end_ node (pl.length : Int) end_ (node && s4) b nd 0 ea (pl ++ [(id, at_, xb, 0, dp, xu)]) hid en kn dp op acc xid xb xs xu id s4 (fun at_ cnt node place next b nd er ea pl hid en kn dp op acc xid xb xs xu nid ng dat kids => f89_2_j35 g k at_ cnt node place next b nd er ea pl hid en kn dp op acc xid xb xs xu nid ng dat kids X0 X1) := by
  simp only [f89_2_j24, bnF rfl, cond_false, hr, cond_true]
  cases node <;> rfl
theorem rj30_grp {R : Type} {g : Nat → f89_2_T R} {k : Nat} {at_ cnt id end_ : Int} {node : Bool} {place next : Int} {b : List Int} {nd er ea : Int} {pl : List D1} {hid en kn dp : Int} {op : Bool} {acc : List D2} {xid xb xs : Int} {xu : Bool} {nid : Int} {ng : Bool} {X0 : Int → Int → Bool → Int → Int → List Int → Int → Int → Int → List D1 → Int → Int → Int → Int → Bool → List D2 → Int → Int → Int → Bool → Int → Bool → List Int → List D2 → Option R} :
    f89_2_j30 g k at_ cnt id end_ node place next true b nd er ea pl hid en kn dp op acc xid xb xs xu nid ng X0 =
    g k (IntKind.i64.wrap (at_ + xb)) id (bif xu then en else end_) (bif xu then kn else end_) (IntKind.i64.wrap (dp + 1)) xu b nd er ea pl (fun next b nd er ea kids pl => X0 at_ cnt node place next b nd er ea pl hid en kn dp op acc xid xb xs xu nid ng [] kids) := by
  simp only [f89_2_j30, f89_2_j33, cond_true]
  cases xu <;> rfl
theorem rj30_leaf {R : Type} {g : Nat → f89_2_T R} {k : Nat} {at_ cnt id end_ : Int} {node : Bool} {place next : Int} {b : List Int} {nd er ea : Int} {pl : List D1} {hid en kn dp : Int} {op : Bool} {acc : List D2} {xid xb xs : Int} {xu : Bool} {nid : Int} {ng : Bool} {X0 : Int → Int → Bool → Int → Int → List Int → Int → Int → Int → List D1 → Int → Int → Int → Int → Bool → List D2 → Int → Int → Int → Bool → Int → Bool → List Int → List D2 → Option R} (h1 : upto end_ b.length = true) (h2 : (decide (0 ≤ (IntKind.i64.wrap (at_ + xb))) && decide ((IntKind.i64.wrap (at_ + xb)) ≤ end_)) = true) (h3 : room 1 ((b.take end_.toNat).drop (IntKind.i64.wrap (at_ + xb)).toNat).length = true) :
    f89_2_j30 g k at_ cnt id end_ node place next false b nd er ea pl hid en kn dp op acc xid xb xs xu nid ng X0 =
    X0 at_ cnt node place next b nd er ea pl hid en kn dp op acc xid xb xs xu nid ng ((b.take end_.toNat).drop (IntKind.i64.wrap (at_ + xb)).toNat) [] := by
  simp only [f89_2_j30, cond_false, h1, h2, h3, cond_true]
theorem rj35_bad {R : Type} {g : Nat → f89_2_T R} {k : Nat} {at_ cnt : Int} {node : Bool} {place next : Int} {b : List Int} {nd er ea : Int} {pl : List D1} {hid en kn dp : Int} {op : Bool} {acc : List D2} {xid xb xs : Int} {xu : Bool} {nid : Int} {ng : Bool} {dat : List Int} {kids : List D2} {X0 : Int → List D2 → List Int → Int → Int → Int → List D1 → Option R} {X1 : Int → Int → List Int → Int → Int → Int → List D1 → Int → Int → Int → Int → Bool → List D2 → Option R} (h : er ≠ 0) :
    f89_2_j35 g k at_ cnt node place next b nd er ea pl hid en kn dp op acc xid xb xs xu nid ng dat kids X0 X1 =
    X0 at_ acc b nd er ea pl := by
  simp only [f89_2_j35, bnT h, cond_true]
theorem rj35_node {R : Type} {g : Nat → f89_2_T R} {k : Nat} {at_ cnt place next : Int} {b : List Int} {nd ea : Int} {pl : List D1} {hid en kn dp : Int} {op : Bool} {acc : List D2} {xid xb xs : Int} {xu : Bool} {nid : Int} {ng : Bool} {dat : List Int} {kids : List D2} {X0 : Int → List D2 → List Int → Int → Int → Int → List D1 → Option R} {X1 : Int → Int → List Int → Int → Int → Int → List D1 → Int → Int → Int → Int → Bool → List D2 → Option R} (h1 : inb place pl.length = true) (h2 : room 64 (acc.length + [D2.mk nid dat kids ng].length) = true) :
    f89_2_j35 g k at_ cnt true place next b nd 0 ea pl hid en kn dp op acc xid xb xs xu nid ng dat kids X0 X1 =
    X1 next cnt b nd 0 ea (setSz pl place.toNat (IntKind.i64.wrap (IntKind.i64.wrap (next - at_) - xb))) hid en kn dp op (acc ++ [D2.mk nid dat kids ng]) := by
  simp only [f89_2_j35, bnF rfl, cond_false, h1, h2, cond_true]
  rfl
theorem rj35_no {R : Type} {g : Nat → f89_2_T R} {k : Nat} {at_ cnt place next : Int} {b : List Int} {nd ea : Int} {pl : List D1} {hid en kn dp : Int} {op : Bool} {acc : List D2} {xid xb xs : Int} {xu : Bool} {nid : Int} {ng : Bool} {dat : List Int} {kids : List D2} {X0 : Int → List D2 → List Int → Int → Int → Int → List D1 → Option R} {X1 : Int → Int → List Int → Int → Int → Int → List D1 → Int → Int → Int → Int → Bool → List D2 → Option R} (h1 : inb place pl.length = true) :
    f89_2_j35 g k at_ cnt false place next b nd 0 ea pl hid en kn dp op acc xid xb xs xu nid ng dat kids X0 X1 =
    X1 next cnt b nd 0 ea (setSz pl place.toNat (IntKind.i64.wrap (IntKind.i64.wrap (next - at_) - xb))) hid en kn dp op acc := by
  simp only [f89_2_j35, bnF rfl, cond_false, h1, cond_true]
  rfl
/-- The loop over the elements of a holder, as the document does it. -/
noncomputable def lvR {R : Type} (g : Nat → f89_2_T R) (k : Nat) (at_ cnt : Int) (b : List Int) (nd er ea : Int) (pl : List D1) (hid en kn dp : Int) (op : Bool) (acc : List D2) (X : Int → List D2 → List Int → Int → Int → Int → List D1 → Option R) : Option R :=
  f89_2_l3 g k at_ cnt b nd er ea pl hid en kn dp op acc X X
end Go.Proofs.Ytklhjegfkpmdoaa

/-! The size and the sum of an element, and one round, by the document. -/
namespace Go.Proofs.Ytklhjegfkpmdoaa
open Go Go.Am

/-- The nearest end that is known. -/
def Ho.kn (h : Ho) : Int := if h.fm = true then (h.en : Int) else -1
theorem f103_2_v (b : List Int) (hl : b.length ≤ 1048576) {at_ h1 sz : Nat} {unk : Bool} (p3 : at_ + h1 ≤ b.length) (p4 : sz < 72057594037927936) (hu : unk = true → sz = 0) (h : Ho) (hh : h.en ≤ b.length) (xid : Int) (s : D0) (k : Nat) (R : Type) (nd ea : Int) (pl : List D1) (K : Int → List Int → Int → Int → Int → List D1 → Option R) :
    f103_2 k (at_ : Int) xid (h1 : Int) (sz : Int) unk s.1 s.2.1 s.2.2.1 s.2.2.2.1 s.2.2.2.2 h.id (h.en : Int) h.kn (h.dp : Int) h.op b nd 0 ea pl K =
    if ((unk && !s.2.2.2.2) || (h.fm && decide (h.en < at_ + h1 + sz))) = true then K (-1) b nd 41 (at_ : Int) pl
    else if b.length < at_ + h1 + sz then K (-1) b nd 3 (at_ : Int) pl
    else if unk = true then K (-1) b nd 0 ea pl else K ((at_ + h1 + sz : Nat) : Int) b nd 0 ea pl := by
  have w1 : IntKind.i64.wrap ((at_ : Int) + (h1 : Int)) = ((at_ + h1 : Nat) : Int) := wrapAdd (by omega)
  have w2 : IntKind.i64.wrap ((b.length : Int) - ((at_ + h1 : Nat) : Int)) = ((b.length - (at_ + h1) : Nat) : Int) := wrapSub p3 (by omega)
  have f41 : ∀ (K : List Int → Int → Int → Int → List D1 → Option R) (c : Int), f105_2 k (at_ : Int) c b nd 0 ea pl K = K b nd c (at_ : Int) pl := fun K c => by simp only [f105_2, beq_self_eq_true, cond_true]
  unfold Ho.kn
  cases hf : h.fm with
  | true =>
    rw [if_pos rfl]
    have g0 : decide ((h.en : Int) ≥ 0) = true := decide_eq_true (by omega)
    by_cases c1 : h.en < at_ + h1
    · rw [if_pos (by simp; omega)]
      simp only [f103_2, g0, cond_true, w1, deT (show ((at_ + h1 : Nat) : Int) > (h.en : Int) by omega), f41]
    · have t1 : decide (((at_ + h1 : Nat) : Int) > (h.en : Int)) = false := decide_eq_false (by omega)
      have w3 : IntKind.i64.wrap ((h.en : Int) - ((at_ + h1 : Nat) : Int)) = ((h.en - (at_ + h1) : Nat) : Int) := wrapSub (by omega) (by omega)
      cases hk : unk with
      | true =>
        have := hu hk; subst this
        cases h5 : s.2.2.2.2 with
        | true =>
          rw [if_neg (by simp; omega), if_neg (by omega), if_pos rfl]
          simp only [f103_2, g0, cond_true, w1, t1, cond_false, Bool.not_true]
        | false =>
          rw [if_pos (by simp)]
          simp only [f103_2, g0, cond_true, w1, t1, cond_false, Bool.not_false, f41]
      | false =>
        by_cases c2 : h.en < at_ + h1 + sz
        · rw [if_pos (by simp; omega)]
          simp only [f103_2, g0, cond_true, w1, t1, cond_false, w3, deT (show (sz : Int) > ((h.en - (at_ + h1) : Nat) : Int) by omega), f41]
        · rw [if_neg (by simp; omega), if_neg (by omega), if_neg (by simp)]
          simp only [f103_2, g0, cond_true, w1, t1, cond_false, w3, w2, deF (show ¬ (sz : Int) > ((h.en - (at_ + h1) : Nat) : Int) by omega), deF (show ¬ (sz : Int) > ((b.length - (at_ + h1) : Nat) : Int) by omega)]
          rw [wrapAdd (by omega)]
  | false =>
    rw [if_neg (by simp)]
    have g0 : decide ((-1 : Int) ≥ 0) = false := by decide
    cases hk : unk with
    | true =>
      have := hu hk; subst this
      cases h5 : s.2.2.2.2 with
      | true =>
        rw [if_neg (by simp), if_neg (by omega), if_pos rfl]
        simp only [f103_2, g0, cond_true, cond_false, Bool.not_true]
      | false =>
        rw [if_pos (by simp)]
        simp only [f103_2, g0, cond_true, cond_false, Bool.not_false, f41]
    | false =>
      rw [if_neg (by simp)]
      by_cases c2 : b.length < at_ + h1 + sz
      · rw [if_pos c2]
        simp only [f103_2, g0, cond_true, w1, cond_false, w2, deT (show (sz : Int) > ((b.length - (at_ + h1) : Nat) : Int) by omega), f41]
      · rw [if_neg c2, if_neg (by simp)]
        simp only [f103_2, g0, w1, cond_false, w2, deF (show ¬ (sz : Int) > ((b.length - (at_ + h1) : Nat) : Int) by omega)]
        rw [wrapAdd (by omega)]

theorem f104_loop (b : List Int) (hb : okBy b) (hl : b.length ≤ 1048576) {fr : Nat} (h : fr + 4 ≤ b.length) (at_ nd er : Int) (pl : List D1) (hid en kn dp : Int) (op : Bool) (R : Type) : ∀ i, i ≤ 4 → Ev fun k => ∀ (ea v : Int) (X : Int → Int → Int → List Int → Int → Int → Int → List D1 → Int → Int → Int → Int → Bool → Option R), 0 ≤ v → v < 256 ^ i →
    f104_2_l3 k at_ ((fr + 4 : Nat) : Int) v ((fr + i : Nat) : Int) b nd er ea pl hid en kn dp op X = X at_ ((fr + 4 : Nat) : Int) (valF (((b.drop fr).take 4).drop i) v) b nd er ea pl hid en kn dp op := by
  have el : ((b.drop fr).take 4).length = 4 := by simp; omega
  refine Ev.down 4 ?_ ?_
  · exact Ev.suc (.all fun k ea v X _ _ => by
      have e : ((b.drop fr).take 4).drop 4 = [] := List.drop_eq_nil_of_le (by omega)
      simp [f104_2_l3, valF, e])
  · intro i hi hh
    refine Ev.suc (hh.imp fun k hk ea v X h0 h1 => ?_)
    have hi2 : fr + i < b.length := by omega
    have hc := hb.get hi2
    have hp : (256 : Int) ^ i ≤ 16777216 := by
      have h2 : (256 : Nat) ^ i ≤ 16777216 := Nat.le_trans (Nat.pow_le_pow_right (by decide) (show i ≤ 3 by omega)) (by decide)
      have e : ((256 ^ i : Nat) : Int) = (256 : Int) ^ i := Int.natCast_pow 256 i
      omega
    have ed : ((b.drop fr).take 4).drop i = b[fr + i] :: ((b.drop fr).take 4).drop (i + 1) := by
      rw [List.drop_eq_getElem_cons (by omega)]
      congr 1
      simp
    have w2 : IntKind.i64.wrap (v * 256) = v * 256 := wrap64 (by omega) (by omega)
    have w3 : IntKind.i64.wrap b[fr + i] = b[fr + i] := wrap64 (by omega) (by omega)
    have w4 : IntKind.i64.wrap (v * 256 + b[fr + i]) = v * 256 + b[fr + i] := wrap64 (by omega) (by omega)
    have hv : v * 256 + b[fr + i] < 256 ^ (i + 1) := by
      rw [Int.pow_succ]; omega
    rw [f104_2_l3, lt_nat, inb_nat, wrapSuc (by omega)]
    simp only [show fr + i < fr + 4 by omega, hi2, decide_true, cond_true, Int.toNat_natCast, getD_get hi2, w2, w3, w4]
    rw [show fr + i + 1 = fr + (i + 1) by omega, hk ea _ X (by omega) hv, ed, valF_cons]
theorem f104_2_v (b : List Int) (hb : okBy b) (hl : b.length ≤ 1048576) {at_ h1 sz cnt : Nat} (h : Ho) (inn : at_ + h1 + sz ≤ h.en) (he : h.en ≤ b.length) (R : Type) (nd : Int) (pl : List D1) : Ev fun k => ∀ (ea : Int) (K : List Int → Int → Int → Int → List D1 → Option R),
    f104_2 k (at_ : Int) ((at_ + h1 : Nat) : Int) ((at_ + h1 + sz : Nat) : Int) (cnt : Int) h.id (h.en : Int) h.kn (h.dp : Int) h.op b nd 0 ea pl K =
    if (h.id == 0 || decide (0 < cnt)) = true then K b nd 42 (at_ : Int) pl else if 8 < h.dp then K b nd 43 (at_ : Int) pl
    else if sz ≠ 4 ∨ h.op = true then K b nd 4 (at_ : Int) pl else if numB b (at_ + h1) 4 ≠ IntKind.i64.wrap (sumB ((b.take h.en).drop (at_ + h1 + 4))) then K b nd 6 (at_ : Int) pl else K b nd 0 ea pl := by
  have f41 : ∀ (k : Nat) (ea : Int) (K : List Int → Int → Int → Int → List D1 → Option R) (c : Int), f105_2 k (at_ : Int) c b nd 0 ea pl K = K b nd c (at_ : Int) pl := fun k ea K c => by simp only [f105_2, beq_self_eq_true, cond_true]
  by_cases c1 : (h.id == 0 || decide (0 < cnt)) = true
  · refine .all fun k ea K => ?_
    rw [if_pos c1]
    cases h0 : h.id == 0 with
    | true => simp only [f104_2, h0, cond_true, f41]
    | false =>
      rw [h0] at c1; simp at c1
      simp only [f104_2, h0, cond_false, deT (show (cnt : Int) > 0 by omega), cond_true, f41]
  · have c1n := c1
    have c1 : (h.id == 0) = false ∧ cnt = 0 := by simpa using c1
    have d0 : decide ((cnt : Int) > 0) = false := decide_eq_false (by omega)
    by_cases c2 : 8 < h.dp
    · refine .all fun k ea K => ?_
      rw [if_neg c1n, if_pos c2]
      simp only [f104_2, c1.1, cond_false, d0, deT (show (h.dp : Int) > 8 by omega), cond_true, f41]
    · have d2 : decide ((h.dp : Int) > 8) = false := decide_eq_false (by omega)
      have w : IntKind.i64.wrap (((at_ + h1 + sz : Nat) : Int) - ((at_ + h1 : Nat) : Int)) = (sz : Int) := by rw [wrapSub (by omega) (by omega)]; omega
      by_cases c3 : sz ≠ 4 ∨ h.op = true
      · refine .all fun k ea K => ?_
        rw [if_neg c1n, if_neg c2, if_pos c3]
        cases ho : h.op with
        | true => simp only [f104_2, c1.1, cond_false, d0, d2, cond_true, f41, ho]
        | false =>
          rw [ho] at c3; simp at c3
          simp only [f104_2, c1.1, cond_false, d0, d2, cond_true, f41, ho, w, bnT (show ¬ (sz : Int) = 4 by omega)]
      · have c3' : sz = 4 ∧ h.op = false := by
          cases ho : h.op with
          | true => exact absurd (.inr ho) c3
          | false => exact ⟨by by_cases c : sz = 4; exact c; exact absurd (.inl c) c3, rfl⟩
        obtain ⟨rfl, ho⟩ := c3'
        have nb := numB_bound hb (at_ := at_ + h1) (n := 4) (by omega)
        refine (f104_loop b hb hl (fr := at_ + h1) (by omega) (at_ : Int) nd 0 pl h.id (h.en : Int) h.kn (h.dp : Int) h.op R 0 (by omega)).imp2 (f94_v ((b.take h.en).drop (at_ + h1 + 4)) (by rw [reachV]; simp; omega) R) fun k hlp h94 ea K => ?_
        rw [if_neg c1n, if_neg c2, if_neg c3]
        simp only [f104_2, c1.1, cond_false, d0, d2, cond_true, f41, ho, w, bnF (show ((4 : Nat) : Int) = 4 from rfl)]
        simp only [Nat.add_zero, List.drop_zero, ho] at hlp
        rw [hlp ea 0 _ (by omega) (by decide)]
        simp (disch := omega) only [upT, deT, Bool.and_self, cond_true, Int.toNat_natCast, h94]
        show (bif numB b (at_ + h1) 4 != _ then _ else _) = _
        by_cases d : numB b (at_ + h1) 4 = IntKind.i64.wrap (sumB ((b.take h.en).drop (at_ + h1 + 4)))
        · rw [if_neg (by simpa using d), bnF d]; rfl
        · rw [if_pos d, bnT d]; rfl
end Go.Proofs.Ytklhjegfkpmdoaa

/-! One round of the document. -/
namespace Go.Proofs.Ytklhjegfkpmdoaa
open Go Go.Am

theorem known0 : known 0 = false := by kernel_rfl
theorem idR_head {b : List Int} {at_ : Nat} (hat : at_ < b.length) {id : Int} {h1 sz : Nat} {unk : Bool} (e : headR b at_ = .ok id h1 sz unk) : (idR b (at_ : Int)).1 = id ∧ (idR b (at_ : Int)).2.2 = 0 := by
  have hgd : b.getD at_ 0 = b[at_] := getD_get hat
  have hid : idR b (at_ : Int) = (if idLen b[at_] = 0 then (0, 0, 40) else if b.length - at_ < idLen b[at_] then (0, 0, 3) else if isIdB (numB b at_ (idLen b[at_])) (idLen b[at_]) = false then (0, 0, 40) else (numB b at_ (idLen b[at_]), (idLen b[at_] : Int), 0)) := by
    unfold idR
    rw [if_neg (by omega), if_neg (by omega)]
    simp only [Int.toNat_natCast, hgd]
  unfold headR at e
  rw [hgd] at e
  split at e; · simp at e
  split at e; · simp at e
  split at e; · simp at e
  split at e; · simp at e
  rename_i a1 a2 a3 a4
  rw [hid, if_neg a1, if_neg (by omega), if_neg a3]
  simp only [HR.ok.injEq] at e
  exact ⟨e.1, rfl⟩
/-- Does the document leave a holder without a size here, before it reads the head? -/
noncomputable def early (b : List Int) (h : Ho) (at_ : Nat) : Bool :=
  h.op && ((idR b (at_ : Int)).2.2 == 0) && known (idR b (at_ : Int)).1 && ((idR b (at_ : Int)).1 != 236) && ((idR b (at_ : Int)).1 != 237) && !within (rowOf (idR b (at_ : Int)).1) h.id
theorem early_op {b : List Int} {h : Ho} {at_ : Nat} (e : early b h at_ = true) : h.op = true := by
  unfold early at e; simp only [Bool.and_eq_true] at e; exact e.1.1.1.1.1
theorem nfree (id : Int) : (known id && ((id != 236) && (id != 237))) = !free id := by
  cases hk : known id with
  | false => unfold free; rw [hk]; rfl
  | true =>
    rw [free_known hk, bne, bne]
    cases id == 236 <;> cases id == 237 <;> rfl
theorem early_ok {b : List Int} {h : Ho} {at_ : Nat} (hat : at_ < b.length) {id : Int} {h1 sz : Nat} {unk : Bool} (e : headR b at_ = .ok id h1 sz unk) : early b h at_ = (h.op && (!free id && !within (rowOf id) h.id)) := by
  obtain ⟨e1, e2⟩ := idR_head hat e
  unfold early
  rw [e1, e2, ← nfree]
  simp only [beq_self_eq_true, Bool.and_true, Bool.and_assoc]
theorem start_r (b : List Int) (hb : okBy b) (hl : b.length ≤ 1048576) (h : Ho) (hh : h.en ≤ b.length) (at_ : Nat) (hat : at_ < h.en) (R : Type) : Ev fun k => ∀ (g : Nat → f89_2_T R) (cnt nd ea : Int) (pl : List D1) (acc : List D2) (X : Int → List D2 → List Int → Int → Int → Int → List D1 → Option R),
    lvR g (k + 1) (at_ : Int) cnt b nd 0 ea pl h.id (h.en : Int) h.kn (h.dp : Int) h.op acc X =
    bif early b h at_ then X (at_ : Int) acc b nd 0 ea pl else
      f89_2_j9 g k (at_ : Int) cnt (idR b (at_ : Int)).1 (known (idR b (at_ : Int)).1) b nd 0 ea pl h.id (h.en : Int) h.kn (h.dp : Int) h.op acc (rowOf (idR b (at_ : Int)).1).1 (rowOf (idR b (at_ : Int)).1).2.1 (rowOf (idR b (at_ : Int)).1).2.2.1 (rowOf (idR b (at_ : Int)).1).2.2.2.1 (rowOf (idR b (at_ : Int)).1).2.2.2.2 X
        (fun at_ cnt b nd er ea pl hid en kn dp op acc => lvR g k at_ (IntKind.i64.wrap (cnt + 1)) b nd er ea pl hid en kn dp op acc X) := by
  have hlr : b.length ≤ reachBytes := by rw [reachV]; omega
  refine (f30_v b hb hlr (at_ : Int)).imp2 (f26_v (idR b (at_ : Int)).1 R) fun k h30 h26 g cnt nd ea pl acc X => ?_
  rw [lvR, f89_2_l3]
  simp only [deT (show (at_ : Int) < (h.en : Int) by omega), cond_true, beq_self_eq_true, f89_2_j5, h30, h26, early]
  cases ho : h.op with
  | false => simp only [cond_false, Bool.false_and, rj8_v]; rfl
  | true =>
    cases h0 : (idR b (at_ : Int)).2.2 == 0 with
    | false => simp only [cond_true, cond_false, Bool.false_and, Bool.and_false, rj8_v]; rfl
    | true =>
      cases hk : known (idR b (at_ : Int)).1 with
      | false => simp only [cond_true, cond_false, Bool.false_and, Bool.and_false, rj8_v]; rfl
      | true =>
        cases n1 : (idR b (at_ : Int)).1 != 236 with
        | false => simp only [cond_true, cond_false, Bool.false_and, Bool.and_false, rj8_v]; rfl
        | true =>
          cases n2 : (idR b (at_ : Int)).1 != 237 with
          | false => simp only [cond_true, cond_false, Bool.false_and, Bool.and_false, rj8_v]; rfl
          | true => simp only [cond_true, Bool.true_and, rj8_v, f98_v]; rfl
theorem bad_r (b : List Int) (hb : okBy b) (hl : b.length ≤ 1048576) (h : Ho) (hh : h.en ≤ b.length) (at_ : Nat) (hat : at_ < h.en) {c : Int} (hd : headR b at_ = .bad c) (R : Type) : Ev fun k => ∀ (g : Nat → f89_2_T R) (cnt nd ea : Int) (pl : List D1) (acc : List D2) (X : Int → List D2 → List Int → Int → Int → Int → List D1 → Option R),
    lvR g (k + 1) (at_ : Int) cnt b nd 0 ea pl h.id (h.en : Int) h.kn (h.dp : Int) h.op acc X =
    bif early b h at_ then X (at_ : Int) acc b nd 0 ea pl else X (at_ : Int) acc b nd c (at_ : Int) pl := by
  have h102 := f102_2_v b hb hl at_ (by omega) R
  rw [hd] at h102
  refine (start_r b hb hl h hh at_ hat R).imp2 h102 fun k hs h102 g cnt nd ea pl acc X => ?_
  dsimp only at h102
  rw [hs]
  cases early b h at_ with
  | true => rfl
  | false => simp only [f89_2_j9, h102, Bool.not_false, cond_true, cond_false]

/-- An element, by the document: behind its checks. -/
noncomputable def elR {R : Type} (g : Nat → f89_2_T R) (k : Nat) (h : Ho) (at_ cnt : Nat) (id : Int) (h1 sz : Nat) (unk : Bool) (b : List Int) (nd : Nat) (ea : Int) (pl : List D1) (acc : List D2) (X : Int → List D2 → List Int → Int → Int → Int → List D1 → Option R) : Option R :=
  if free id = true then lvR g k ((at_ + h1 + sz : Nat) : Int) ((cnt + 1 : Nat) : Int) b (nd : Int) 0 ea (pl ++ [plc id at_ h1 sz h.dp unk]) h.id (h.en : Int) h.kn (h.dp : Int) h.op acc X
  else if 4000 < nd + 1 then X (at_ : Int) acc b ((nd + 1 : Nat) : Int) 2 (at_ : Int) pl
  else if (rowOf id).2.2.2.1 = false then lvR g k ((at_ + h1 + sz : Nat) : Int) ((cnt + 1 : Nat) : Int) b ((nd + 1 : Nat) : Int) 0 ea (pl ++ [plc id at_ h1 sz h.dp unk]) h.id (h.en : Int) h.kn (h.dp : Int) h.op (acc ++ [D2.mk id ((b.drop (at_ + h1)).take sz) [] false]) X
  else g k ((at_ + h1 : Nat) : Int) (h.inner id (at_ + h1 + sz) unk).id ((h.inner id (at_ + h1 + sz) unk).en : Int) (h.inner id (at_ + h1 + sz) unk).kn ((h.inner id (at_ + h1 + sz) unk).dp : Int) (h.inner id (at_ + h1 + sz) unk).op b ((nd + 1 : Nat) : Int) 0 ea (pl ++ [plc id at_ h1 0 h.dp unk])
    (fun next b nd er ea kids pl' => f89_2_j35 g k (at_ : Int) (cnt : Int) true (pl.length : Int) next b nd er ea pl' h.id (h.en : Int) h.kn (h.dp : Int) h.op acc id (h1 : Int) (sz : Int) unk id true [] kids X
      (fun at_ cnt b nd er ea pl hid en kn dp op acc => lvR g k at_ (IntKind.i64.wrap (cnt + 1)) b nd er ea pl hid en kn dp op acc X))
theorem setSz_end (pl : List D1) (id : Int) (at_ h1 x dp : Nat) (unk : Bool) (n : Nat) : setSz (pl ++ [plc id at_ h1 x dp unk]) pl.length (n : Int) = pl ++ [plc id at_ h1 n dp unk] := by
  unfold setSz
  have e : (pl ++ [plc id at_ h1 x dp unk]).getD pl.length zero1 = plc id at_ h1 x dp unk := by simp [List.getD]
  rw [e]; simp [plc]
theorem ok_r (b : List Int) (hb : okBy b) (hl : b.length ≤ 1048576) (h : Ho) (hh : h.Ok b) (at_ cnt : Nat) (hat : at_ < h.en) (hcnt : cnt ≤ at_) {id : Int} {h1 sz : Nat} {unk : Bool} (hd : headR b at_ = .ok id h1 sz unk) (R : Type) (nd : Nat) (hnd : nd ≤ 4000) (pl : List D1) (hpl : pl.length ≤ at_) (acc : List D2) (hac : acc.length ≤ at_) :
    Ev fun k => ∀ (g : Nat → f89_2_T R) (ea : Int) (X : Int → List D2 → List Int → Int → Int → Int → List D1 → Option R),
    if (h.op && (!free id && !within (rowOf id) h.id)) = true then lvR g (k + 1) (at_ : Int) (cnt : Int) b (nd : Int) 0 ea pl h.id (h.en : Int) h.kn (h.dp : Int) h.op acc X = X (at_ : Int) acc b (nd : Int) 0 ea pl
    else if chkE b h (cnt == 0) at_ h1 sz unk id ≠ 0 then ∃ nd' : Int, lvR g (k + 1) (at_ : Int) (cnt : Int) b (nd : Int) 0 ea pl h.id (h.en : Int) h.kn (h.dp : Int) h.op acc X = X (at_ : Int) acc b nd' (chkE b h (cnt == 0) at_ h1 sz unk id) (at_ : Int) pl
    else lvR g (k + 1) (at_ : Int) (cnt : Int) b (nd : Int) 0 ea pl h.id (h.en : Int) h.kn (h.dp : Int) h.op acc X = elR g k h at_ cnt id h1 sz unk b nd ea pl acc X := by
  obtain ⟨hh1, hh2, hh3⟩ := hh
  have h102 := f102_2_v b hb hl at_ (by omega) R
  rw [hd] at h102
  obtain ⟨e1, e2⟩ := idR_head (show at_ < b.length by omega) hd
  obtain ⟨p1, p2, p3, p4, p5, p6⟩ := head_ok hb hd
  have hs := start_r b hb hl h hh1 at_ hat R
  have he := early_ok (h := h) (show at_ < b.length by omega) hd
  have h103 := f103_2_v b hl p3 p4 p5 h hh1 id (rowOf id)
  by_cases st : (h.op && (!free id && !within (rowOf id) h.id)) = true
  · refine hs.imp fun k hs g ea X => ?_
    rw [if_pos st, hs, he, st]; rfl
  · have stf : early b h at_ = false := by rw [he]; simpa using st
    by_cases c1 : ((unk && !(rowOf id).2.2.2.2) || (h.fm && decide (h.en < at_ + h1 + sz))) = true
    · have ce : chkE b h (cnt == 0) at_ h1 sz unk id = 41 := by unfold chkE; rw [if_pos c1]
      refine hs.imp2 h102 fun k hs h102 g ea X => ?_
      dsimp only at h102
      rw [if_neg st, if_pos (by rw [ce]; decide)]
      refine ⟨nd, ?_⟩
      rw [hs, stf, ce, e1]
      simp only [f89_2_j9, h102, Bool.not_true, cond_false, h103, if_pos c1, bnT (show ¬ (41 : Int) = 0 by decide), cond_true]
    · by_cases c2 : b.length < at_ + h1 + sz
      · have ce : chkE b h (cnt == 0) at_ h1 sz unk id = 3 := by unfold chkE; rw [if_neg c1, if_pos c2]
        refine hs.imp2 h102 fun k hs h102 g ea X => ?_
        dsimp only at h102
        rw [if_neg st, if_pos (by rw [ce]; decide)]
        refine ⟨nd, ?_⟩
        rw [hs, stf, ce, e1]
        simp only [f89_2_j9, h102, Bool.not_true, cond_false, h103, if_neg c1, if_pos c2, bnT (show ¬ (3 : Int) = 0 by decide), cond_true]
      · have inn : at_ + h1 + sz ≤ h.en := by
          simp only [Bool.or_eq_true, Bool.and_eq_true, not_or, not_and, decide_eq_true_eq] at c1
          cases hf : h.fm with
          | true => have := c1.2 hf; omega
          | false => have := hh2 hf; omega
        -- the end
        have h103' : ∀ (k : Nat) (nd ea : Int) (pl : List D1) (K : Int → List Int → Int → Int → Int → List D1 → Option R),
            f103_2 k (at_ : Int) id (h1 : Int) (sz : Int) unk (rowOf id).1 (rowOf id).2.1 (rowOf id).2.2.1 (rowOf id).2.2.2.1 (rowOf id).2.2.2.2 h.id (h.en : Int) h.kn (h.dp : Int) h.op b nd 0 ea pl K = K (if unk = true then -1 else ((at_ + h1 + sz : Nat) : Int)) b nd 0 ea pl := by
          intro k nd ea pl K
          rw [h103, if_neg c1, if_neg c2]
          cases unk <;> rfl
        generalize hE : (if unk = true then (-1 : Int) else ((at_ + h1 + sz : Nat) : Int)) = E at h103'
        -- up to the Sum and the parent
        have go : ∀ (k : Nat), (∀ (g : Nat → f89_2_T R) (cnt nd ea : Int) (pl : List D1) (acc : List D2) (X : Int → List D2 → List Int → Int → Int → Int → List D1 → Option R),
            lvR g (k + 1) (at_ : Int) cnt b nd 0 ea pl h.id (h.en : Int) h.kn (h.dp : Int) h.op acc X =
            bif early b h at_ then X (at_ : Int) acc b nd 0 ea pl else
              f89_2_j9 g k (at_ : Int) cnt (idR b (at_ : Int)).1 (known (idR b (at_ : Int)).1) b nd 0 ea pl h.id (h.en : Int) h.kn (h.dp : Int) h.op acc (rowOf (idR b (at_ : Int)).1).1 (rowOf (idR b (at_ : Int)).1).2.1 (rowOf (idR b (at_ : Int)).1).2.2.1 (rowOf (idR b (at_ : Int)).1).2.2.2.1 (rowOf (idR b (at_ : Int)).1).2.2.2.2 X
                (fun at_ cnt b nd er ea pl hid en kn dp op acc => lvR g k at_ (IntKind.i64.wrap (cnt + 1)) b nd er ea pl hid en kn dp op acc X)) →
            (∀ (nd ea : Int) (pl : List D1) (K : Int → Int → Int → Bool → Bool → List Int → Int → Int → Int → List D1 → Option R), f102_2 k (at_ : Int) b nd 0 ea pl K = K id (h1 : Int) (sz : Int) unk true b nd 0 ea pl) →
            ∀ (g : Nat → f89_2_T R) (ea : Int) (X : Int → List D2 → List Int → Int → Int → Int → List D1 → Option R),
            lvR g (k + 1) (at_ : Int) (cnt : Int) b (nd : Int) 0 ea pl h.id (h.en : Int) h.kn (h.dp : Int) h.op acc X =
            f89_2_j14 g k (at_ : Int) (cnt : Int) id (known id) E (known id && id == 237) b (nd : Int) 0 ea pl h.id (h.en : Int) h.kn (h.dp : Int) h.op acc (rowOf id).1 (rowOf id).2.1 (rowOf id).2.2.1 (rowOf id).2.2.2.1 (rowOf id).2.2.2.2 id (h1 : Int) (sz : Int) unk
              (fun at_ cnt id there end_ b nd er ea pl hid en kn dp op acc s1 s2 s3 s4 s5 xid xb xs xu => f89_2_j19 g k at_ cnt id there end_ b nd er ea pl hid en kn dp op acc s1 s2 s3 s4 s5 xid xb xs xu X
                (fun at_ cnt b nd er ea pl hid en kn dp op acc => lvR g k at_ (IntKind.i64.wrap (cnt + 1)) b nd er ea pl hid en kn dp op acc X)) := by
          intro k hs h102 g ea X
          rw [hs, stf, e1]
          simp only [f89_2_j9, h102, Bool.not_true, cond_false, h103', bnF rfl]
          cases known id <;> rfl
        have sumk : (known id && id == 237) = ((rowOf id).1 == 237) := by
          cases hk : known id with
          | true => rw [row_id hk]; rfl
          | false => rw [row_none hk]; rfl
        by_cases isS : ((rowOf id).1 == 237) = true
        · -- a Sum
          have hk : known id = true ∧ id = 237 := by rw [← sumk] at isS; simpa using isS
          obtain ⟨hk1, rfl⟩ := hk
          have hfr : free 237 = true := by rw [free_known hk1]; rfl
          have hu : unk = false := by
            cases hu : unk with
            | false => rfl
            | true =>
              rw [hu, known_sum.2] at c1; simp at c1
          rw [hu] at hE
          rw [if_neg (by simp)] at hE
          have cc : (((!free 237 && !within (rowOf 237) h.id) || ((rowOf 237).1 == 237 && (h.id == 0 || !(cnt == 0)))) = true) = ((h.id == 0 || decide (0 < cnt)) = true) := by
            rw [hfr, isS]
            have : (!(cnt == 0)) = decide (0 < cnt) := by cases cnt <;> simp
            rw [this]; simp
          have ce : chkE b h (cnt == 0) at_ h1 sz unk 237 = if (h.id == 0 || decide (0 < cnt)) = true then 42 else if 8 < h.dp then 43 else if sz ≠ 4 ∨ h.op = true then 4 else if numB b (at_ + h1) 4 ≠ IntKind.i64.wrap (sumB ((b.take h.en).drop (at_ + h1 + 4))) then 6 else 0 := by
            unfold chkE
            rw [if_neg c1, if_neg c2, if_pos isS]
            simp only [cc]
          have w1 : IntKind.i64.wrap ((at_ : Int) + (h1 : Int)) = ((at_ + h1 : Nat) : Int) := wrapAdd (by omega)
          refine (hs.and h102).imp2 (f104_2_v b hb hl (cnt := cnt) h inn hh1 R (nd : Int) pl) fun k hs h104 g ea X => ?_
          have h2 := hs.2
          dsimp only at h2
          have go := go k hs.1 h2 g ea X
          rw [sumk, isS, rj14_sum, w1, ← hE, h104] at go
          rw [if_neg st]
          by_cases z : chkE b h (cnt == 0) at_ h1 sz unk 237 ≠ 0
          · rw [if_pos z]
            rw [ce] at z ⊢
            by_cases d1 : (h.id == 0 || decide (0 < cnt)) = true
            · rw [if_pos d1] at go ⊢
              rw [rj19_v, rj20_err (by decide)] at go
              exact ⟨_, go⟩
            · rw [if_neg d1] at go z ⊢
              by_cases d2 : 8 < h.dp
              · rw [if_pos d2] at go ⊢
                rw [rj19_v, rj20_err (by decide)] at go
                exact ⟨_, go⟩
              · rw [if_neg d2] at go z ⊢
                by_cases d3 : sz ≠ 4 ∨ h.op = true
                · rw [if_pos d3] at go ⊢
                  rw [rj19_v, rj20_err (by decide)] at go
                  exact ⟨_, go⟩
                · rw [if_neg d3] at go z ⊢
                  by_cases d4 : numB b (at_ + h1) 4 ≠ IntKind.i64.wrap (sumB ((b.take h.en).drop (at_ + h1 + 4)))
                  · rw [if_pos d4] at go ⊢
                    rw [rj19_v, rj20_err (by decide)] at go
                    exact ⟨_, go⟩
                  · rw [if_neg d4] at z; exact absurd rfl z
          · rw [if_neg z]
            have z : chkE b h (cnt == 0) at_ h1 sz unk 237 = 0 := by simpa using z
            rw [ce] at z
            by_cases d1 : (h.id == 0 || decide (0 < cnt)) = true
            · rw [if_pos d1] at z; exact absurd z (by decide)
            rw [if_neg d1] at z go
            by_cases d2 : 8 < h.dp
            · rw [if_pos d2] at z; exact absurd z (by decide)
            rw [if_neg d2] at z go
            by_cases d3 : sz ≠ 4 ∨ h.op = true
            · rw [if_pos d3] at z; exact absurd z (by decide)
            rw [if_neg d3] at z go
            by_cases d4 : numB b (at_ + h1) 4 ≠ IntKind.i64.wrap (sumB ((b.take h.en).drop (at_ + h1 + 4)))
            · rw [if_pos d4] at z; exact absurd z (by decide)
            rw [if_neg d4] at go
            have e5 : (b.take (at_ + h1 + sz)).drop (at_ + h1) = (b.drop (at_ + h1)).take sz := by rw [List.drop_take]; congr 1; omega
            have w4 : IntKind.i64.wrap (IntKind.i64.wrap (((at_ + h1 + sz : Nat) : Int) - (at_ : Int)) - (h1 : Int)) = (sz : Int) := by rw [wrapSub (by omega) (by omega), wrapSub (by omega) (by omega)]; omega
            rw [rj19_v, nfree, hfr, Bool.not_true, rj20_no, rj24_ok (roT (by simp only [List.length_cons, List.length_nil]; omega)), Bool.false_and, rj30_leaf (upT (by omega)) (by rw [w1]; simp (disch := omega) only [deT, Bool.and_self]) (roT (by simp; omega)),
              rj35_no (inT (by simp only [List.length_append, List.length_cons, List.length_nil]; omega)), w4, Int.toNat_natCast, show ((237 : Int), (at_ : Int), (h1 : Int), (0 : Int), (h.dp : Int), unk) = plc 237 at_ h1 0 h.dp unk from rfl, setSz_end, wrapSuc (by omega)] at go
            rw [go, elR, if_pos hfr]
        · have isSf : ((rowOf id).1 == 237) = false := by simpa using isS
          have n237 : (known id && ((id != 236) && !within (rowOf id) h.id)) = (!free id && !within (rowOf id) h.id) := by
            rw [← nfree]
            rw [isSf] at sumk
            cases hk : known id with
            | false => rfl
            | true =>
              rw [hk] at sumk
              have : (id != 237) = true := by rw [bne]; simpa using sumk
              rw [this]; simp
          have ce : chkE b h (cnt == 0) at_ h1 sz unk id = if (!free id && !within (rowOf id) h.id) = true then 42 else if 8 < h.dp then 43 else 0 := by
            unfold chkE
            rw [if_neg c1, if_neg c2, if_neg isS, isSf]
            simp only [Bool.false_and, Bool.or_false]
          have w1 : IntKind.i64.wrap ((at_ : Int) + (h1 : Int)) = ((at_ + h1 : Nat) : Int) := wrapAdd (by omega)
          refine hs.imp2 h102 fun k hs h102 g ea X => ?_
          dsimp only at h102
          have go := go k hs h102 g ea X
          rw [sumk, isSf, rj14_no, n237] at go
          rw [if_neg st, ce]
          by_cases d1 : (!free id && !within (rowOf id) h.id) = true
          · rw [if_pos d1, if_pos (by decide)]
            rw [d1, rj16_bad, rj19_v, rj20_err (by decide)] at go
            exact ⟨_, go⟩
          · rw [if_neg d1]
            have d1 : (!free id && !within (rowOf id) h.id) = false := by simpa using d1
            rw [d1] at go
            by_cases d2 : 8 < h.dp
            · rw [if_pos d2, if_pos (by decide)]
              rw [rj16_deep (by omega), rj19_v, rj20_err (by decide)] at go
              exact ⟨_, go⟩
            · rw [if_neg d2, if_neg (by decide)]
              rw [rj16_ok (by omega), rj19_v, nfree] at go
              have w4 : IntKind.i64.wrap (IntKind.i64.wrap (((at_ + h1 + sz : Nat) : Int) - (at_ : Int)) - (h1 : Int)) = (sz : Int) := by rw [wrapSub (by omega) (by omega), wrapSub (by omega) (by omega)]; omega
              have rm : ∀ x : D1, room 48 (pl.length + [x].length) = true := fun x => roT (by simp only [List.length_cons, List.length_nil]; omega)
              have rm2 : ∀ x : D2, room 64 (acc.length + [x].length) = true := fun x => roT (by simp only [List.length_cons, List.length_nil]; omega)
              have inp : inb (pl.length : Int) (pl ++ [plc id at_ h1 0 h.dp unk]).length = true := inT (by simp only [List.length_append, List.length_cons, List.length_nil]; omega)
              have pe : (id, (at_ : Int), (h1 : Int), (0 : Int), (h.dp : Int), unk) = plc id at_ h1 0 h.dp unk := rfl
              by_cases hfr : free id = true
              · have hop : unk = false := by
                  cases hu : unk with
                  | false => rfl
                  | true =>
                    rw [hu] at c1
                    have h5 : (rowOf id).2.2.2.2 = true := by simp only [Bool.true_and, Bool.or_eq_true, not_or] at c1; simpa using c1.1
                    -- those that are passed over have a size
                    have hn : (rowOf id).2.2.2.2 = false := by
                      cases hk : known id with
                      | false => rw [row_none hk]; rfl
                      | true =>
                        rw [free_known hk] at hfr
                        simp only [Bool.or_eq_true, beq_iff_eq] at hfr
                        rcases hfr with rfl | rfl
                        · kernel_rfl
                        · rw [known_sum.2]
                    rw [hn] at h5; simp at h5
                rw [hop, if_neg (by simp)] at hE
                rw [hfr, Bool.not_true, rj20_no, rj24_ok (rm (plc id at_ h1 0 h.dp unk)), Bool.false_and, ← hE, rj30_leaf (upT (by omega)) (by rw [w1]; simp (disch := omega) only [deT, Bool.and_self]) (roT (by simp; omega)), pe,
                  rj35_no inp, w4, Int.toNat_natCast, setSz_end, wrapSuc (by omega)] at go
                rw [go, elR, if_pos hfr]
              · have hfr' : free id = false := by simpa using hfr
                rw [hfr', Bool.not_false] at go
                rw [elR, if_neg hfr]
                by_cases lim : 4000 < nd + 1
                · rw [if_pos lim]
                  rw [rj20_lim (by rw [wrapSuc (by omega)]; omega), rj24_bad (by decide), wrapSuc (by omega)] at go
                  exact go
                · rw [if_neg lim]
                  rw [rj20_ok (by rw [wrapSuc (by omega)]; omega), rj24_ok (rm (plc id at_ h1 0 h.dp unk)), wrapSuc (by omega), Bool.true_and, pe] at go
                  by_cases hg : (rowOf id).2.2.2.1 = false
                  · have hop : unk = false := by
                      cases hu : unk with
                      | false => rfl
                      | true =>
                        rw [hu] at c1
                        have h5 : (rowOf id).2.2.2.2 = true := by simp only [Bool.true_and, Bool.or_eq_true, not_or] at c1; simpa using c1.1
                        rw [open_group id h5] at hg; simp at hg
                    rw [hop, if_neg (by simp)] at hE
                    have e5 : (b.take (at_ + h1 + sz)).drop (at_ + h1) = (b.drop (at_ + h1)).take sz := by rw [List.drop_take]; congr 1; omega
                    rw [if_pos hg]
                    rw [hg, ← hE, rj30_leaf (upT (by omega)) (by rw [w1]; simp (disch := omega) only [deT, Bool.and_self]) (roT (by simp; omega)), w1, Int.toNat_natCast, Int.toNat_natCast, e5, rj35_node inp (rm2 (D2.mk id ((b.drop (at_ + h1)).take sz) [] false)), w4, Int.toNat_natCast, setSz_end, wrapSuc (by omega)] at go
                    exact go
                  · rw [if_neg hg]
                    have hg : (rowOf id).2.2.2.1 = true := by simpa using hg
                    rw [hg, rj30_grp, w1, wrapSuc (by omega)] at go
                    rw [go, ← hE]
                    unfold Ho.inner Ho.kn
                    cases unk <;> cases h.fm <;> rfl
end Go.Proofs.Ytklhjegfkpmdoaa

/-! The document reads elements as the plain reading, and so both read any bytes alike. -/
namespace Go.Proofs.Ytklhjegfkpmdoaa
open Go Go.Am

/-- More ahead of what was read. -/
def Res.add (ks : List D2) (ps : List D1) : Res → Res
  | .bad c a => .bad c a
  | .fine kids a nd pl => .fine (ks ++ kids) a nd (ps ++ pl)
/-- The plain reading, with what it adds alone. -/
noncomputable def lev2 (b : List Int) : Nat → Ho → Bool → Nat → Nat → Option Res
  | 0, _, _, _, _ => none
  | n + 1, h, first, at_, nd =>
    if at_ < h.en then
      match headR b at_ with
      | .bad c => some (.bad c at_)
      | .ok id hb sz unk =>
        if (h.op && (!free id && !within (rowOf id) h.id)) = true then some (.fine [] at_ nd [])
        else if chkE b h first at_ hb sz unk id ≠ 0 then some (.bad (chkE b h first at_ hb sz unk id) at_)
        else if free id = true then (lev2 b n h false (at_ + hb + sz) nd).map (Res.add [] [plc id at_ hb sz h.dp unk])
        else if 4000 < nd + 1 then some (.bad 2 at_)
        else if (rowOf id).2.2.2.1 = false then (lev2 b n h false (at_ + hb + sz) (nd + 1)).map (Res.add [D2.mk id ((b.drop (at_ + hb)).take sz) [] false] [plc id at_ hb sz h.dp unk])
        else match lev2 b n (h.inner id (at_ + hb + sz) unk) true (at_ + hb) (nd + 1) with
          | some (.fine kids a nd' ps) => (lev2 b n h false a nd').map (Res.add [D2.mk id [] kids true] (plc id at_ hb (a - (at_ + hb)) h.dp unk :: ps))
          | r => r
    else some (.fine [] at_ nd [])
theorem add_add (k1 k2 : List D2) (p1 p2 : List D1) (r : Res) : (r.add k2 p2).add k1 p1 = r.add (k1 ++ k2) (p1 ++ p2) := by
  cases r <;> simp [Res.add]
theorem setSz_mid (pl ps : List D1) (id : Int) (at_ h1 x dp : Nat) (unk : Bool) (n : Nat) : setSz ((pl ++ [plc id at_ h1 x dp unk]) ++ ps) pl.length (n : Int) = pl ++ (plc id at_ h1 n dp unk :: ps) := by
  unfold setSz
  have e : ((pl ++ [plc id at_ h1 x dp unk]) ++ ps).getD pl.length zero1 = plc id at_ h1 x dp unk := by simp [List.getD]
  rw [e]; simp [plc]
theorem lev_rel {b : List Int} (hb : okBy b) : ∀ (n : Nat) {h : Ho} (first : Bool) {at_ : Nat} (nd : Nat) (pl : List D1) (acc : List D2), h.Ok b → at_ ≤ b.length → lev b n h first at_ nd pl acc = (lev2 b n h first at_ nd).map (Res.add acc pl) := by
  intro n
  induction n with
  | zero => intros; rfl
  | succ n ih =>
    intro h first at_ nd pl acc hh hat
    rw [lev, lev2]
    by_cases lt : at_ < h.en
    · rw [if_pos lt, if_pos lt]
      cases hd : headR b at_ with
      | bad c => rfl
      | ok id h1 sz unk =>
        obtain ⟨p1, p2, p3, p4, p5, p6⟩ := head_ok hb hd
        dsimp only
        by_cases st : (h.op && (!free id && !within (rowOf id) h.id)) = true
        · rw [if_pos st, if_pos st]; simp [Res.add]
        · rw [if_neg st, if_neg st]
          by_cases hc : chkE b h first at_ h1 sz unk id ≠ 0
          · rw [if_pos hc, if_pos hc]; rfl
          · rw [if_neg hc, if_neg hc]
            have hc0 : chkE b h first at_ h1 sz unk id = 0 := by simpa using hc
            obtain ⟨q1, q2, q3, q4⟩ := chk_ok hh hc0
            have := hh.1
            have ff : ∀ (k2 : List D2) (p2 : List D1), (Res.add acc pl ∘ Res.add k2 p2) = Res.add (acc ++ k2) (pl ++ p2) := fun k2 p2 => by funext r; exact add_add acc k2 pl p2 r
            by_cases hf : free id = true
            · rw [if_pos hf, if_pos hf, ih _ _ _ _ hh (by omega), Option.map_map, ff, List.append_nil]
            · rw [if_neg hf, if_neg hf]
              by_cases hn : 4000 < nd + 1
              · rw [if_pos hn, if_pos hn]; rfl
              · rw [if_neg hn, if_neg hn]
                by_cases hg : (rowOf id).2.2.2.1 = false
                · rw [if_pos hg, if_pos hg, ih _ _ _ _ hh (by omega), Option.map_map, ff]
                · rw [if_neg hg, if_neg hg]
                  have hin := inner_ok hh (id := id) (unk := unk) q1 q2
                  have hi := ih true (nd + 1) (pl ++ [plc id at_ h1 sz h.dp unk]) [] hin (at_ := at_ + h1) (by omega)
                  rw [hi]
                  cases hr : lev2 b n (h.inner id (at_ + h1 + sz) unk) true (at_ + h1) (nd + 1) with
                  | none => rfl
                  | some r =>
                    rw [hr] at hi
                    cases r with
                    | bad c a => rfl
                    | fine kids a nd' ps =>
                      have iv := lev_inv hb n hin (by omega) hi
                      have wd : ((a : Int) - ((at_ + h1 : Nat) : Int)) = ((a - (at_ + h1) : Nat) : Int) := by
                        have := iv.1; omega
                      dsimp only [Option.map_some, Res.add]
                      rw [ih _ _ _ _ hh iv.2.1, wd, setSz_mid, List.nil_append]
                      rw [Option.map_map, ff]
    · rw [if_neg lt, if_neg lt]; simp [Res.add]
theorem lev2_inv {b : List Int} (hb : okBy b) {n : Nat} {h : Ho} {first : Bool} {at_ nd : Nat} {r : Res} (hh : h.Ok b) (hat : at_ ≤ b.length) (e : lev2 b n h first at_ nd = some r) :
    match r with
    | .bad c a => c ≠ 0 ∧ a < b.length
    | .fine kids a nd' ps => at_ ≤ a ∧ a ≤ b.length ∧ nd ≤ nd' ∧ (nd ≤ 4000 → nd' ≤ 4000) ∧ ps.length + at_ ≤ a ∧ kids.length + at_ ≤ a := by
  have h1 := lev_rel hb n first nd [] [] hh hat
  rw [e] at h1
  have := lev_inv hb n hh hat h1
  cases r with
  | bad c a => exact this
  | fine kids a nd' ps =>
    simp only [Res.add, List.nil_append, List.length_nil] at this
    exact ⟨this.1, this.2.1, this.2.2.1, this.2.2.2.1, by omega, by omega⟩
theorem lev2_some {b : List Int} (hb : okBy b) (n : Nat) {h : Ho} (first : Bool) {at_ : Nat} (nd : Nat) (hh : h.Ok b) (hat : at_ ≤ b.length) (hn : b.length - at_ < n) : ∃ r, lev2 b n h first at_ nd = some r := by
  obtain ⟨r, hr⟩ := lev_some hb n first nd [] [] hh hat hn
  rw [lev_rel hb n first nd [] [] hh hat] at hr
  cases e : lev2 b n h first at_ nd with
  | none => rw [e] at hr; simp at hr
  | some r => exact ⟨r, rfl⟩

def GoodR {R : Type} (g : Nat → f89_2_T R) (m : Nat) : Prop := ∀ j, m ≤ j → ∃ k, m ≤ k ∧ g j = f89_2 k
/-- What the document reads in a holder. -/
def RdR {R : Type} (b : List Int) (h : Ho) (cnt at_ nd : Nat) (pl : List D1) (acc : List D2) (r : Res) (g : Nat → f89_2_T R) (j : Nat) : Prop :=
  ∀ (ea : Int) (X : Int → List D2 → List Int → Int → Int → Int → List D1 → Option R),
    match r with
    | .fine kids a nd' ps => lvR g j (at_ : Int) (cnt : Int) b (nd : Int) 0 ea pl h.id (h.en : Int) h.kn (h.dp : Int) h.op acc X = X (a : Int) (acc ++ kids) b (nd' : Int) 0 ea (pl ++ ps)
    | .bad c a => (∃ (ks : List D2) (a' nd' : Int) (pl' : List D1), pl.length ≤ pl'.length ∧ lvR g j (at_ : Int) (cnt : Int) b (nd : Int) 0 ea pl h.id (h.en : Int) h.kn (h.dp : Int) h.op acc X = X a' ks b nd' c (a : Int) pl') ∨
      (h.op = true ∧ a < h.en ∧ headR b a = .bad c ∧ ∃ (ks : List D2) (nd' : Int) (pl' : List D1), pl.length ≤ pl'.length ∧ lvR g j (at_ : Int) (cnt : Int) b (nd : Int) 0 ea pl h.id (h.en : Int) h.kn (h.dp : Int) h.op acc X = X (a : Int) ks b nd' 0 ea pl')
theorem lvR_end {R : Type} (g : Nat → f89_2_T R) (j : Nat) (at_ cnt : Int) (b : List Int) (nd er ea : Int) (pl : List D1) (hid en kn dp : Int) (op : Bool) (acc : List D2) (X : Int → List D2 → List Int → Int → Int → Int → List D1 → Option R) (hc : ¬ at_ < en) :
    lvR g (j + 1) at_ cnt b nd er ea pl hid en kn dp op acc X = X at_ acc b nd er ea pl := by
  rw [lvR, f89_2_l3]
  simp only [deF hc, cond_false]
theorem RdR.more {R : Type} {b : List Int} {h : Ho} {cnt cnt' at_ at2 nd nd2 : Nat} {pl p : List D1} {acc k : List D2} {r : Res} {g : Nat → f89_2_T R} {j i : Nat} (e : ∀ (ea : Int) (X : Int → List D2 → List Int → Int → Int → Int → List D1 → Option R), lvR g j (at_ : Int) (cnt : Int) b (nd : Int) 0 ea pl h.id (h.en : Int) h.kn (h.dp : Int) h.op acc X = lvR g i (at2 : Int) (cnt' : Int) b (nd2 : Int) 0 ea (pl ++ p) h.id (h.en : Int) h.kn (h.dp : Int) h.op (acc ++ k) X) (h2 : RdR b h cnt' at2 nd2 (pl ++ p) (acc ++ k) r g i) :
    RdR b h cnt at_ nd pl acc (r.add k p) g j := by
  intro ea X
  have h3 := h2 ea X
  cases r with
  | fine kids a nd' ps =>
    simp only [Res.add]
    rw [e, ← List.append_assoc, ← List.append_assoc]; exact h3
  | bad c a =>
    simp only [Res.add]
    rcases h3 with ⟨ks, a', nd', pl', l1, l2⟩ | ⟨o1, o2, o3, ks, nd', pl', l1, l2⟩
    · exact .inl ⟨ks, a', nd', pl', by simp at l1; omega, (e ea X).trans l2⟩
    · exact .inr ⟨o1, o2, o3, ks, nd', pl', by simp at l1; omega, (e ea X).trans l2⟩
theorem ref_lev (b : List Int) (hb : okBy b) (hl : b.length ≤ 1048576) (R : Type) : ∀ (n : Nat) {h : Ho} {cnt at_ nd : Nat} {pl : List D1} {acc : List D2} {r : Res}, h.Ok b → at_ ≤ b.length → cnt ≤ at_ → nd ≤ 4000 → pl.length ≤ at_ → acc.length ≤ at_ → lev2 b n h (cnt == 0) at_ nd = some r →
    ∃ k0, ∀ m, k0 ≤ m → ∀ g : Nat → f89_2_T R, GoodR g m → ∀ j, m + k0 ≤ j → RdR b h cnt at_ nd pl acc r g j := by
  intro n
  induction n with
  | zero => intro h cnt at_ nd pl acc r _ _ _ _ _ _ e; simp [lev2] at e
  | succ n ih =>
    intro h cnt at_ nd pl acc r hh hat hcnt hnd hpl hac e
    rw [lev2] at e
    by_cases lt : at_ < h.en
    · rw [if_pos lt] at e
      have hh1 := hh.1
      cases hd : headR b at_ with
      | bad c =>
        obtain ⟨k1, rn⟩ := bad_r b hb hl h hh1 at_ lt hd R
        rw [hd] at e
        obtain rfl := Option.some.inj e
        refine ⟨k1 + 1, fun m hm g hg j hj ea X => ?_⟩
        obtain ⟨j, rfl⟩ : ∃ i, j = i + 1 := ⟨j - 1, by omega⟩
        have := rn j (by omega) g cnt nd ea pl acc X
        cases he : early b h at_ with
        | false => rw [he] at this; exact .inl ⟨acc, at_, nd, pl, Nat.le_refl _, this⟩
        | true => rw [he] at this; exact .inr ⟨early_op he, lt, hd, acc, nd, pl, Nat.le_refl _, this⟩
      | ok id h1 sz unk =>
        rw [hd] at e
        obtain ⟨p1, p2, p3, p4, p5, p6⟩ := head_ok hb hd
        dsimp only at e
        by_cases st : (h.op && (!free id && !within (rowOf id) h.id)) = true
        · rw [if_pos st] at e
          obtain rfl := Option.some.inj e
          obtain ⟨k1, rn⟩ := ok_r b hb hl h hh at_ cnt lt hcnt hd R nd hnd pl hpl acc hac
          refine ⟨k1 + 1, fun m hm g hg j hj ea X => ?_⟩
          obtain ⟨j, rfl⟩ : ∃ i, j = i + 1 := ⟨j - 1, by omega⟩
          have := rn j (by omega) g ea X
          rw [if_pos st] at this
          simpa using this
        · rw [if_neg st] at e
          obtain ⟨k1, rn⟩ := ok_r b hb hl h hh at_ cnt lt hcnt hd R nd hnd pl hpl acc hac
          by_cases hc : chkE b h (cnt == 0) at_ h1 sz unk id ≠ 0
          · rw [if_pos hc] at e
            obtain rfl := Option.some.inj e
            refine ⟨k1 + 1, fun m hm g hg j hj ea X => ?_⟩
            obtain ⟨j, rfl⟩ : ∃ i, j = i + 1 := ⟨j - 1, by omega⟩
            have := rn j (by omega) g ea X
            rw [if_neg st, if_pos hc] at this
            obtain ⟨nd', h3⟩ := this
            exact .inl ⟨acc, at_, nd', pl, Nat.le_refl _, h3⟩
          · rw [if_neg hc] at e
            have hc0 : chkE b h (cnt == 0) at_ h1 sz unk id = 0 := by simpa using hc
            obtain ⟨q1, q2, q3, q4⟩ := chk_ok hh hc0
            have st1 : ∀ j, k1 + 1 ≤ j → ∃ i, j = i + 1 ∧ ∀ (g : Nat → f89_2_T R) (ea : Int) (X : Int → List D2 → List Int → Int → Int → Int → List D1 → Option R),
                lvR g j (at_ : Int) (cnt : Int) b (nd : Int) 0 ea pl h.id (h.en : Int) h.kn (h.dp : Int) h.op acc X = elR g i h at_ cnt id h1 sz unk b nd ea pl acc X := by
              intro j hj
              obtain ⟨i, rfl⟩ : ∃ i, j = i + 1 := ⟨j - 1, by omega⟩
              refine ⟨i, rfl, fun g ea X => ?_⟩
              have := rn i (by omega) g ea X
              rw [if_neg st, if_neg hc] at this
              exact this
            have c1 : (cnt + 1 == 0) = false := by simp
            by_cases hf : free id = true
            · rw [if_pos hf] at e
              cases hr : lev2 b n h false (at_ + h1 + sz) nd with
              | none => rw [hr] at e; simp at e
              | some r2 =>
                rw [hr] at e
                obtain rfl := Option.some.inj e
                obtain ⟨k2, h2⟩ := ih (cnt := cnt + 1) (at_ := at_ + h1 + sz) (nd := nd) (pl := pl ++ [plc id at_ h1 sz h.dp unk]) (acc := acc ++ []) hh (by omega) (by omega) hnd (by simp; omega) (by simp; omega) (by rw [c1]; exact hr)
                refine ⟨k1 + k2 + 1, fun m hm g hg j hj => ?_⟩
                obtain ⟨i, rfl, he⟩ := st1 j (by omega)
                refine RdR.more (fun ea X => ?_) (h2 m (by omega) g hg i (by omega))
                rw [he, elR, if_pos hf, List.append_nil]
            · rw [if_neg hf] at e
              by_cases hn : 4000 < nd + 1
              · rw [if_pos hn] at e
                obtain rfl := Option.some.inj e
                refine ⟨k1 + 1, fun m hm g hg j hj ea X => ?_⟩
                obtain ⟨i, rfl, he⟩ := st1 j (by omega)
                have he := he g ea X
                rw [elR, if_neg hf, if_pos hn] at he
                exact .inl ⟨acc, _, _, pl, Nat.le_refl _, he⟩
              · rw [if_neg hn] at e
                by_cases hg4 : (rowOf id).2.2.2.1 = false
                · rw [if_pos hg4] at e
                  cases hr : lev2 b n h false (at_ + h1 + sz) (nd + 1) with
                  | none => rw [hr] at e; simp at e
                  | some r2 =>
                    rw [hr] at e
                    obtain rfl := Option.some.inj e
                    obtain ⟨k2, h2⟩ := ih (cnt := cnt + 1) (at_ := at_ + h1 + sz) (nd := nd + 1) (pl := pl ++ [plc id at_ h1 sz h.dp unk]) (acc := acc ++ [D2.mk id ((b.drop (at_ + h1)).take sz) [] false]) hh (by omega) (by omega) (by omega) (by simp; omega) (by simp; omega) (by rw [c1]; exact hr)
                    refine ⟨k1 + k2 + 1, fun m hm g hg j hj => ?_⟩
                    obtain ⟨i, rfl, he⟩ := st1 j (by omega)
                    refine RdR.more (fun ea X => ?_) (h2 m (by omega) g hg i (by omega))
                    rw [he, elR, if_neg hf, if_neg hn, if_pos hg4]
                · rw [if_neg hg4] at e
                  have hin := inner_ok hh (id := id) (unk := unk) q1 q2
                  have pl1 : (pl ++ [plc id at_ h1 0 h.dp unk]).length = pl.length + 1 := by simp
                  -- what is in the group
                  have grp : ∀ rn', lev2 b n (h.inner id (at_ + h1 + sz) unk) true (at_ + h1) (nd + 1) = some rn' → ∃ k3, ∀ k, k3 ≤ k → ∀ (ea : Int) (X : Int → List Int → Int → Int → Int → List D2 → List D1 → Option R),
                      match rn' with
                      | .fine kids a nd' ps => f89_2 k ((at_ + h1 : Nat) : Int) (h.inner id (at_ + h1 + sz) unk).id ((h.inner id (at_ + h1 + sz) unk).en : Int) (h.inner id (at_ + h1 + sz) unk).kn ((h.inner id (at_ + h1 + sz) unk).dp : Int) (h.inner id (at_ + h1 + sz) unk).op b ((nd + 1 : Nat) : Int) 0 ea (pl ++ [plc id at_ h1 0 h.dp unk]) X = X (a : Int) b (nd' : Int) 0 ea kids ((pl ++ [plc id at_ h1 0 h.dp unk]) ++ ps)
                      | .bad c a => (∃ (ks : List D2) (a' nd' : Int) (pl' : List D1), pl.length + 1 ≤ pl'.length ∧ f89_2 k ((at_ + h1 : Nat) : Int) (h.inner id (at_ + h1 + sz) unk).id ((h.inner id (at_ + h1 + sz) unk).en : Int) (h.inner id (at_ + h1 + sz) unk).kn ((h.inner id (at_ + h1 + sz) unk).dp : Int) (h.inner id (at_ + h1 + sz) unk).op b ((nd + 1 : Nat) : Int) 0 ea (pl ++ [plc id at_ h1 0 h.dp unk]) X = X a' b nd' c (a : Int) ks pl') ∨
                        ((h.inner id (at_ + h1 + sz) unk).op = true ∧ a < (h.inner id (at_ + h1 + sz) unk).en ∧ headR b a = .bad c ∧ ∃ (ks : List D2) (nd' : Int) (pl' : List D1), pl.length + 1 ≤ pl'.length ∧ f89_2 k ((at_ + h1 : Nat) : Int) (h.inner id (at_ + h1 + sz) unk).id ((h.inner id (at_ + h1 + sz) unk).en : Int) (h.inner id (at_ + h1 + sz) unk).kn ((h.inner id (at_ + h1 + sz) unk).dp : Int) (h.inner id (at_ + h1 + sz) unk).op b ((nd + 1 : Nat) : Int) 0 ea (pl ++ [plc id at_ h1 0 h.dp unk]) X = X (a : Int) b nd' 0 ea ks pl') := by
                    intro rn' hrn
                    obtain ⟨k0, h0⟩ := ih (cnt := 0) (pl := pl ++ [plc id at_ h1 0 h.dp unk]) (acc := []) hin (by omega) (by omega) (by omega) (by rw [pl1]; omega) (by simp) hrn
                    refine ⟨2 * k0 + 1, fun k hk ea X => ?_⟩
                    obtain ⟨k, rfl⟩ : ∃ q, k = q + 1 := ⟨k - 1, by omega⟩
                    have h3 := h0 k0 (Nat.le_refl _) (fun _ => f89_2 k) (fun j hj => ⟨k, by omega, rfl⟩) k (by omega) ea (fun a ks b' nd er ea pl' => X a b' nd er ea ks pl')
                    cases rn' with
                    | fine kids a nd' ps => dsimp only; rw [f89_2_step]; exact h3
                    | bad c a =>
                      rw [pl1] at h3
                      dsimp only
                      rw [f89_2_step]
                      exact h3
                  cases hn' : lev2 b n (h.inner id (at_ + h1 + sz) unk) true (at_ + h1) (nd + 1) with
                  | none => rw [hn'] at e; simp at e
                  | some rn' =>
                    obtain ⟨k3, h3⟩ := grp rn' hn'
                    have iv := lev2_inv hb hin (by omega) hn'
                    rw [hn'] at e
                    have rm2 : ∀ x : D2, room 64 (acc.length + [x].length) = true := fun x => roT (by simp only [List.length_cons, List.length_nil]; omega)
                    have w3 : IntKind.i64.wrap ((cnt : Int) + 1) = ((cnt + 1 : Nat) : Int) := wrapSuc (by omega)
                    cases rn' with
                    | bad c a =>
                      dsimp only at e
                      obtain rfl := Option.some.inj e
                      have hbr : h.op = true ∨ True → True := fun _ => trivial
                      by_cases ha : a < h.en
                      · by_cases hda : headR b a = .bad c
                        · obtain ⟨k4, h4⟩ := bad_r b hb hl h hh1 a ha hda R
                          refine ⟨k1 + k3 + k4 + 2, fun m hm g hg j hj ea X => ?_⟩
                          obtain ⟨i, rfl, he⟩ := st1 j (by omega)
                          have he := he g ea X
                          obtain ⟨k, hk, hgk⟩ := hg i (by omega)
                          rw [elR, if_neg hf, if_neg hn, if_neg hg4, hgk] at he
                          rcases h3 k (by omega) ea _ with ⟨ks, a', nd', pl', l1, l2⟩ | ⟨o1, o2, o3, ks, nd', pl', l1, l2⟩
                          · rw [l2, rj35_bad iv.1] at he
                            exact .inl ⟨acc, _, _, pl', by omega, he⟩
                          · rw [l2, rj35_node (inT (by omega)) (rm2 (D2.mk id [] ks true)), w3] at he
                            obtain ⟨i, rfl⟩ : ∃ q, i = q + 1 := ⟨i - 1, by omega⟩
                            rw [h4 i (by omega)] at he
                            cases hy : early b h a with
                            | false => rw [hy] at he; exact .inl ⟨_, _, _, _, by rw [setSz_len]; omega, he⟩
                            | true => rw [hy] at he; exact .inr ⟨early_op hy, ha, hda, _, _, _, by rw [setSz_len]; omega, he⟩
                        · refine ⟨k1 + k3 + 2, fun m hm g hg j hj ea X => ?_⟩
                          obtain ⟨i, rfl, he⟩ := st1 j (by omega)
                          have he := he g ea X
                          obtain ⟨k, hk, hgk⟩ := hg i (by omega)
                          rw [elR, if_neg hf, if_neg hn, if_neg hg4, hgk] at he
                          rcases h3 k (by omega) ea _ with ⟨ks, a', nd', pl', l1, l2⟩ | ⟨o1, o2, o3, ks, nd', pl', l1, l2⟩
                          · rw [l2, rj35_bad iv.1] at he
                            exact .inl ⟨acc, _, _, pl', by omega, he⟩
                          · exact absurd o3 hda
                      · refine ⟨k1 + k3 + 2, fun m hm g hg j hj ea X => ?_⟩
                        obtain ⟨i, rfl, he⟩ := st1 j (by omega)
                        have he := he g ea X
                        obtain ⟨k, hk, hgk⟩ := hg i (by omega)
                        rw [elR, if_neg hf, if_neg hn, if_neg hg4, hgk] at he
                        rcases h3 k (by omega) ea _ with ⟨ks, a', nd', pl', l1, l2⟩ | ⟨o1, o2, o3, ks, nd', pl', l1, l2⟩
                        · rw [l2, rj35_bad iv.1] at he
                          exact .inl ⟨acc, _, _, pl', by omega, he⟩
                        · exfalso
                          unfold Ho.inner at o1 o2
                          cases hu : unk with
                          | true => rw [hu, if_pos rfl] at o2; exact ha o2
                          | false => rw [hu, if_neg (by simp)] at o1; simp at o1
                    | fine kids a nd' ps =>
                      dsimp only at e iv
                      cases hr : lev2 b n h false a nd' with
                      | none => rw [hr] at e; simp at e
                      | some r2 =>
                        rw [hr] at e
                        obtain rfl := Option.some.inj e
                        obtain ⟨k2, h2⟩ := ih (cnt := cnt + 1) (at_ := a) (nd := nd') (pl := pl ++ (plc id at_ h1 (a - (at_ + h1)) h.dp unk :: ps)) (acc := acc ++ [D2.mk id [] kids true]) hh iv.2.1 (by omega) (by omega) (by simp; omega) (by simp; omega) (by rw [c1]; exact hr)
                        refine ⟨k1 + k2 + k3 + 2, fun m hm g hg j hj => ?_⟩
                        obtain ⟨i, rfl, he⟩ := st1 j (by omega)
                        refine RdR.more (fun ea X => ?_) (h2 m (by omega) g hg i (by omega))
                        obtain ⟨k, hk, hgk⟩ := hg i (by omega)
                        have h4 := h3 k (by omega) ea
                        dsimp only at h4
                        have w4 : IntKind.i64.wrap (IntKind.i64.wrap ((a : Int) - (at_ : Int)) - (h1 : Int)) = ((a - (at_ + h1) : Nat) : Int) := by
                          rw [wrapSub (by omega) (by omega), wrapSub (by omega) (by omega)]; congr 1; omega
                        rw [he, elR, if_neg hf, if_neg hn, if_neg hg4, hgk, h4, rj35_node (inT (by simp only [List.length_append, List.length_cons, List.length_nil]; omega)) (rm2 (D2.mk id [] kids true)), w3, w4, Int.toNat_natCast, setSz_mid]
    · rw [if_neg lt] at e
      obtain rfl := Option.some.inj e
      refine ⟨1, fun m hm g hg j hj ea X => ?_⟩
      obtain ⟨j, rfl⟩ : ∃ i, j = i + 1 := ⟨j - 1, by omega⟩
      dsimp only
      rw [lvR_end _ _ _ _ _ _ _ _ _ _ _ _ _ _ _ _ (by omega), List.append_nil, List.append_nil]
end Go.Proofs.Ytklhjegfkpmdoaa

/-! Trees, and whether two are the same; any bytes are read alike. -/
namespace Go.Proofs.Ytklhjegfkpmdoaa
open Go Go.Am

theorem D2.ind {P : D2 → Prop} (h : ∀ i d ks g, (∀ x ∈ ks, P x) → P (.mk i d ks g)) : ∀ n, P n := by
  intro n
  refine D2.rec (motive_1 := P) (motive_2 := fun l => ∀ x ∈ l, P x) (fun i d ks g ih => h i d ks g ih) (by simp) (fun a l ha hl => ?_) n
  intro x hx
  rcases List.mem_cons.1 hx with rfl | hx
  · exact ha
  · exact hl x hx
theorem D2.eta (n : D2) : D2.mk n.c0 n.c1 n.c2 n.c3 = n := by cases n; rfl
/-- A tree as it lies in memory. -/
inductive OkN : D2 → Prop
  | mk {i : Int} {d : List Int} {ks : List D2} {g : Bool} : -9223372036854775808 ≤ i ∧ i < 9223372036854775808 → okBy d → d.length ≤ reachBytes → ks.length * 64 ≤ reachBytes → (∀ x ∈ ks, OkN x) → OkN (.mk i d ks g)
def OkL (l : List D2) : Prop := l.length * 64 ≤ reachBytes ∧ ∀ x ∈ l, OkN x
theorem OkN.id {n : D2} (h : OkN n) : -9223372036854775808 ≤ n.c0 ∧ n.c0 < 9223372036854775808 := by cases h; assumption
theorem OkN.by {n : D2} (h : OkN n) : okBy n.c1 := by cases h; assumption
theorem OkN.len {n : D2} (h : OkN n) : n.c1.length ≤ reachBytes := by cases h; assumption
theorem OkN.kids {n : D2} (h : OkN n) : OkL n.c2 := by cases h; exact ⟨by assumption, by assumption⟩
def eqB (a b : List Int) : Bool := (strOf a).toList == (strOf b).toList
theorem eqB_self (a : List Int) : eqB a a = true := by simp [eqB]
mutual
def sameN : D2 → D2 → Bool
  | .mk i d ks g, .mk i' d' ks' g' => (i == i') && (g == g') && eqB d d' && sameL ks ks'
def sameL : List D2 → List D2 → Bool
  | [], [] => true
  | [], _ :: _ => false
  | _ :: _, [] => false
  | x :: l, y :: l' => sameN x y && sameL l l'
end
theorem sameL_of {l : List D2} (h : ∀ x ∈ l, sameN x x = true) : sameL l l = true := by
  induction l with
  | nil => rw [sameL]
  | cons x l ih => rw [sameL, h x (by simp), ih fun y hy => h y (by simp [hy])]; rfl
theorem sameN_self (n : D2) : sameN n n = true := by
  refine D2.ind (P := fun n => sameN n n = true) (fun i d ks g ih => ?_) n
  rw [sameN, sameL_of ih, eqB_self]; simp
theorem sameL_self (l : List D2) : sameL l l = true := sameL_of fun x _ => sameN_self x
theorem sameL_len : ∀ {l l' : List D2}, l.length ≠ l'.length → sameL l l' = false
  | [], [], h => by simp at h
  | [], _ :: _, _ => by rw [sameL]
  | _ :: _, [], _ => by rw [sameL]
  | x :: l, y :: l', h => by rw [sameL, sameL_len (by simpa using h), Bool.and_false]
theorem sameN_eta (x y : D2) : sameN x y = ((x.c0 == y.c0) && (x.c3 == y.c3) && eqB x.c1 y.c1 && sameL x.c2 y.c2) := by
  cases x; cases y; rw [sameN]; rfl

/-- Two fuels, both large. -/
def EvB (p : Nat → Nat → Prop) : Prop := ∃ k0, ∀ q, k0 ≤ q → ∀ j, k0 ≤ j → p q j
theorem EvB.suc {p : Nat → Nat → Prop} (h : EvB fun q j => p q (j + 1)) : EvB p := by
  obtain ⟨a, ha⟩ := h
  refine ⟨a + 1, fun q hq j hj => ?_⟩
  obtain ⟨j, rfl⟩ : ∃ i, j = i + 1 := ⟨j - 1, by omega⟩
  exact ha q (by omega) j (by omega)
theorem EvB.all {p : Nat → Nat → Prop} (h : ∀ q j, p q j) : EvB p := ⟨0, fun q _ j _ => h q j⟩
theorem EvB.imp {p p' : Nat → Nat → Prop} (h : EvB p) (f : ∀ q j, p q j → p' q j) : EvB p' := by
  obtain ⟨a, ha⟩ := h
  exact ⟨a, fun q hq j hj => f q j (ha q hq j hj)⟩
theorem EvB.and {p p' : Nat → Nat → Prop} (h : EvB p) (h' : EvB p') : EvB fun q j => p q j ∧ p' q j := by
  obtain ⟨a, ha⟩ := h
  obtain ⟨b, hb⟩ := h'
  exact ⟨max a b, fun q hq j hj => ⟨ha q (by omega) j (by omega), hb q (by omega) j (by omega)⟩⟩
theorem EvB.left {p : Nat → Prop} (h : Ev p) : EvB fun q _ => p q := by
  obtain ⟨a, ha⟩ := h
  exact ⟨a, fun q hq j _ => ha q hq⟩
theorem EvB.right {p : Nat → Prop} (h : Ev p) : EvB fun _ j => p j := by
  obtain ⟨a, ha⟩ := h
  exact ⟨a, fun q _ j hj => ha j hj⟩
theorem EvB.diag {p : Nat → Nat → Prop} (h : EvB p) : Ev fun k => p k k := by
  obtain ⟨a, ha⟩ := h
  exact ⟨a, fun k hk => ha k hk k hk⟩
theorem EvB.down {p : Nat → Nat → Nat → Prop} (n : Nat) (h0 : EvB (p n)) (hs : ∀ i, i < n → EvB (p (i + 1)) → EvB (p i)) : ∀ i, i ≤ n → EvB (p i) := by
  intro i hi
  obtain ⟨m, rfl⟩ : ∃ m, n = i + m := ⟨n - i, by omega⟩
  clear hi
  induction m generalizing i with
  | zero => exact h0
  | succ m ih => exact hs i (by omega) (ih (i + 1) (by rw [show i + 1 + m = i + (m + 1) by omega]; exact h0) (fun j hj => hs j (by omega)))

theorem f23_loop (R : Type) (l l' : List D2) (hl : l.length = l'.length) (hb : l.length * 64 ≤ reachBytes) (h : ∀ i (h : i < l.length) (h' : i < l'.length), Ev fun k => ∀ (K : Bool → Option R), f23 k l[i].c2 l'[i].c2 K = K (sameL l[i].c2 l'[i].c2)) :
    ∀ i, i ≤ l.length → EvB fun q j => ∀ (X0 : Option R) (X1 : Bool → Option R), f23_l4 (fun _ => f23 q) j l l' (i : Int) X0 X1 = if sameL (l.drop i) (l'.drop i) = true then X0 else X1 false := by
  rw [reachV] at hb
  refine EvB.down l.length ?_ ?_
  · refine EvB.suc (.all fun q j X0 X1 => ?_)
    rw [List.drop_length, hl, List.drop_length, sameL, f23_l4, hl]
    simp
  · intro i hi ih
    have hi' : i < l'.length := by omega
    refine EvB.suc ((ih.and (.left (h i hi hi'))).imp fun q j hk X0 X1 => ?_)
    obtain ⟨hk, h23⟩ := hk
    rw [List.drop_eq_getElem_cons hi, List.drop_eq_getElem_cons hi', sameL, sameN_eta, f23_l4, lt_nat, inb_nat, inb_nat, wrapSuc (by omega)]
    simp only [hi, hi', decide_true, cond_true, Int.toNat_natCast, getD_get hi, getD_get hi', f17, h23]
    rw [bne]
    cases l[i].c0 == l'[i].c0 with
    | false => simp
    | true =>
      cases l[i].c3 == l'[i].c3 with
      | false => simp
      | true =>
        unfold eqB
        cases (strOf l[i].c1).toList == (strOf l'[i].c1).toList with
        | false => simp
        | true =>
          cases sameL l[i].c2 l'[i].c2 with
          | false => simp
          | true => simp only [Bool.not_true, cond_false, Bool.and_self, Bool.true_and, hk]
theorem f23_list (R : Type) (l : List D2) (hb : l.length * 64 ≤ reachBytes) (h : ∀ x ∈ l, OkN x → ∀ l' : List D2, Ev fun k => ∀ (K : Bool → Option R), f23 k x.c2 l' K = K (sameL x.c2 l')) (ho : ∀ x ∈ l, OkN x) (l' : List D2) :
    Ev fun k => ∀ (K : Bool → Option R), f23 k l l' K = K (sameL l l') := by
  refine Ev.suc ?_
  by_cases hl : l.length = l'.length
  · refine (f23_loop R l l' hl hb (fun i hi hi' => h _ (List.getElem_mem hi) (ho _ (List.getElem_mem hi)) _) 0 (by omega)).diag.imp fun k hk K => ?_
    simp only [Int.natCast_zero, List.drop_zero] at hk
    rw [f23_step, f23_s, bne_len, hl]
    simp only [decide_true, Bool.not_true, cond_false, hk]
    cases sameL l l' <;> rfl
  · refine .all fun k K => ?_
    rw [f23_step, f23_s, bne_len, decide_eq_false hl, sameL_len hl]; rfl
theorem f23_v (R : Type) {l : List D2} (hl : OkL l) (l' : List D2) : Ev fun k => ∀ (K : Bool → Option R), f23 k l l' K = K (sameL l l') := by
  have key : ∀ n : D2, OkN n → ∀ l' : List D2, Ev fun k => ∀ (K : Bool → Option R), f23 k n.c2 l' K = K (sameL n.c2 l') := by
    intro n
    refine D2.ind (P := fun n => OkN n → ∀ l' : List D2, Ev fun k => ∀ (K : Bool → Option R), f23 k n.c2 l' K = K (sameL n.c2 l')) (fun i d ks g ih ho l' => ?_) n
    exact f23_list R ks ho.kids.1 ih ho.kids.2 l'
  exact f23_list R l hl.1 (fun x _ => key x) hl.2 l'
theorem f24_v (R : Type) (l : List D1) (hb : l.length ≤ reachBytes) : Ev fun k => ∀ (K : Bool → Option R), f24 k l l K = K true := by
  rw [reachV] at hb
  have lp : ∀ i, i ≤ l.length → Ev fun k => ∀ (X0 : Option R) (X1 : Bool → Option R), f24_l4 k l l (i : Int) X0 X1 = X0 := by
    refine Ev.down l.length ?_ ?_
    · exact Ev.suc (.all fun k X0 X1 => by rw [f24_l4]; simp)
    · intro i hi h
      refine Ev.suc (h.imp fun k hk X0 X1 => ?_)
      rw [f24_l4, lt_nat, inb_nat, wrapSuc (by omega)]
      simp only [hi, decide_true, cond_true, Int.toNat_natCast, getD_get hi, beq_self_eq_true, Bool.and_self, Bool.not_true, cond_false, hk]
  refine (lp 0 (by omega)).imp fun k hk K => ?_
  rw [Int.natCast_zero] at hk
  simp only [f24, bne_len, decide_true, Bool.not_true, cond_false, hk]

/-! what is read lies in memory -/
theorem lev2_ok {b : List Int} (hb : okBy b) (hl : b.length ≤ 1048576) : ∀ (n : Nat) {h : Ho} {first : Bool} {at_ nd : Nat} {kids : List D2} {a nd' : Nat} {ps : List D1}, h.Ok b → at_ ≤ b.length → lev2 b n h first at_ nd = some (.fine kids a nd' ps) → ∀ x ∈ kids, OkN x := by
  intro n
  induction n with
  | zero => intro h first at_ nd kids a nd' ps _ _ e; simp [lev2] at e
  | succ n ih =>
    intro h first at_ nd kids a nd' ps hh hat e
    rw [lev2] at e
    split at e
    · split at e
      · simp at e
      · rename_i id h1 sz unk hd
        obtain ⟨p1, p2, p3, p4, p5, p6⟩ := head_ok hb hd
        split at e
        · simp only [Option.some.injEq, Res.fine.injEq] at e; rw [← e.1]; simp
        · split at e
          · simp at e
          · rename_i hc
            have hc : chkE b h first at_ h1 sz unk id = 0 := by simpa using hc
            obtain ⟨q1, q2, q3, q4⟩ := chk_ok hh hc
            have hh1 := hh.1
            have idb : -9223372036854775808 ≤ id ∧ id < 9223372036854775808 := by
              have e2 := hd
              unfold headR at e2
              split at e2; · simp at e2
              split at e2; · simp at e2
              split at e2; · simp at e2
              split at e2; · simp at e2
              simp only [HR.ok.injEq] at e2
              have nb := numB_bound hb (at_ := at_) (n := idLen (b.getD at_ 0)) (by omega)
              have r4 := idLen_range (b.getD at_ 0)
              have hp : (256 : Int) ^ (idLen (b.getD at_ 0)) ≤ 4294967296 := by
                have h2 : (256 : Nat) ^ (idLen (b.getD at_ 0)) ≤ 4294967296 := Nat.le_trans (Nat.pow_le_pow_right (by decide) r4) (by decide)
                have e : ((256 ^ (idLen (b.getD at_ 0)) : Nat) : Int) = (256 : Int) ^ (idLen (b.getD at_ 0)) := Int.natCast_pow 256 _
                omega
              omega
            have add : ∀ {at2 nd2 : Nat} {x : D2} {q : List D1}, at2 ≤ b.length → OkN x → (lev2 b n h false at2 nd2).map (Res.add [x] q) = some (.fine kids a nd' ps) → ∀ y ∈ kids, OkN y := by
              intro at2 nd2 x q h2 hx e y hy
              cases hr : lev2 b n h false at2 nd2 with
              | none => rw [hr] at e; simp at e
              | some r =>
                rw [hr] at e
                cases r with
                | bad c a => simp [Res.add] at e
                | fine k2 a2 n2 p2 =>
                  simp only [Option.map_some, Res.add, Option.some.injEq, Res.fine.injEq] at e
                  rw [← e.1] at hy
                  rcases List.mem_append.1 hy with hy | hy
                  · simp at hy; rw [hy]; exact hx
                  · exact ih hh h2 hr y hy
            split at e
            · cases hr : lev2 b n h false (at_ + h1 + sz) nd with
              | none => rw [hr] at e; simp at e
              | some r =>
                rw [hr] at e
                cases r with
                | bad c a => simp [Res.add] at e
                | fine k2 a2 n2 p2 =>
                  simp only [Option.map_some, Res.add, Option.some.injEq, Res.fine.injEq, List.nil_append] at e
                  rw [← e.1]
                  exact ih hh (by omega) hr
            · split at e
              · simp at e
              · split at e
                · refine add (by omega) ?_ e
                  refine .mk idb (fun x hx => hb x (List.mem_of_mem_drop (List.mem_of_mem_take hx))) (by rw [reachV]; simp; omega) (by simp) (by simp)
                · cases hi : lev2 b n (h.inner id (at_ + h1 + sz) unk) true (at_ + h1) (nd + 1) with
                  | none => rw [hi] at e; simp at e
                  | some r =>
                    have hin := inner_ok hh (id := id) (unk := unk) q1 q2
                    rw [hi] at e
                    cases r with
                    | bad c a => simp at e
                    | fine k2 a2 n2 p2 =>
                      dsimp only at e
                      have iv := lev2_inv hb hin (by omega) hi
                      dsimp only at iv
                      refine add iv.2.1 ?_ e
                      exact .mk idb (by intro x hx; simp at hx) (by simp) (by rw [reachV]; omega) (ih hin (by omega) hi)
    · simp only [Option.some.injEq, Res.fine.injEq] at e; rw [← e.1]; simp

def top (b : List Int) : Ho := ⟨0, b.length, false, false, 1⟩
theorem top_ok (b : List Int) : (top b).Ok b := ⟨Nat.le_refl _, fun _ => rfl, by show 1 ≤ 9; decide⟩
/-- What any bytes are read as. -/
noncomputable def parseR (b : List Int) : Res := if 1048576 < b.length then .bad 2 0 else (lev2 b (b.length + 1) (top b) true 0 0).getD (.bad 2 0)
theorem parse_bad {b : List Int} (hb : okBy b) {c : Int} {a : Nat} (h : parseR b = .bad c a) : c ≠ 0 := by
  unfold parseR at h
  split at h
  · simp at h; omega
  · obtain ⟨r, hr⟩ := lev2_some hb (b.length + 1) true 0 (top_ok b) (Nat.zero_le _) (by omega)
    rw [hr] at h
    simp only [Option.getD_some] at h
    subst h
    exact (lev2_inv hb (top_ok b) (Nat.zero_le _) hr).1
theorem parse_fine {b : List Int} (hb : okBy b) {kids : List D2} {a nd : Nat} {ps : List D1} (h : parseR b = .fine kids a nd ps) : OkL kids ∧ ps.length ≤ 1048576 := by
  unfold parseR at h
  split at h
  · simp at h
  · rename_i hl
    obtain ⟨r, hr⟩ := lev2_some hb (b.length + 1) true 0 (top_ok b) (Nat.zero_le _) (by omega)
    rw [hr] at h
    simp only [Option.getD_some] at h
    subst h
    have iv := lev2_inv hb (top_ok b) (Nat.zero_le _) hr
    dsimp only at iv
    exact ⟨⟨by rw [reachV]; omega, lev2_ok hb (by omega) _ (top_ok b) (Nat.zero_le _) hr⟩, by omega⟩

theorem f88_eq {R : Type} (k : Nat) (hid en : Int) (fm op : Bool) (dp : Int) (b : List Int) (at_ nd bd ba : Int) (K : List Int → Int → Int → Int → Int → List D2 → List D1 → Option R) :
    f88 k hid en fm op dp b at_ nd bd ba K = lvP (f101_3 (R := R)) k true b at_ nd bd ba [] hid en fm op dp [] (fun ks b at_ nd bd ba pl => K b at_ nd bd ba ks pl) := by kernel_rfl
theorem f89_eq {R : Type} (k : Nat) (at_ hid en kn dp : Int) (op : Bool) (b : List Int) (nd er ea : Int) (K : Int → List Int → Int → Int → Int → List D2 → List D1 → Option R) :
    f89 k at_ hid en kn dp op b nd er ea K = lvR (f89_2 (R := R)) k at_ 0 b nd er ea [] hid en kn dp op [] (fun at_ ks b nd er ea pl => K at_ b nd er ea ks pl) := by kernel_rfl
theorem f55_v (b : List Int) (hb : okBy b) (R : Type) : Ev fun k => ∀ (K : List Int → Int → Int → Int → Int → List D1 → List D2 → Option R), match parseR b with
    | .bad c a => ∃ (a' nd' : Int) (pl : List D1) (ks : List D2), f55 k b K = K b a' nd' c (a : Int) pl ks
    | .fine kids a nd ps => f55 k b K = K b (a : Int) (nd : Int) 0 0 ps kids := by
  unfold parseR
  by_cases h : 1048576 < b.length
  · rw [if_pos h]
    refine .all fun k K => ⟨0, 0, [], [], ?_⟩
    simp only [f55, deT (show (b.length : Int) > 1048576 by omega), cond_true, f87, f56, beq_self_eq_true]; rfl
  · rw [if_neg h]
    obtain ⟨r, hr⟩ := lev2_some hb (b.length + 1) true 0 (top_ok b) (Nat.zero_le _) (by omega)
    have h1 := lev_rel hb (b.length + 1) true 0 [] [] (top_ok b) (Nat.zero_le _)
    rw [hr] at h1 ⊢
    obtain ⟨k0, h0⟩ := prog_lev b hb (by omega) R (b.length + 1) (top_ok b) (Nat.zero_le _) (by omega) (Nat.zero_le _) (Nat.zero_le _) h1
    refine ⟨2 * k0, fun k hk K => ?_⟩
    have h2 := h0 k0 (Nat.le_refl _) f101_3 (fun j hj => ⟨j, hj, rfl⟩) k (by omega) 0 (fun ks b at_ nd bd ba pl => K b at_ nd bd ba pl ks)
    simp only [Option.getD_some]
    simp only [f55, deF (show ¬ (b.length : Int) > 1048576 by omega), cond_false, f88_eq]
    cases r with
    | bad c a =>
      obtain ⟨ks, a', nd', pl', _, l2⟩ := h2
      exact ⟨a', nd', pl', ks, l2⟩
    | fine kids a nd ps => exact h2
theorem f57_v (b : List Int) (hb : okBy b) (R : Type) : Ev fun k => ∀ (K : List D2 → List Int → Int → Int → Int → List D1 → Option R), match parseR b with
    | .bad c a => ∃ (ks : List D2) (nd' : Int) (pl : List D1), f57 k b K = K ks b nd' c (a : Int) pl
    | .fine kids _ nd ps => f57 k b K = K kids b (nd : Int) 0 0 ps := by
  unfold parseR
  by_cases h : 1048576 < b.length
  · rw [if_pos h]
    refine .all fun k K => ⟨[], 0, [], ?_⟩
    simp only [f57, deT (show (b.length : Int) > 1048576 by omega), cond_true]; rfl
  · rw [if_neg h]
    obtain ⟨r, hr⟩ := lev2_some hb (b.length + 1) true 0 (top_ok b) (Nat.zero_le _) (by omega)
    rw [hr]
    obtain ⟨k0, h0⟩ := ref_lev b hb (by omega) R (b.length + 1) (cnt := 0) (pl := []) (acc := []) (top_ok b) (Nat.zero_le _) (by omega) (by omega) (Nat.zero_le _) (Nat.zero_le _) hr
    refine ⟨2 * k0, fun k hk K => ?_⟩
    have h2 := h0 k0 (Nat.le_refl _) f89_2 (fun j hj => ⟨j, hj, rfl⟩) k (by omega) 0 (fun at_ ks b nd er ea pl => K ks b nd er ea pl)
    simp only [Option.getD_some]
    simp only [f57, deF (show ¬ (b.length : Int) > 1048576 by omega), cond_false, f89_eq]
    cases r with
    | bad c a =>
      rcases h2 with ⟨ks, a', nd', pl', _, l2⟩ | ⟨o1, _⟩
      · exact ⟨ks, nd', pl', l2⟩
      · exact absurd o1 (by simp [top])
    | fine kids a nd ps => exact h2
theorem f19_v (b : List Int) (hb : okBy b) (R : Type) : Ev fun k => ∀ (K : Int → Int → List D2 → Option R), f19 k b K = match parseR b with
    | .bad c a => K (a : Int) c []
    | .fine kids _ _ _ => K 0 0 kids := by
  refine (f55_v b hb R).imp fun k h K => ?_
  simp only [f19]
  have h := h fun v1 v2 v3 v4 v5 v6 v7 => f56_2 k v1 v2 v3 v4 v5 v6 fun v8 _v9 _v10 _v11 v12 v13 _v14 => bif !v8 then K v13 v12 [] else K 0 0 v7
  cases hp : parseR b with
  | bad c a =>
    rw [hp] at h
    obtain ⟨a', nd', pl, ks, h⟩ := h
    rw [h]
    simp only [f56_2, beF (parse_bad hb hp), Bool.not_false, cond_true]
  | fine kids a nd ps =>
    rw [hp] at h
    dsimp only at h
    rw [h]
    simp only [f56_2, beq_self_eq_true, Bool.not_true, cond_false]
theorem f21_v (b : List Int) (hb : okBy b) (R : Type) : Ev fun k => ∀ (K : Int → Int → List D1 → Option R), f21 k b K = match parseR b with
    | .bad c a => K (a : Int) c []
    | .fine _ _ _ ps => K 0 0 ps := by
  refine (f55_v b hb R).imp fun k h K => ?_
  simp only [f21]
  have h := h fun v1 v2 v3 v4 v5 v6 _v7 => f56_2 k v1 v2 v3 v4 v5 v6 fun v8 _v9 _v10 _v11 v12 v13 v14 => bif !v8 then K v13 v12 [] else K 0 0 v14
  cases hp : parseR b with
  | bad c a =>
    rw [hp] at h
    obtain ⟨a', nd', pl, ks, h⟩ := h
    rw [h]
    simp only [f56_2, beF (parse_bad hb hp), Bool.not_false, cond_true]
  | fine kids a nd ps =>
    rw [hp] at h
    dsimp only at h
    rw [h]
    simp only [f56_2, beq_self_eq_true, Bool.not_true, cond_false]
theorem f20_v (b : List Int) (hb : okBy b) (R : Type) : Ev fun k => ∀ (K : Int → Int → List D2 → Option R), f20 k b K = match parseR b with
    | .bad c a => K (a : Int) c []
    | .fine kids _ _ _ => K 0 0 kids := by
  refine (f57_v b hb R).imp fun k h K => ?_
  simp only [f20]
  have h := h fun v1 _v2 _v3 v4 v5 _v6 => bif v4 != 0 then K v5 v4 [] else K 0 0 v1
  cases hp : parseR b with
  | bad c a =>
    rw [hp] at h
    obtain ⟨ks, nd', pl, h⟩ := h
    rw [h]
    simp only [bnT (parse_bad hb hp), cond_true]
  | fine kids a nd ps =>
    rw [hp] at h
    dsimp only at h
    rw [h]
    rfl
theorem f22_v (b : List Int) (hb : okBy b) (R : Type) : Ev fun k => ∀ (K : Int → Int → List D1 → Option R), f22 k b K = match parseR b with
    | .bad c a => K (a : Int) c []
    | .fine _ _ _ ps => K 0 0 ps := by
  refine (f57_v b hb R).imp fun k h K => ?_
  simp only [f22]
  have h := h fun _v1 _v2 _v3 v4 v5 v6 => bif v4 != 0 then K v5 v4 [] else K 0 0 v6
  cases hp : parseR b with
  | bad c a =>
    rw [hp] at h
    obtain ⟨ks, nd', pl, h⟩ := h
    rw [h]
    simp only [bnT (parse_bad hb hp), cond_true]
  | fine kids a nd ps =>
    rw [hp] at h
    dsimp only at h
    rw [h]
    rfl

theorem elementParses_plain (b : List Int) (hb : okBy b) : ∃ k, f4 (R := Bool) k b some = some true := by
  refine Ev.some ?_
  have a1 := (f19_v b hb Bool).and (f20_v b hb Bool)
  have a2 := (f21_v b hb Bool).and (f22_v b hb Bool)
  cases hp : parseR b with
  | bad c a =>
    rw [hp] at a1 a2
    have s1 := f23_v Bool (l := []) ⟨by simp, by simp⟩ []
    have s2 := f24_v Bool [] (by simp)
    refine (a1.and a2).imp4 s1 s2 awake_v fun k h1 h3 h4 h5 => ?_
    obtain ⟨⟨h19, h20⟩, h21, h22⟩ := h1
    dsimp only at h19 h20 h21 h22
    simp only [f4, h19, h20, h21, h22, h3, h4, h5, sameL_self, beq_self_eq_true, cond_true]
  | fine kids a nd ps =>
    rw [hp] at a1 a2
    obtain ⟨o1, o2⟩ := parse_fine hb hp
    have s1 := f23_v Bool o1 kids
    have s2 := f24_v Bool ps (by rw [reachV]; omega)
    refine (a1.and a2).imp4 s1 s2 awake_v fun k h1 h3 h4 h5 => ?_
    obtain ⟨⟨h19, h20⟩, h21, h22⟩ := h1
    dsimp only at h19 h20 h21 h22
    simp only [f4, h19, h20, h21, h22, h3, h4, h5, sameL_self, beq_self_eq_true, cond_true]
end Go.Proofs.Ytklhjegfkpmdoaa

/-! Numbers written in so many bytes; those of variable length; ids written; the row and the bytes of any id. -/
namespace Go.Proofs.Ytklhjegfkpmdoaa
open Go Go.Am

/-- So many bytes of a number. -/
def beB : Nat → Int → List Int
  | 0, _ => []
  | n + 1, w => beB n (w / 256) ++ [w % 256]
theorem beB_len : ∀ (n : Nat) (w : Int), (beB n w).length = n
  | 0, _ => rfl
  | n + 1, w => by rw [beB, List.length_append, beB_len n]; rfl
theorem beB_ok : ∀ (n : Nat) (w : Int), okBy (beB n w)
  | 0, _ => by intro x hx; simp [beB] at hx
  | n + 1, w => by
    intro x hx
    rw [beB] at hx
    rcases List.mem_append.1 hx with hx | hx
    · exact beB_ok n _ x hx
    · simp at hx; omega
theorem set_drop {out : List Int} {n : Nat} (h : n < out.length) (x : Int) : (out.set n x).drop n = x :: out.drop (n + 1) := by
  rw [List.drop_eq_getElem_cons (by simpa using h)]
  simp [List.drop_set]
theorem f91_loop (R : Type) : ∀ n, n ≤ 1000 → Ev fun k => ∀ (w : Int) (out : List Int) (X : List Int → Option R), n ≤ out.length → f91_l3 k w ((n : Int) - 1) out X = X (beB n w ++ out.drop n)
  | 0, _ => .suc (.all fun k w out X _ => by
    rw [f91_l3, deF (by omega)]; simp [beB])
  | n + 1, hn => by
    refine .suc ((f91_loop R n (by omega)).imp fun k hk w out X ho => ?_)
    have e : ((n + 1 : Nat) : Int) - 1 = (n : Int) := by omega
    rw [e, f91_l3, inb_nat, wr (by omega), wrapU8, shr8]
    simp only [deT (show (n : Int) ≥ 0 by omega), show n < out.length by omega, decide_true, cond_true, Int.toNat_natCast]
    rw [hk _ _ X (by simp; omega), set_drop (by omega), beB, List.append_assoc]; rfl
theorem f86_loop (R : Type) : ∀ n, n ≤ 1000 → Ev fun k => ∀ (w : Int) (out : List Int) (X : List Int → Option R), 0 ≤ w → w < 9223372036854775808 → n ≤ out.length → f86_l3 k w ((n : Int) - 1) out X = X (beB n w ++ out.drop n)
  | 0, _ => .suc (.all fun k w out X _ _ _ => by
    rw [f86_l3, deF (by omega)]; simp [beB])
  | n + 1, hn => by
    refine .suc ((f86_loop R n (by omega)).imp fun k hk w out X h0 h1 ho => ?_)
    have e : ((n + 1 : Nat) : Int) - 1 = (n : Int) := by omega
    have hd : w.tdiv 256 = w / 256 := Int.tdiv_eq_ediv_of_nonneg h0
    have hm : w.tmod 256 = w % 256 := Int.tmod_eq_emod_of_nonneg h0
    have w8 : IntKind.u8.wrap (w % 256) = w % 256 := wr8 (by omega)
    rw [e, f86_l3, inb_nat, wr (by omega), hd, hm, w8, wr (by omega)]
    simp only [deT (show (n : Int) ≥ 0 by omega), show n < out.length by omega, decide_true, cond_true, Int.toNat_natCast]
    rw [hk _ _ X (by omega) (by omega) (by simp; omega), set_drop (by omega), beB, List.append_assoc]; rfl
theorem f28_bytes (R : Type) : ∀ n, n ≤ 1000 → Ev fun k => ∀ (w : Int) (out : List Int) (X : List Int → Option R), 0 ≤ w → w < 9223372036854775808 → n ≤ out.length → f28_l7 k w ((n : Int) - 1) out X = X (beB n w ++ out.drop n)
  | 0, _ => .suc (.all fun k w out X _ _ _ => by
    rw [f28_l7, deF (by omega)]; simp [beB])
  | n + 1, hn => by
    refine .suc ((f28_bytes R n (by omega)).imp fun k hk w out X h0 h1 ho => ?_)
    have e : ((n + 1 : Nat) : Int) - 1 = (n : Int) := by omega
    have hd : w.tdiv 256 = w / 256 := Int.tdiv_eq_ediv_of_nonneg h0
    have hm : w.tmod 256 = w % 256 := Int.tmod_eq_emod_of_nonneg h0
    have w8 : IntKind.u8.wrap (w % 256) = w % 256 := wr8 (by omega)
    rw [e, f28_l7, inb_nat, wr (by omega), hd, hm, w8, wr (by omega)]
    simp only [deT (show (n : Int) ≥ 0 by omega), show n < out.length by omega, decide_true, cond_true, Int.toNat_natCast]
    rw [hk _ _ X (by omega) (by omega) (by simp; omega), set_drop (by omega), beB, List.append_assoc]; rfl
theorem mk_ok {n : Nat} (hn : n ≤ 1000) : ((decide ((0 : Int) ≤ (n : Int))) && (decide ((n : Int) ≤ (n : Int))) && (decide ((n : Int) * ((1 : Nat) : Int) ≤ 140737488355328))) = true := by
  simp; omega
theorem f91_v (R : Type) {n : Nat} (hn : n ≤ 1000) : Ev fun k => ∀ (w : Int) (K : List Int → Option R), f91 k w (n : Int) K = K (beB n w) :=
  (f91_loop R n hn).imp fun k hk w K => by
    simp only [f91, mk_ok hn, cond_true, Int.toNat_natCast]
    rw [wr (by omega), hk w _ K (by simp)]; simp
theorem f86_v (R : Type) {n : Nat} (hn : n ≤ 1000) : Ev fun k => ∀ (w : Int) (K : List Int → Option R), 0 ≤ w → w < 9223372036854775808 → f86 k w (n : Int) K = K (beB n w) :=
  (f86_loop R n hn).imp fun k hk w K h0 h1 => by
    simp only [f86, mk_ok hn, cond_true, Int.toNat_natCast]
    rw [wr (by omega), hk w _ K h0 h1 (by simp)]; simp

/-! of variable length -/
def vlFrom : Nat → Nat → Int → Nat
  | 0, n, _ => n
  | f + 1, n, v => if 2 ^ (7 * n) - 1 ≤ v then vlFrom f (n + 1) v else n
/-- How many bytes a number has. -/
def vl (v : Int) : Nat := vlFrom 7 1 v
theorem vlFrom_range : ∀ (f n : Nat) (v : Int), n ≤ vlFrom f n v ∧ vlFrom f n v ≤ n + f
  | 0, n, v => by simp [vlFrom]
  | f + 1, n, v => by
    rw [vlFrom]
    split
    · have := vlFrom_range f (n + 1) v; omega
    · omega
theorem vl_range (v : Int) : 1 ≤ vl v ∧ vl v ≤ 8 := vlFrom_range 7 1 v
def vintW (v : Int) : List Int := beB (vl v) (v + 2 ^ (7 * vl v))
theorem p7 {n : Nat} (h : n ≤ 8) : (2 : Int) ^ (7 * n) ≤ 72057594037927936 := by
  have h2 : (2 : Nat) ^ (7 * n) ≤ 72057594037927936 := Nat.le_trans (Nat.pow_le_pow_right (by decide) (show 7 * n ≤ 56 by omega)) (by decide)
  have e : ((2 ^ (7 * n) : Nat) : Int) = (2 : Int) ^ (7 * n) := Int.natCast_pow 2 (7 * n)
  omega
theorem f52_loop (R : Type) (v : Int) : ∀ f n : Nat, n + f = 8 → 1 ≤ n → Ev fun k => ∀ (X : Int → Int → Option R), f52_l5 k v (n : Int) X = X v (vlFrom f n v : Int)
  | 0, n, h, _ => .suc (.all fun k X => by
    have : n = 8 := by omega
    subst this
    rw [f52_l5]; rfl)
  | f + 1, n, h, h1 => by
    refine .suc ((f52_loop R v f (n + 1) (by omega) (by omega)).imp fun k hk X => ?_)
    rw [f52_l5, ifT (by omega), allN n h1 (by omega), wrapSuc (by omega), vlFrom]
    by_cases c : 2 ^ (7 * n) - 1 ≤ v
    · rw [ifT c, if_pos c, hk]
    · rw [ifF c, if_neg c]
theorem f54_loop2 (R : Type) (v : Int) : ∀ f n : Nat, n + f = 8 → 1 ≤ n → Ev fun k => ∀ (X : Int → Int → Option R), f54_l5 k v (n : Int) X = X v (vlFrom f n v : Int)
  | 0, n, h, _ => .suc (.all fun k X => by
    have : n = 8 := by omega
    subst this
    rw [f54_l5]; rfl)
  | f + 1, n, h, h1 => by
    refine .suc ((f54_loop2 R v f (n + 1) (by omega) (by omega)).imp fun k hk X => ?_)
    rw [f54_l5, ifT (by omega), mostN n h1 (by omega), wrapSuc (by omega), vlFrom]
    by_cases c : 2 ^ (7 * n) - 1 ≤ v
    · rw [ifT c, if_pos c, hk]
    · rw [ifF c, if_neg c]
theorem shl1 {n : Nat} (h : 1 ≤ n) (h' : n ≤ 8) : IntKind.i64.wrap (7 * (n : Int)) = 7 * n ∧ decide (IntKind.i64.wrap (7 * (n : Int)) < 0) = false ∧ shlI .u64 1 (IntKind.i64.wrap (7 * (n : Int))) = 2 ^ (7 * n) ∧
    decide (IntKind.u64.wrap (IntKind.i64.wrap (7 * (n : Int))) < 0) = false ∧ shlI .i64 1 (IntKind.u64.wrap (IntKind.i64.wrap (7 * (n : Int)))) = 2 ^ (7 * n) := by
  have : n = 1 ∨ n = 2 ∨ n = 3 ∨ n = 4 ∨ n = 5 ∨ n = 6 ∨ n = 7 ∨ n = 8 := by omega
  rcases this with rfl | rfl | rfl | rfl | rfl | rfl | rfl | rfl <;> decide
theorem f83_v (R : Type) {n : Nat} (h : 1 ≤ n) (h' : n ≤ 8) : Ev fun k => ∀ (v : Int) (K : List Int → Option R), 0 ≤ v → v < 2 ^ (7 * n) → f83 k v (n : Int) K = K (beB n (v + 2 ^ (7 * n))) :=
  (f91_v R (n := n) (by omega)).imp fun k hk v K h0 h1 => by
    obtain ⟨a1, a2, a3, _, _⟩ := shl1 h h'
    simp only [f83, a2, cond_false, a3]
    rw [or_add h0 h1 (by omega), hk]
theorem f52_all (R : Type) (v : Int) : Ev fun k => ∀ (K : Int → List Int → Option R), f52 k v 0 K = if v < 0 ∨ 2 ^ (7 * vl v) - 1 ≤ v then K 1 [] else K 0 (vintW v) := by
  have vr := vl_range v
  refine (f52_loop R v 7 1 (by omega) (by omega)).imp2 (f83_v R vr.1 vr.2) fun k hl hm K => ?_
  have z : ((0 : Int) == 0) = true := rfl
  have z0 : decide ((0 : Int) < 0) = false := rfl
  have z8 : decide ((0 : Int) > 8) = false := rfl
  by_cases c : v < 0
  · rw [if_pos (.inl c)]
    simp only [f52, z0, z8, cond_false, deT c, cond_true]
  · simp only [f52, z0, z8, cond_false, deF c, z, cond_true]
    rw [show (1 : Int) = ((1 : Nat) : Int) from rfl, hl]
    show f82 k (vl v : Int) _ = _
    rw [allN (vl v) vr.1 vr.2]
    by_cases d : 2 ^ (7 * vl v) - 1 ≤ v
    · rw [ifT d, if_pos (.inr d)]
    · have pp := p7 vr.2
      rw [ifF d, if_neg (by omega), wrU (by omega)]
      show f83 k v (vl v : Int) _ = _
      rw [hm v _ (by omega) (by omega)]; rfl
theorem f54_all (R : Type) (v : Int) : Ev fun k => ∀ (K : Int → List Int → Option R), f54 k v 0 K = if v < 0 ∨ 2 ^ (7 * vl v) - 1 ≤ v then K 1 [] else K 0 (vintW v) := by
  have vr := vl_range v
  refine (f54_loop2 R v 7 1 (by omega) (by omega)).imp2 (f86_v R (n := vl v) (by omega)) fun k hl hm K => ?_
  have z : ((0 : Int) == 0) = true := rfl
  have z0 : decide ((0 : Int) < 0) = false := rfl
  have z8 : decide ((0 : Int) > 8) = false := rfl
  by_cases c : v < 0
  · rw [if_pos (.inl c)]
    simp only [f54, z0, z8, cond_false, deT c, cond_true]
  · simp only [f54, z0, z8, cond_false, deF c, z, cond_true]
    have hl' : ∀ X, f54_l5 k v 1 X = X v (vlFrom 7 1 v : Int) := hl
    rw [hl']
    show f85 k (vl v : Int) _ = _
    rw [mostN (vl v) vr.1 vr.2]
    by_cases d : 2 ^ (7 * vl v) - 1 ≤ v
    · rw [ifT d, if_pos (.inr d)]
    · have pp := p7 vr.2
      obtain ⟨_, _, _, a4, a5⟩ := shl1 vr.1 vr.2
      have a4' : decide (IntKind.u64.wrap (IntKind.i64.wrap (7 * (vlFrom 7 1 v : Int))) < 0) = false := a4
      have a5' : shlI .i64 1 (IntKind.u64.wrap (IntKind.i64.wrap (7 * (vlFrom 7 1 v : Int)))) = 2 ^ (7 * vl v) := a5
      rw [ifF d, if_neg (by omega), a4', a5', wr (by omega)]
      show f86 k (v + 2 ^ (7 * vl v)) (vl v : Int) _ = _
      rw [hm _ _ (by omega) (by omega)]; rfl

/-! ids -/
instance (v : Int) (n : Nat) : Decidable (Marked v n) := inferInstanceAs (Decidable (_ ∧ _))
theorem beq_bytes (x : ByteArray) : (x == x) = true := by
  show (x.data == x.data) = true
  simp

def idN (id : Int) : Nat := if isIdB id 1 = true then 1 else if isIdB id 2 = true then 2 else if isIdB id 3 = true then 3 else if isIdB id 4 = true then 4 else 0
theorem idN_le (id : Int) : idN id ≤ 4 := by 
  unfold idN
  repeat' split
  all_goals omega
theorem isId_lt {id : Int} {n : Nat} (h4 : n ≤ 4) (h : isIdB id n = true) : Marked id n ∧ 0 ≤ id ∧ id < 1073741824 := by
  unfold isIdB at h
  have h := of_decide_eq_true h
  have hp : (0 : Int) < 2 ^ (7 * n) := Int.pow_pos (by decide)
  have pp : (2 : Int) ^ (7 * n) ≤ 268435456 := by
    have h2 : (2 : Nat) ^ (7 * n) ≤ 268435456 := Nat.le_trans (Nat.pow_le_pow_right (by decide) (show 7 * n ≤ 28 by omega)) (by decide)
    have e : ((2 ^ (7 * n) : Nat) : Int) = (2 : Int) ^ (7 * n) := Int.natCast_pow 2 (7 * n)
    omega
  exact ⟨⟨by omega, by omega⟩, by omega, by omega⟩
theorem shr_mark {id : Int} {n : Nat} (h1 : 1 ≤ n) (h4 : n ≤ 4) : decide (IntKind.i64.wrap (7 * (n : Int)) < 0) = false ∧ (shrI .i64 id (IntKind.i64.wrap (7 * (n : Int))) == 1) = decide (Marked id n) := by
  have key : ∀ p : Nat, 0 < p → ((id.fdiv (p : Int) == 1) = decide ((p : Int) ≤ id ∧ id < 2 * (p : Int))) := by
    intro p hp
    rw [beq_dec, Int.fdiv_eq_ediv_of_nonneg _ (by omega)]
    congr 1
    apply propext
    constructor
    · intro h
      have h1 := Int.mul_ediv_add_emod id (p : Int)
      have h2 := Int.emod_nonneg id (show (p : Int) ≠ 0 by omega)
      have h3 := Int.emod_lt_of_pos id (show (0 : Int) < p by omega)
      rw [h] at h1; omega
    · rintro ⟨a, b⟩
      refine Int.le_antisymm ?_ ?_
      · have : id / (p : Int) < 2 := Int.ediv_lt_of_lt_mul (by omega) b
        omega
      · exact Int.le_ediv_of_mul_le (by omega) (by omega)
  have : n = 1 ∨ n = 2 ∨ n = 3 ∨ n = 4 := by omega
  unfold Marked
  rcases this with rfl | rfl | rfl | rfl
  · exact ⟨by decide, key 128 (by decide)⟩
  · exact ⟨by decide, key 16384 (by decide)⟩
  · exact ⟨by decide, key 2097152 (by decide)⟩
  · exact ⟨by decide, key 268435456 (by decide)⟩
theorem f61_v (R : Type) {n : Nat} (h1 : 1 ≤ n) (h4 : n ≤ 4) {id : Int} (h : isIdB id n = true) : Ev fun k => ∀ (K : Int → List Int → Option R), f61 k id (n : Int) K = K 0 (beB n id) := by
  obtain ⟨m, l1, l2⟩ := isId_lt h4 h
  refine (f91_v R (n := n) (by omega)).imp fun k hk K => ?_
  have sh : decide (IntKind.i64.wrap (8 * (n : Int)) < 0) = false ∧ decide (shrI .i64 id (IntKind.i64.wrap (8 * (n : Int))) > 0) = false := by
    have key : ∀ p : Nat, id < p → decide (id.fdiv (p : Int) > 0) = false := by
      intro p hp
      rw [Int.fdiv_eq_ediv_of_nonneg _ (by omega), Int.ediv_eq_zero_of_lt l1 hp]; rfl
    have m2 := m.2
    have : n = 1 ∨ n = 2 ∨ n = 3 ∨ n = 4 := by omega
    rcases this with rfl | rfl | rfl | rfl
    · exact ⟨by decide, key 256 (by simp at m2; omega)⟩
    · exact ⟨by decide, key 65536 (by simp at m2; omega)⟩
    · exact ⟨by decide, key 16777216 (by simp at m2; omega)⟩
    · exact ⟨by decide, key 4294967296 (by simp at m2; omega)⟩
  simp (disch := omega) only [f61, deF, deT, cond_false, cond_true, sh.1, sh.2, wrU, hk]
theorem f27_v (R : Type) (id : Int) : Ev fun k => ∀ (K : Int → List Int → Option R), f27 k id K = if idN id = 0 then K 40 [] else K 0 (beB (idN id) id) := by
  -- a round
  have step : ∀ n, 1 ≤ n → n ≤ 4 → ∀ r : (Option R) → (Int → List Int → Option R) → Option R, (Ev fun k => ∀ X0 X1, f27_l2 k id ((n + 1 : Nat) : Int) X0 X1 = r X0 X1) → Ev fun k => ∀ X0 X1, f27_l2 k id (n : Int) X0 X1 = if isIdB id n = true then X1 0 (beB n id) else r X0 X1 := by
    intro n h1 h4 r h
    obtain ⟨s1, s2⟩ := shr_mark (id := id) h1 h4
    by_cases c : isIdB id n = true
    · refine .suc ((f61_v R h1 h4 c).imp fun k hk X0 X1 => ?_)
      rw [if_pos c, f27_l2, ifT (by omega), s1, s2, deT (isId_lt h4 c).1]
      simp only [cond_true, cond_false, f60_v h1 h4 (isId_lt h4 c).1, c, hk]
    · refine .suc (h.imp fun k hk X0 X1 => ?_)
      rw [if_neg c, f27_l2, ifT (by omega), s1, s2, wrapSuc (by omega)]
      by_cases m : Marked id n
      · have c : isIdB id n = false := by simpa using c
        rw [deT m]
        simp only [cond_true, cond_false, f60_v h1 h4 m, c, hk]
      · rw [deF m]
        simp only [cond_false, hk]
  have e5 : Ev fun k => ∀ (X0 : Option R) (X1 : Int → List Int → Option R), f27_l2 k id ((4 + 1 : Nat) : Int) X0 X1 = X0 := .suc (.all fun k X0 X1 => by rw [f27_l2]; rfl)
  refine (step 1 (by omega) (by omega) _ (step 2 (by omega) (by omega) _ (step 3 (by omega) (by omega) _ (step 4 (by omega) (by omega) (fun X0 _ => X0) e5)))).imp fun k hk K => ?_
  rw [f27, show (1 : Int) = ((1 : Nat) : Int) from rfl, hk]
  unfold idN
  by_cases c1 : isIdB id 1 = true
  · simp [c1]
  · by_cases c2 : isIdB id 2 = true
    · simp [c1, c2]
    · by_cases c3 : isIdB id 3 = true
      · simp [c1, c2, c3]
      · by_cases c4 : isIdB id 4 = true
        · simp [c1, c2, c3, c4]
        · simp [c1, c2, c3, c4]
theorem f28_v (R : Type) (id : Int) : Ev fun k => ∀ (K : Int → List Int → Option R), f28 k id K = if idN id = 0 then K 40 [] else K 0 (beB (idN id) id) := by
  have step : ∀ n, 1 ≤ n → n ≤ 4 → ∀ r : (Option R) → (Int → List Int → Option R) → Option R, (Ev fun k => ∀ X0 X1, f28_l2 k id ((n + 1 : Nat) : Int) X0 X1 = r X0 X1) → Ev fun k => ∀ X0 X1, f28_l2 k id (n : Int) X0 X1 = if isIdB id n = true then X1 0 (beB n id) else r X0 X1 := by
    intro n h1 h4 r h
    by_cases c : isIdB id n = true
    · refine .suc ((f62_v id h1 h4).imp2 (f28_bytes R n (by omega)) fun k h62 hk X0 X1 => ?_)
      rw [if_pos c, f28_l2, ifT (by omega), h62, c, mk_ok (by omega)]
      simp only [Bool.not_true, cond_true, cond_false, Int.toNat_natCast]
      obtain ⟨_, l1, l2⟩ := isId_lt h4 c
      rw [wr (by omega), hk _ _ _ l1 (by omega) (by simp)]; simp
    · refine .suc ((f62_v id h1 h4).imp2 h fun k h62 hk X0 X1 => ?_)
      have c' : isIdB id n = false := by simpa using c
      rw [if_neg c, f28_l2, ifT (by omega), h62, c', wrapSuc (by omega)]
      simp only [Bool.not_false, cond_true, hk]
  have e5 : Ev fun k => ∀ (X0 : Option R) (X1 : Int → List Int → Option R), f28_l2 k id ((4 + 1 : Nat) : Int) X0 X1 = X0 := .suc (.all fun k X0 X1 => by rw [f28_l2]; rfl)
  refine (step 1 (by omega) (by omega) _ (step 2 (by omega) (by omega) _ (step 3 (by omega) (by omega) _ (step 4 (by omega) (by omega) (fun X0 _ => X0) e5)))).imp fun k hk K => ?_
  rw [f28, show (1 : Int) = ((1 : Nat) : Int) from rfl, hk]
  unfold idN
  by_cases c1 : isIdB id 1 = true
  · simp [c1]
  · by_cases c2 : isIdB id 2 = true
    · simp [c1, c2]
    · by_cases c3 : isIdB id 3 = true
      · simp [c1, c2, c3]
      · by_cases c4 : isIdB id 4 = true
        · simp [c1, c2, c3, c4]
        · simp [c1, c2, c3, c4]
theorem elementKnows_plain (id : Int) : ∃ k, f6 (R := Bool) k id some = some true := by
  refine Ev.some ?_
  refine ((f25_v id Bool).and (f26_v id Bool)).imp3 ((f27_v Bool id).and (f28_v Bool id)) awake_v fun k h1 h2 h3 => ?_
  by_cases c : idN id = 0
  · simp only [f6, h1.1, h1.2, h2.1, h2.2, if_pos c, f17_same, beq_self_eq_true, beq_bytes, Bool.and_self, cond_true, h3]
  · simp only [f6, h1.1, h1.2, h2.1, h2.2, if_neg c, f17_same, beq_self_eq_true, beq_bytes, Bool.and_self, cond_true, h3]
end Go.Proofs.Ytklhjegfkpmdoaa

/-! What every row of this seat needs: the names of types, and that readings fit them. -/
namespace Go.Proofs.Ytklhjegfkpmdoaa
open Go Go.Am
theorem ownKn : ownKnob Try.prog.godebug = none := by kernel_rfl
theorem laidOut : laidOutB Try.prog = true := by kernel_rfl
noncomputable def naming : Naming cx where
  flds := flds
  toT := toT
  ofT := ofT
  plain := fun r => match r with
    | 0 => rfl
    | 1 => rfl
    | 2 => rfl
    | 3 => rfl
    | 4 => rfl
    | 5 => rfl
    | 6 => rfl
    | 7 => rfl
    | 8 => rfl
    | 9 => rfl
    | 10 => rfl
    | 11 => rfl
    | _n + 12 => rfl
  to_of := fun r x => match r, x with
    | 0, _ => rfl
    | 1, _ => rfl
    | 2, _ => rfl
    | 3, _ => rfl
    | 4, _ => rfl
    | 5, _ => rfl
    | 6, _ => rfl
    | 7, _ => rfl
    | 8, _ => rfl
    | 9, _ => rfl
    | 10, _ => rfl
    | 11, _ => rfl
    | _n + 12, _ => rfl
  deep := fun r v => match r, v with
    | 0, _ => rfl
    | 1, _ => rfl
    | 2, v => deep2_eq v
    | 3, _ => rfl
    | 4, _ => rfl
    | 5, _ => rfl
    | 6, _ => rfl
    | 7, _ => rfl
    | 8, _ => rfl
    | 9, _ => rfl
    | 10, _ => rfl
    | 11, _ => rfl
    | _n + 12, _ => rfl
theorem fit : Fit naming Try.prog := fit_of (tab := tab) rfl (by kernel_rfl)
theorem reachV' : reachBytes = 140737488351232 := rfl
theorem wf_bytes {z : Nat} {l : List Int} (h : WfIV (.list z (l.map fun y => [.int .u8 y]))) : l.length ≤ reachBytes ∧ ∀ n ∈ l, 0 ≤ n ∧ n < 256 := by
  cases h with
  | list h1 h2 _ =>
    refine ⟨by simpa using h1, fun n hn => ?_⟩
    have := h2 _ (List.mem_map.2 ⟨n, hn, rfl⟩) _ (List.mem_singleton.2 rfl)
    cases this with
    | int h3 => simp [Lit.wf, IntKind.min, IntKind.max, IntKind.signed, IntKind.bits] at h3; omega
theorem wf_int {n : Int} (h : WfIV (.int .i64 n)) : -9223372036854775808 ≤ n ∧ n < 9223372036854775808 := by
  cases h with
  | int h3 => simp [Lit.wf, IntKind.min, IntKind.max, IntKind.signed, IntKind.bits] at h3; omega
end Go.Proofs.Ytklhjegfkpmdoaa
