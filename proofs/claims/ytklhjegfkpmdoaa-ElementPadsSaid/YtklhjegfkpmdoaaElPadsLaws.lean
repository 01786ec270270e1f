/- Proved: what a Void of any number of bytes is. Conditions: none. -/
import Derived.Test.YtklhjegfkpmdoaaElWalk2
import Derived.Test.YtklhjegfkpmdoaaRows
import Derived.JoinedOf

/-! The chapter's examples hold. -/
namespace Go.Proofs.Ytklhjegfkpmdoaa
open Go Go.Am

theorem awake_v : Ev fun k => ∀ (R : Type) (K : Bool → Option R), f18 k K = K true := by
  refine .plus 100 (.all fun k R K => ?_)
  kernel_rfl
end Go.Proofs.Ytklhjegfkpmdoaa

/-! Numbers of variable length, as far as blocks need them. -/
namespace Go.Proofs.Ytklhjegfkpmdoaa
open Go Go.Am

theorem wrapU8 (x : Int) : IntKind.u8.wrap x = x % 256 := by
  simp [IntKind.wrap, IntKind.signed, IntKind.bits]
theorem wrapU64 {x : Int} (h : 0 ≤ x) (h' : x < 18446744073709551616) : IntKind.u64.wrap x = x := by
  simp [IntKind.wrap, IntKind.signed, IntKind.bits]; omega
theorem shr8 (w : Int) : shrI .u64 w 8 = w / 256 := by
  have : (min (8 : Int).toNat IntKind.u64.bits) = 8 := rfl
  unfold shrI
  rw [this, Int.fdiv_eq_ediv_of_nonneg _ (by decide)]
  rfl
theorem or_add {a : Int} {m : Nat} (h : 0 ≤ a) (h' : a < 2 ^ m) (hm : m < 60) : orI .u64 a (2 ^ m) = a + 2 ^ m := by
  obtain ⟨n, rfl⟩ : ∃ n : Nat, a = n := ⟨a.toNat, by omega⟩
  have h2 : n < 2 ^ m := by exact_mod_cast h'
  have h3 : 2 ^ m < 2 ^ 60 := Nat.pow_lt_pow_right (by decide) hm
  have e1 : (BitVec.ofInt IntKind.u64.bits (n : Int)).toNat = n := by
    show (BitVec.ofInt 64 (n : Int)).toNat = n
    rw [BitVec.toNat_ofInt]
    have : ((n : Int) % ((2 ^ 64 : Nat) : Int)) = n := by
      rw [Int.emod_eq_of_lt (by omega)]
      have : 2 ^ 60 < 2 ^ 64 := by decide
      omega
    rw [this]; rfl
  have e2 : (BitVec.ofInt IntKind.u64.bits ((2 : Int) ^ m)).toNat = 2 ^ m := by
    show (BitVec.ofInt 64 ((2 : Int) ^ m)).toNat = 2 ^ m
    have e : ((2 : Int) ^ m) = ((2 ^ m : Nat) : Int) := by simp
    rw [e, BitVec.toNat_ofInt]
    have : (((2 ^ m : Nat) : Int) % ((2 ^ 64 : Nat) : Int)) = ((2 ^ m : Nat) : Int) := by
      rw [Int.emod_eq_of_lt (by omega)]
      have : 2 ^ 60 < 2 ^ 64 := by decide
      omega
    rw [this]; rfl
  unfold orI
  rw [BitVec.toNat_or, e1, e2, Nat.or_comm]
  have := Nat.two_pow_add_eq_or_of_lt h2 1
  rw [Nat.mul_one] at this
  rw [← this, wrapU64 (by omega) (by omega)]
  simp; omega

def c1 (w : Int) : List Int := [w % 256]
def c2 (w : Int) : List Int := [w / 256 % 256, w % 256]
def c3 (w : Int) : List Int := [w / 256 / 256 % 256, w / 256 % 256, w % 256]

theorem big1 (w : Int) : Ev fun k => ∀ (R : Type) (K : List Int → Option R), f91 k w 1 K = K (c1 w) :=
  .suc (.suc (.all fun k R K => by
    simp [f91, f91_s, f91_l3, wrapU8, shr8, c1, inb, wrap64]))
theorem big2 (w : Int) : Ev fun k => ∀ (R : Type) (K : List Int → Option R), f91 k w 2 K = K (c2 w) :=
  .suc (.suc (.suc (.all fun k R K => by
    simp [f91, f91_s, f91_l3, wrapU8, shr8, c2, inb, wrap64, List.replicate])))
theorem big3 (w : Int) : Ev fun k => ∀ (R : Type) (K : List Int → Option R), f91 k w 3 K = K (c3 w) :=
  .suc (.suc (.suc (.suc (.all fun k R K => by
    simp [f91, f91_s, f91_l3, wrapU8, shr8, c3, inb, wrap64, List.replicate]))))

theorem bytes1 {w : Int} (h : 0 ≤ w) (_h' : w < 4611686018427387904) : Ev fun k => ∀ (R : Type) (K : List Int → Option R), f86 k w 1 K = K (c1 w) :=
  .suc (.suc (.all fun k R K => by
    simp [f86, f86_s, f86_l3, wrapU8, c1, inb, wrap64, Int.tmod_eq_emod_of_nonneg h]))
theorem bytes2 {w : Int} (h : 0 ≤ w) (h' : w < 4611686018427387904) : Ev fun k => ∀ (R : Type) (K : List Int → Option R), f86 k w 2 K = K (c2 w) :=
  .suc (.suc (.suc (.all fun k R K => by
    have h1 : 0 ≤ w / 256 := by omega
    have e1 : IntKind.i64.wrap (w / 256) = w / 256 := wrap64 (by omega) (by omega)
    simp [f86, f86_s, f86_l3, wrapU8, c2, inb, wrap64, List.replicate, Int.tmod_eq_emod_of_nonneg h, Int.tdiv_eq_ediv_of_nonneg h, e1, Int.tmod_eq_emod_of_nonneg h1])))
theorem bytes3 {w : Int} (h : 0 ≤ w) (h' : w < 4611686018427387904) : Ev fun k => ∀ (R : Type) (K : List Int → Option R), f86 k w 3 K = K (c3 w) :=
  .suc (.suc (.suc (.suc (.all fun k R K => by
    have h1 : 0 ≤ w / 256 := by omega
    have e1 : IntKind.i64.wrap (w / 256) = w / 256 := wrap64 (by omega) (by omega)
    have h2 : 0 ≤ w / 256 / 256 := by omega
    have e2 : IntKind.i64.wrap (w / 256 / 256) = w / 256 / 256 := wrap64 (by omega) (by omega)
    simp [f86, f86_s, f86_l3, wrapU8, c3, inb, wrap64, List.replicate, Int.tmod_eq_emod_of_nonneg h, Int.tdiv_eq_ediv_of_nonneg h, e1, Int.tmod_eq_emod_of_nonneg h1, Int.tdiv_eq_ediv_of_nonneg h1, e2, Int.tmod_eq_emod_of_nonneg h2]))))

theorem all1 (k : Nat) (R : Type) (K : Int → Option R) : f82 k 1 K = K 127 := by kernel_rfl
theorem all2 (k : Nat) (R : Type) (K : Int → Option R) : f82 k 2 K = K 16383 := by kernel_rfl
theorem all3 (k : Nat) (R : Type) (K : Int → Option R) : f82 k 3 K = K 2097151 := by kernel_rfl
theorem most1 (k : Nat) (R : Type) (K : Int → Option R) : f85 k 1 K = K 127 := by kernel_rfl
theorem most2 (k : Nat) (R : Type) (K : Int → Option R) : f85 k 2 K = K 16383 := by kernel_rfl
theorem most3 (k : Nat) (R : Type) (K : Int → Option R) : f85 k 3 K = K 2097151 := by kernel_rfl
theorem mark1 {v : Int} (h : 0 ≤ v) (h' : v < 128) : Ev fun k => ∀ (R : Type) (K : List Int → Option R), f83 k v 1 K = K (c1 (v + 128)) :=
  (big1 (v + 128)).imp fun k hb R K => by
    have e : orI .u64 v (shlI .u64 1 (IntKind.i64.wrap (7 * 1))) = v + 128 := or_add (m := 7) h (by simpa using h') (by decide)
    have e0 : decide (IntKind.i64.wrap (7 * 1) < 0) = false := by decide
    simp only [f83, f83_s]
    rw [e0, e]; exact hb R K
theorem mark2 {v : Int} (h : 0 ≤ v) (h' : v < 16384) : Ev fun k => ∀ (R : Type) (K : List Int → Option R), f83 k v 2 K = K (c2 (v + 16384)) :=
  (big2 (v + 16384)).imp fun k hb R K => by
    have e : orI .u64 v (shlI .u64 1 (IntKind.i64.wrap (7 * 2))) = v + 16384 := or_add (m := 14) h (by simpa using h') (by decide)
    have e0 : decide (IntKind.i64.wrap (7 * 2) < 0) = false := by decide
    simp only [f83, f83_s]
    rw [e0, e]; exact hb R K
theorem mark3 {v : Int} (h : 0 ≤ v) (h' : v < 2097152) : Ev fun k => ∀ (R : Type) (K : List Int → Option R), f83 k v 3 K = K (c3 (v + 2097152)) :=
  (big3 (v + 2097152)).imp fun k hb R K => by
    have e : orI .u64 v (shlI .u64 1 (IntKind.i64.wrap (7 * 3))) = v + 2097152 := or_add (m := 21) h (by simpa using h') (by decide)
    have e0 : decide (IntKind.i64.wrap (7 * 3) < 0) = false := by decide
    simp only [f83, f83_s]
    rw [e0, e]; exact hb R K

/-- A number of variable length. -/
def vintB (v : Int) : List Int := if v < 127 then c1 (v + 128) else if v < 16383 then c2 (v + 16384) else c3 (v + 2097152)
/-- A signed one. -/
theorem f52_v {v : Int} (h : 0 ≤ v) (h' : v < 2097151) : Ev fun k => ∀ (R : Type) (K : Int → List Int → Option R), f52 k v 0 K = K 0 (vintB v) := by
  have w : IntKind.u64.wrap v = v := wrapU64 h (by omega)
  have w2 : IntKind.i64.wrap (1 + 1) = 2 := by decide
  have w3 : IntKind.i64.wrap (2 + 1) = 3 := by decide
  have nn : ¬ v < 0 := by omega
  by_cases h1 : v < 127
  · refine .suc ((mark1 h (by omega)).and ?_ |>.imp fun k (hm : _ ∧ ∀ (R : Type) (K : List Int → Option R), f83 (k + 1) v 1 K = K (c1 (v + 128))) R K => ?_)
    · obtain ⟨a, ha⟩ := mark1 (v := v) h (by omega)
      exact ⟨a, fun k hk => ha (k + 1) (by omega)⟩
    · have : decide (v ≥ 127) = false := by simp; omega
      simp [f52, f52_s, f52_l5, all1, this, w, hm.2, vintB, h1, nn]
  · by_cases h2 : v < 16383
    · refine .suc (.suc ?_)
      obtain ⟨a, ha⟩ := mark2 (v := v) h (by omega)
      refine ⟨a, fun k hk R K => ?_⟩
      have t1 : decide (v ≥ 127) = true := by simp; omega
      have t2 : decide (v ≥ 16383) = false := by simp; omega
      simp [wrap64, f52, f52_s, f52_l5, all1, all2, t1, t2, w, w2, ha (k + 1 + 1) (by omega), vintB, h1, h2, nn]
    · refine .suc (.suc (.suc ?_))
      obtain ⟨a, ha⟩ := mark3 (v := v) h (by omega)
      refine ⟨a, fun k hk R K => ?_⟩
      have t1 : decide (v ≥ 127) = true := by simp; omega
      have t2 : decide (v ≥ 16383) = true := by simp; omega
      have t3 : decide (v ≥ 2097151) = false := by simp; omega
      simp [wrap64, f52, f52_s, f52_l5, all1, all2, all3, t1, t2, t3, w, w2, w3, ha (k + 1 + 1 + 1) (by omega), vintB, h1, h2, nn]

theorem _root_.Go.Am.Ev.up {p : Nat → Prop} (h : Ev p) : Ev fun k => p (k + 1) := by
  obtain ⟨a, ha⟩ := h
  exact ⟨a, fun k hk => ha (k + 1) (by omega)⟩

theorem f54_n1 {v : Int} (h : 0 ≤ v) (h' : v < 127) : Ev fun k => ∀ (R : Type) (K : Int → List Int → Option R), f54 k v 1 K = K 0 (c1 (v + 128)) := by
  refine (bytes1 (w := v + 128) (by omega) (by omega)).imp fun k hb R K => ?_
  have nn : ¬ v < 0 := by omega
  have t1 : decide (v ≥ 127) = false := by simp; omega
  have e0 : decide (IntKind.u64.wrap (IntKind.i64.wrap (7 * 1)) < 0) = false := by decide
  have e1 : shlI .i64 1 (IntKind.u64.wrap (IntKind.i64.wrap (7 * 1))) = 128 := by decide
  have e2 : IntKind.i64.wrap (v + 128) = v + 128 := wrap64 (by omega) (by omega)
  simp only [f54, f54_s, most1, t1, e0, e1, e2, hb]
  simp [nn]
theorem f54_n2 {v : Int} (h : 0 ≤ v) (h' : v < 16383) : Ev fun k => ∀ (R : Type) (K : Int → List Int → Option R), f54 k v 2 K = K 0 (c2 (v + 16384)) := by
  refine (bytes2 (w := v + 16384) (by omega) (by omega)).imp fun k hb R K => ?_
  have nn : ¬ v < 0 := by omega
  have t1 : decide (v ≥ 16383) = false := by simp; omega
  have e0 : decide (IntKind.u64.wrap (IntKind.i64.wrap (7 * 2)) < 0) = false := by decide
  have e1 : shlI .i64 1 (IntKind.u64.wrap (IntKind.i64.wrap (7 * 2))) = 16384 := by decide
  have e2 : IntKind.i64.wrap (v + 16384) = v + 16384 := wrap64 (by omega) (by omega)
  simp only [f54, f54_s, most2, t1, e0, e1, e2, hb]
  simp [nn]
theorem f54_n3 {v : Int} (h : 0 ≤ v) (h' : v < 2097151) : Ev fun k => ∀ (R : Type) (K : Int → List Int → Option R), f54 k v 3 K = K 0 (c3 (v + 2097152)) := by
  refine (bytes3 (w := v + 2097152) (by omega) (by omega)).imp fun k hb R K => ?_
  have nn : ¬ v < 0 := by omega
  have t1 : decide (v ≥ 2097151) = false := by simp; omega
  have e0 : decide (IntKind.u64.wrap (IntKind.i64.wrap (7 * 3)) < 0) = false := by decide
  have e1 : shlI .i64 1 (IntKind.u64.wrap (IntKind.i64.wrap (7 * 3))) = 2097152 := by decide
  have e2 : IntKind.i64.wrap (v + 2097152) = v + 2097152 := wrap64 (by omega) (by omega)
  simp only [f54, f54_s, most3, t1, e0, e1, e2, hb]
  simp [nn]
theorem f54_v {v : Int} (h : 0 ≤ v) (h' : v < 2097151) : Ev fun k => ∀ (R : Type) (K : Int → List Int → Option R), f54 k v 0 K = K 0 (vintB v) := by
  have nn : ¬ v < 0 := by omega
  have e01 : decide (IntKind.u64.wrap (IntKind.i64.wrap (7 * 1)) < 0) = false := by decide
  have e11 : shlI .i64 1 (IntKind.u64.wrap (IntKind.i64.wrap (7 * 1))) = 128 := by decide
  have e02 : decide (IntKind.u64.wrap (IntKind.i64.wrap (7 * 2)) < 0) = false := by decide
  have e12 : shlI .i64 1 (IntKind.u64.wrap (IntKind.i64.wrap (7 * 2))) = 16384 := by decide
  have e03 : decide (IntKind.u64.wrap (IntKind.i64.wrap (7 * 3)) < 0) = false := by decide
  have e13 : shlI .i64 1 (IntKind.u64.wrap (IntKind.i64.wrap (7 * 3))) = 2097152 := by decide
  have w2 : IntKind.i64.wrap (1 + 1) = 2 := by decide
  have w3 : IntKind.i64.wrap (2 + 1) = 3 := by decide
  have l8 : decide ((1 : Int) < 8) = true := by decide
  have l82 : decide ((2 : Int) < 8) = true := by decide
  have l83 : decide ((3 : Int) < 8) = true := by decide
  have z0 : decide ((0 : Int) < 0) = false := by decide
  have z8 : decide ((0 : Int) > 8) = false := by decide
  have zz : ((0 : Int) == 0) = true := by decide
  have nv : decide (v < 0) = false := by simp; omega
  by_cases h1 : v < 127
  · refine .suc ((bytes1 (w := v + 128) (by omega) (by omega)).up.imp fun k hb R K => ?_)
    have t1 : decide (v ≥ 127) = false := by simp; omega
    have e2 : IntKind.i64.wrap (v + 128) = v + 128 := wrap64 (by omega) (by omega)
    simp only [f54, f54_s, f54_l5, most1, t1, e01, e11, e2, hb, l8, z0, z8, zz, nv, cond_true, cond_false, vintB, h1, if_true]
  · by_cases h2 : v < 16383
    · refine .suc (.suc ((bytes2 (w := v + 16384) (by omega) (by omega)).up.up.imp fun k hb R K => ?_))
      have t1 : decide (v ≥ 127) = true := by simp; omega
      have t2 : decide (v ≥ 16383) = false := by simp; omega
      have e2 : IntKind.i64.wrap (v + 16384) = v + 16384 := wrap64 (by omega) (by omega)
      simp only [f54, f54_s, f54_l5, most1, most2, t1, t2, e02, e12, e2, w2, hb, l8, l82, z0, z8, zz, nv, cond_true, cond_false, vintB, h1, h2, if_true, if_false]
    · refine .suc (.suc (.suc ((bytes3 (w := v + 2097152) (by omega) (by omega)).up.up.up.imp fun k hb R K => ?_)))
      have t1 : decide (v ≥ 127) = true := by simp; omega
      have t2 : decide (v ≥ 16383) = true := by simp; omega
      have t3 : decide (v ≥ 2097151) = false := by simp; omega
      have e2 : IntKind.i64.wrap (v + 2097152) = v + 2097152 := wrap64 (by omega) (by omega)
      simp only [f54, f54_s, f54_l5, most1, most2, most3, t1, t2, t3, e03, e13, e2, w2, w3, hb, l8, l82, l83, z0, z8, zz, nv, cond_true, cond_false, vintB, h1, h2, if_true, if_false]

end Go.Proofs.Ytklhjegfkpmdoaa

/-! Lists put behind one another; a Void of any number of bytes. -/
namespace Go.Proofs.Ytklhjegfkpmdoaa
open Go Go.Am

def sumL (l : List (List Int)) : Nat := (l.map List.length).sum
theorem sumL_cons (f : List Int) (l : List (List Int)) : sumL (f :: l) = f.length + sumL l := by simp [sumL]
theorem flat_len (l : List (List Int)) : l.flatten.length = sumL l := by simp [sumL, List.length_flatten]

theorem f53_sum (v : List (List Int)) (l : List (List Int)) (hl : l.length ≤ 1000) : ∀ i, i ≤ l.length → Ev fun k => ∀ (R : Type) (a : Nat) (X : List (List Int) → Int → Option R), a + sumL (l.drop i) ≤ 140737488355328 →
    f53_l3 f84 k v (a : Int) l (l.length : Int) (i : Int) X = X v ((a + sumL (l.drop i) : Nat) : Int) := by
  refine Ev.down l.length ?_ ?_
  · exact Ev.suc (.all fun k R a X _ => by simp [f53_l3, sumL])
  · intro i hi h
    refine Ev.suc (h.imp fun k hk R a X ha => ?_)
    rw [List.drop_eq_getElem_cons hi, sumL_cons] at ha ⊢
    have w : IntKind.i64.wrap ((a : Int) + (l[i].length : Int)) = ((a + l[i].length : Nat) : Int) := by rw [wrap64 (by omega) (by omega)]; omega
    have t : decide (((a + l[i].length : Nat) : Int) < 0) = false := by simp; omega
    rw [f53_l3, lt_nat, inb_nat, wrapSuc (by omega)]
    simp only [hi, decide_true, cond_true, Int.toNat_natCast, getD_get hi, w, t, cond_false]
    rw [hk R _ X (by omega)]
    congr 2; omega
theorem f53_cat (l : List (List Int)) (hl : l.length ≤ 1000) : ∀ i, i ≤ l.length → Ev fun k => ∀ (R : Type) (acc : List Int) (X : List Int → Option R), acc.length + sumL (l.drop i) ≤ 140737488355328 →
    f53_l11 f84 k l (l.length : Int) (i : Int) acc X = X (acc ++ (l.drop i).flatten) := by
  refine Ev.down l.length ?_ ?_
  · exact Ev.suc (.all fun k R a X _ => by simp [f53_l11])
  · intro i hi h
    refine Ev.suc (h.imp fun k hk R acc X ha => ?_)
    rw [List.drop_eq_getElem_cons hi] at ha ⊢
    rw [sumL_cons] at ha
    rw [f53_l11, lt_nat, inb_nat, wrapSuc (by omega)]
    simp only [hi, decide_true, cond_true, Int.toNat_natCast, getD_get hi]
    rw [room_ok (by omega), cond_true, hk R _ X (by rw [List.length_append]; omega), List.flatten_cons, List.append_assoc]
theorem f84_v {n : Nat} (h : n ≤ 140737488355328) (k : Nat) (R : Type) (K : List Int → Option R) : f84 k (n : Int) K = K [] := by
  have e0 : IntKind.i64.wrap (0 - 0) = 0 := by decide
  have e1 : IntKind.i64.wrap ((n : Int) - 0) = n := by rw [Int.sub_zero]; exact wrapNat (by omega)
  have t0 : decide ((n : Int) < 0) = false := decide_eq_false (by omega)
  simp only [f84, f84_s, e0, e1, t0, cond_false]
  cases n with
  | zero => simp
  | succ n =>
    have t1 : decide (((n + 1 : Nat) : Int) > 0) = true := decide_eq_true (by omega)
    have t2 : decide ((0 : Int) ≤ ((n + 1 : Nat) : Int)) = true := decide_eq_true (by omega)
    have t3 : decide (((n + 1 : Nat) : Int) * (1 : Nat) ≤ 140737488355328) = true := by simp; omega
    simp only [t1, t2, t3, cond_true, Bool.and_true, Int.toNat_natCast, List.length_replicate]
    rw [room_ok (by omega), upto_int (by omega) (by omega)]
    simp
theorem f53_v (l : List (List Int)) (hl : l.length ≤ 1000) (hs : sumL l ≤ 140737488355328) : Ev fun k => ∀ (R : Type) (K : List Int → Option R), f53 k l K = K l.flatten := by
  refine (f53_sum l l hl 0 (by omega)).imp2 (f53_cat l hl 0 (by omega)) fun k h1 h2 R K => ?_
  simp only [Int.natCast_zero, List.drop_zero] at h1 h2
  have h1 := h1 R 0 (fun v6 v7 => f84 k v7 fun v8 => f53_l11 f84 k v6 (v6.length : Int) 0 v8 fun v13 => K v13) (by omega)
  simp only [Int.natCast_zero, Nat.zero_add] at h1
  simp only [f53, f53_s]
  rw [h1, f84_v hs, h2 R [] _ (by simpa using hs), List.nil_append]

theorem f17_same (a : List Int) (k : Nat) (R : Type) (K : Bool → Option R) : f17 k a a K = K true := by
  simp [f17, f17_s]

/-! one of so many bytes -/
def padB (n : Nat) : List Int :=
  if n < 129 then 236 :: (c1 ((n - 2 : Nat) + 128) ++ List.replicate (n - 2) 0)
  else if n < 16386 then 236 :: (c2 ((n - 3 : Nat) + 16384) ++ List.replicate (n - 3) 0)
  else 236 :: (c3 ((n - 4 : Nat) + 2097152) ++ List.replicate (n - 4) 0)
theorem padB_len {n : Nat} (h : 2 ≤ n) : (padB n).length = n := by
  unfold padB; split
  · simp [c1]; omega
  · split
    · simp [c2]; omega
    · simp [c3]; omega

theorem put1 {v : Int} (h : 0 ≤ v) : Ev fun k => ∀ (R : Type) (K : Int → List Int → Option R), f52 k v 1 K = if v < 127 then K 0 (c1 (v + 128)) else K 1 [] := by
  have nn : ¬ v < 0 := by omega
  by_cases h1 : v < 127
  · have w : IntKind.u64.wrap v = v := wrapU64 h (by omega)
    refine (mark1 h (by omega)).imp fun k hm R K => ?_
    have t : decide (v ≥ 127) = false := by simp; omega
    simp [f52, f52_s, all1, t, w, hm, h1, nn]
  · refine .all fun k R K => ?_
    have t : decide (v ≥ 127) = true := by simp; omega
    simp [f52, f52_s, all1, t, h1, nn]
theorem put2 {v : Int} (h : 0 ≤ v) : Ev fun k => ∀ (R : Type) (K : Int → List Int → Option R), f52 k v 2 K = if v < 16383 then K 0 (c2 (v + 16384)) else K 1 [] := by
  have nn : ¬ v < 0 := by omega
  by_cases h1 : v < 16383
  · have w : IntKind.u64.wrap v = v := wrapU64 h (by omega)
    refine (mark2 h (by omega)).imp fun k hm R K => ?_
    have t : decide (v ≥ 16383) = false := by simp; omega
    simp [f52, f52_s, all2, t, w, hm, h1, nn]
  · refine .all fun k R K => ?_
    have t : decide (v ≥ 16383) = true := by simp; omega
    simp [f52, f52_s, all2, t, h1, nn]
theorem put3 {v : Int} (h : 0 ≤ v) (h1 : v < 2097151) : Ev fun k => ∀ (R : Type) (K : Int → List Int → Option R), f52 k v 3 K = K 0 (c3 (v + 2097152)) := by
  have nn : ¬ v < 0 := by omega
  have w : IntKind.u64.wrap v = v := wrapU64 h (by omega)
  refine (mark3 h (by omega)).imp fun k hm R K => ?_
  have t : decide (v ≥ 2097151) = false := by simp; omega
  simp [f52, f52_s, all3, t, w, hm, nn]
theorem rput1 {v : Int} (h : 0 ≤ v) : Ev fun k => ∀ (R : Type) (K : Int → List Int → Option R), f54 k v 1 K = if v < 127 then K 0 (c1 (v + 128)) else K 1 [] := by
  by_cases h1 : v < 127
  · exact (f54_n1 h h1).imp fun k hm R K => by rw [hm, if_pos h1]
  · refine .all fun k R K => ?_
    have nn : ¬ v < 0 := by omega
    have t : decide (v ≥ 127) = true := by simp; omega
    simp [f54, f54_s, most1, t, h1, nn]
theorem rput2 {v : Int} (h : 0 ≤ v) : Ev fun k => ∀ (R : Type) (K : Int → List Int → Option R), f54 k v 2 K = if v < 16383 then K 0 (c2 (v + 16384)) else K 1 [] := by
  by_cases h1 : v < 16383
  · exact (f54_n2 h h1).imp fun k hm R K => by rw [hm, if_pos h1]
  · refine .all fun k R K => ?_
    have nn : ¬ v < 0 := by omega
    have t : decide (v ≥ 16383) = true := by simp; omega
    simp [f54, f54_s, most2, t, h1, nn]

theorem f15_v (n : Int) : Ev fun k => ∀ (R : Type) (K : Int → List Int → Option R), f15 k n K = if n < 2 ∨ 1048576 < n then K 1 [] else K 0 (padB n.toNat) := by
  by_cases h : n < 2 ∨ 1048576 < n
  · refine .all fun k R K => ?_
    rw [if_pos h]
    by_cases h1 : n < 2
    · simp [f15, f15_s, h1]
    · have h2 : 1048576 < n := by omega
      simp [f15, f15_s, h1, h2]
  · obtain ⟨m, rfl⟩ : ∃ m : Nat, n = m := ⟨n.toNat, by omega⟩
    have w1 : IntKind.i64.wrap (IntKind.i64.wrap ((m : Int) - 1) - 1) = ((m - 2 : Nat) : Int) := by rw [wrap64 (by rw [wrap64 (by omega) (by omega)]; omega) (by rw [wrap64 (by omega) (by omega)]; omega), wrap64 (by omega) (by omega)]; omega
    have w2 : 129 ≤ m → IntKind.i64.wrap (IntKind.i64.wrap ((m : Int) - 1) - 2) = ((m - 3 : Nat) : Int) := fun _ => by rw [wrap64 (by rw [wrap64 (by omega) (by omega)]; omega) (by rw [wrap64 (by omega) (by omega)]; omega), wrap64 (by omega) (by omega)]; omega
    have w3 : 129 ≤ m → IntKind.i64.wrap (IntKind.i64.wrap ((m : Int) - 1) - 3) = ((m - 4 : Nat) : Int) := fun _ => by rw [wrap64 (by rw [wrap64 (by omega) (by omega)]; omega) (by rw [wrap64 (by omega) (by omega)]; omega), wrap64 (by omega) (by omega)]; omega
    have s1 : IntKind.i64.wrap (1 + 1) = 2 := by decide
    have s2 : IntKind.i64.wrap (2 + 1) = 3 := by decide
    have t1 : decide ((m : Int) < 2) = false := by simp; omega
    have t2 : decide ((m : Int) > 1048576) = false := by simp; omega
    have rm : ∀ q : Nat, q ≤ 1048576 → ((decide ((0 : Int) ≤ (q : Int)) && decide ((q : Int) ≤ (q : Int))) && decide ((q : Int) * ((1 : Nat) : Int) ≤ 140737488355328)) = true := fun q hq => by simp; omega
    rw [Int.toNat_natCast]
    by_cases a1 : m < 129
    · refine .suc ((put1 (v := ((m - 2 : Nat) : Int)) (by omega)).imp2 (f53_v [[236], c1 (((m - 2 : Nat) : Int) + 128), List.replicate (m - 2) 0] (by simp) (by simp [sumL, c1]; omega)) ?_)
      intro k h1 h2 R K
      have l1 : ((m - 2 : Nat) : Int) < 127 := by omega
      rw [if_neg h]
      simp only [f15, f15_s, f15_l5, t1, t2, cond_false, w1, h1, if_pos l1, beq_self_eq_true, cond_true, rm (m - 2) (by omega), Int.toNat_natCast, h2]
      unfold padB
      rw [if_pos a1]
      simp
    · have n1 : ¬ ((m - 2 : Nat) : Int) < 127 := by omega
      by_cases a2 : m < 16386
      · refine .suc (.suc ((put1 (v := ((m - 2 : Nat) : Int)) (by omega)).up.imp3 (put2 (v := ((m - 3 : Nat) : Int)) (by omega)) (f53_v [[236], c2 (((m - 3 : Nat) : Int) + 16384), List.replicate (m - 3) 0] (by simp) (by simp [sumL, c2]; omega)) ?_))
        intro k h1 h2 h3 R K
        have l2 : ((m - 3 : Nat) : Int) < 16383 := by omega
        have z1 : ((1 : Int) == 0) = false := by decide
        rw [if_neg h]
        simp only [f15, f15_s, f15_l5, t1, t2, cond_false, w1, h1, if_neg n1, z1, s1, w2 (by omega), h2, if_pos l2, beq_self_eq_true, cond_true, rm (m - 3) (by omega), Int.toNat_natCast, h3]
        unfold padB
        rw [if_neg a1, if_pos a2]
        simp
      · refine .suc (.suc (.suc ((put1 (v := ((m - 2 : Nat) : Int)) (by omega)).up.up.imp4 (put2 (v := ((m - 3 : Nat) : Int)) (by omega)).up (put3 (v := ((m - 4 : Nat) : Int)) (by omega) (by omega)) (f53_v [[236], c3 (((m - 4 : Nat) : Int) + 2097152), List.replicate (m - 4) 0] (by simp) (by simp [sumL, c3]; omega)) ?_)))
        intro k h1 h2 h3 h4 R K
        have n2 : ¬ ((m - 3 : Nat) : Int) < 16383 := by omega
        have z1 : ((1 : Int) == 0) = false := by decide
        rw [if_neg h]
        simp only [f15, f15_s, f15_l5, t1, t2, cond_false, w1, h1, if_neg n1, z1, s1, s2, w2 (by omega), w3 (by omega), h2, if_neg n2, h3, beq_self_eq_true, cond_true, rm (m - 4) (by omega), Int.toNat_natCast, h4]
        unfold padB
        rw [if_neg a1, if_neg a2]
        simp

theorem f16_v (n : Int) : Ev fun k => ∀ (R : Type) (K : Int → List Int → Option R), f16 k n K = if n < 2 ∨ 1048576 < n then K 1 [] else K 0 (padB n.toNat) := by
  by_cases h : n < 2 ∨ 1048576 < n
  · refine .all fun k R K => ?_
    rw [if_pos h]
    by_cases h1 : n < 2
    · simp [f16, f16_s, h1]
    · have h2 : 1048576 < n := by omega
      simp [f16, f16_s, h1, h2]
  · obtain ⟨m, rfl⟩ : ∃ m : Nat, n = m := ⟨n.toNat, by omega⟩
    have w1 : IntKind.i64.wrap (IntKind.i64.wrap ((m : Int) - 1) - 1) = ((m - 2 : Nat) : Int) := by rw [wrap64 (by rw [wrap64 (by omega) (by omega)]; omega) (by rw [wrap64 (by omega) (by omega)]; omega), wrap64 (by omega) (by omega)]; omega
    have w2 : 129 ≤ m → IntKind.i64.wrap (IntKind.i64.wrap ((m : Int) - 1) - 2) = ((m - 3 : Nat) : Int) := fun _ => by rw [wrap64 (by rw [wrap64 (by omega) (by omega)]; omega) (by rw [wrap64 (by omega) (by omega)]; omega), wrap64 (by omega) (by omega)]; omega
    have w3 : 129 ≤ m → IntKind.i64.wrap (IntKind.i64.wrap ((m : Int) - 1) - 3) = ((m - 4 : Nat) : Int) := fun _ => by rw [wrap64 (by rw [wrap64 (by omega) (by omega)]; omega) (by rw [wrap64 (by omega) (by omega)]; omega), wrap64 (by omega) (by omega)]; omega
    have s1 : IntKind.i64.wrap (1 + 1) = 2 := by decide
    have s2 : IntKind.i64.wrap (2 + 1) = 3 := by decide
    have t1 : decide ((m : Int) < 2) = false := by simp; omega
    have t2 : decide ((m : Int) > 1048576) = false := by simp; omega
    have l1 : decide ((1 : Int) ≤ 8) = true := by decide
    have l2 : decide ((2 : Int) ≤ 8) = true := by decide
    have l3 : decide ((3 : Int) ≤ 8) = true := by decide
    have z1 : ((1 : Int) == 0) = false := by decide
    have rm : ∀ q : Nat, q ≤ 1048576 → (decide ((0 : Int) ≤ (q : Int)) && decide ((q : Int) * ((1 : Nat) : Int) ≤ 140737488355328)) = true := fun q hq => by simp; omega
    rw [Int.toNat_natCast]
    by_cases a1 : m < 129
    · refine .suc ((rput1 (v := ((m - 2 : Nat) : Int)) (by omega)).imp ?_)
      intro k h1 R K
      have p1 : ((m - 2 : Nat) : Int) < 127 := by omega
      rw [if_neg h]
      simp only [f16, f16_s, f16_l4, t1, t2, cond_false, w1, l1, h1, if_pos p1, beq_self_eq_true, cond_true, rm (m - 2) (by omega), Int.toNat_natCast]
      rw [room_ok (by simp [c1]), room_ok (by simp [c1]; omega)]
      unfold padB
      rw [if_pos a1]
      simp
    · have n1 : ¬ ((m - 2 : Nat) : Int) < 127 := by omega
      by_cases a2 : m < 16386
      · refine .suc (.suc ((rput1 (v := ((m - 2 : Nat) : Int)) (by omega)).up.imp2 (rput2 (v := ((m - 3 : Nat) : Int)) (by omega)) ?_))
        intro k h1 h2 R K
        have p2 : ((m - 3 : Nat) : Int) < 16383 := by omega
        rw [if_neg h]
        simp only [f16, f16_s, f16_l4, t1, t2, cond_false, w1, l1, l2, h1, if_neg n1, z1, s1, w2 (by omega), h2, if_pos p2, beq_self_eq_true, cond_true, rm (m - 3) (by omega), Int.toNat_natCast]
        rw [room_ok (by simp [c2]), room_ok (by simp [c2]; omega)]
        unfold padB
        rw [if_neg a1, if_pos a2]
        simp
      · refine .suc (.suc (.suc ((rput1 (v := ((m - 2 : Nat) : Int)) (by omega)).up.up.imp3 (rput2 (v := ((m - 3 : Nat) : Int)) (by omega)).up (f54_n3 (v := ((m - 4 : Nat) : Int)) (by omega) (by omega)) ?_)))
        intro k h1 h2 h3 R K
        have n2 : ¬ ((m - 3 : Nat) : Int) < 16383 := by omega
        rw [if_neg h]
        simp only [f16, f16_s, f16_l4, t1, t2, cond_false, w1, l1, l2, l3, h1, if_neg n1, z1, s1, s2, w2 (by omega), w3 (by omega), h2, if_neg n2, h3, beq_self_eq_true, cond_true, rm (m - 4) (by omega), Int.toNat_natCast]
        rw [room_ok (by simp [c3]), room_ok (by simp [c3]; omega)]
        unfold padB
        rw [if_neg a1, if_neg a2]
        simp

theorem elementPads_plain (n : Int) : ∃ k, f3 (R := Bool) k n some = some true := by
  refine Ev.some ?_
  refine (f15_v n).imp3 (f16_v n) awake_v fun k h1 h2 h3 => ?_
  by_cases h : n < 2 ∨ 1048576 < n
  · simp only [f3, f3_s, h1, h2, if_pos h, f17_same, cond_true, h3]
    simp
  · have hl : (padB n.toNat).length = n.toNat := padB_len (by omega)
    have t : (((padB n.toNat).length : Int) == n) = true := by rw [hl]; simp; omega
    simp only [f3, f3_s, h1, h2, if_neg h, f17_same, cond_true, h3, t]
    simp
end Go.Proofs.Ytklhjegfkpmdoaa

/-! What every row of this seat needs: the names of types, and that readings fit them. -/
namespace Go.Proofs.Ytklhjegfkpmdoaa
open Go Go.Am
theorem ownKn : ownKnob Try.prog.godebug = none := by kernel_rfl
theorem laidOut : laidOutB Try.prog = true := by kernel_rfl
noncomputable def naming : Naming cx where
  flds := flds
  toT := toT
  ofT := ofT
  plain := fun r => match r with
    | 0 => rfl
    | 1 => rfl
    | 2 => rfl
    | 3 => rfl
    | 4 => rfl
    | 5 => rfl
    | 6 => rfl
    | 7 => rfl
    | 8 => rfl
    | 9 => rfl
    | 10 => rfl
    | 11 => rfl
    | _n + 12 => rfl
  to_of := fun r x => match r, x with
    | 0, _ => rfl
    | 1, _ => rfl
    | 2, _ => rfl
    | 3, _ => rfl
    | 4, _ => rfl
    | 5, _ => rfl
    | 6, _ => rfl
    | 7, _ => rfl
    | 8, _ => rfl
    | 9, _ => rfl
    | 10, _ => rfl
    | 11, _ => rfl
    | _n + 12, _ => rfl
  deep := fun r v => match r, v with
    | 0, _ => rfl
    | 1, _ => rfl
    | 2, v => deep2_eq v
    | 3, _ => rfl
    | 4, _ => rfl
    | 5, _ => rfl
    | 6, _ => rfl
    | 7, _ => rfl
    | 8, _ => rfl
    | 9, _ => rfl
    | 10, _ => rfl
    | 11, _ => rfl
    | _n + 12, _ => rfl
theorem fit : Fit naming Try.prog := fit_of (tab := tab) rfl (by kernel_rfl)
theorem reachV' : reachBytes = 140737488351232 := rfl
theorem wf_bytes {z : Nat} {l : List Int} (h : WfIV (.list z (l.map fun y => [.int .u8 y]))) : l.length ≤ reachBytes ∧ ∀ n ∈ l, 0 ≤ n ∧ n < 256 := by
  cases h with
  | list h1 h2 =>
    refine ⟨by simpa using h1, fun n hn => ?_⟩
    have := h2 _ (List.mem_map.2 ⟨n, hn, rfl⟩) _ (List.mem_singleton.2 rfl)
    cases this with
    | int h3 => simp [Lit.wf, IntKind.min, IntKind.max, IntKind.signed, IntKind.bits] at h3; omega
theorem wf_int {n : Int} (h : WfIV (.int .i64 n)) : -9223372036854775808 ≤ n ∧ n < 9223372036854775808 := by
  cases h with
  | int h3 => simp [Lit.wf, IntKind.min, IntKind.max, IntKind.signed, IntKind.bits] at h3; omega
end Go.Proofs.Ytklhjegfkpmdoaa
