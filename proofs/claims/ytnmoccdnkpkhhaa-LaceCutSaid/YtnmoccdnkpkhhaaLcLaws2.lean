/- Proved: what numbers of variable length, the sizes of frames, the costs of lacings and the bytes of a block are. Conditions: the lengths are those of slices in memory. -/
import Derived.Test.YtnmoccdnkpkhhaaLcLaws1

/-! Numbers of variable length, as far as blocks need them. -/
namespace Go.Proofs.Ytnmoccdnkpkhhaa
open Go Go.Am

theorem wrapU8 (x : Int) : IntKind.u8.wrap x = x % 256 := by
  simp [IntKind.wrap, IntKind.signed, IntKind.bits]
theorem wrapU64 {x : Int} (h : 0 ≤ x) (h' : x < 18446744073709551616) : IntKind.u64.wrap x = x := by
  simp [IntKind.wrap, IntKind.signed, IntKind.bits]; omega
theorem shr8 (w : Int) : shrI .u64 w 8 = w / 256 := by
  have : (min (8 : Int).toNat IntKind.u64.bits) = 8 := rfl
  unfold shrI
  rw [this, Int.fdiv_eq_ediv_of_nonneg _ (by decide)]
  rfl
theorem or_add {a : Int} {m : Nat} (h : 0 ≤ a) (h' : a < 2 ^ m) (hm : m < 60) : orI .u64 a (2 ^ m) = a + 2 ^ m := by
  obtain ⟨n, rfl⟩ : ∃ n : Nat, a = n := ⟨a.toNat, by omega⟩
  have h2 : n < 2 ^ m := by exact_mod_cast h'
  have h3 : 2 ^ m < 2 ^ 60 := Nat.pow_lt_pow_right (by decide) hm
  have e1 : (BitVec.ofInt IntKind.u64.bits (n : Int)).toNat = n := by
    show (BitVec.ofInt 64 (n : Int)).toNat = n
    rw [BitVec.toNat_ofInt]
    have : ((n : Int) % ((2 ^ 64 : Nat) : Int)) = n := by
      rw [Int.emod_eq_of_lt (by omega)]
      have : 2 ^ 60 < 2 ^ 64 := by decide
      omega
    rw [this]; rfl
  have e2 : (BitVec.ofInt IntKind.u64.bits ((2 : Int) ^ m)).toNat = 2 ^ m := by
    show (BitVec.ofInt 64 ((2 : Int) ^ m)).toNat = 2 ^ m
    have e : ((2 : Int) ^ m) = ((2 ^ m : Nat) : Int) := by simp
    rw [e, BitVec.toNat_ofInt]
    have : (((2 ^ m : Nat) : Int) % ((2 ^ 64 : Nat) : Int)) = ((2 ^ m : Nat) : Int) := by
      rw [Int.emod_eq_of_lt (by omega)]
      have : 2 ^ 60 < 2 ^ 64 := by decide
      omega
    rw [this]; rfl
  unfold orI
  rw [BitVec.toNat_or, e1, e2, Nat.or_comm]
  have := Nat.two_pow_add_eq_or_of_lt h2 1
  rw [Nat.mul_one] at this
  rw [← this, wrapU64 (by omega) (by omega)]
  simp; omega

def c1 (w : Int) : List Int := [w % 256]
def c2 (w : Int) : List Int := [w / 256 % 256, w % 256]
def c3 (w : Int) : List Int := [w / 256 / 256 % 256, w / 256 % 256, w % 256]

theorem big1 (w : Int) : Ev fun k => ∀ (R : Type) (K : List Int → Option R), f61 k w 1 K = K (c1 w) :=
  .suc (.suc (.all fun k R K => by
    simp [f61, f61_s, f61_l3, wrapU8, shr8, c1, inb, wrap64]))
theorem big2 (w : Int) : Ev fun k => ∀ (R : Type) (K : List Int → Option R), f61 k w 2 K = K (c2 w) :=
  .suc (.suc (.suc (.all fun k R K => by
    simp [f61, f61_s, f61_l3, wrapU8, shr8, c2, inb, wrap64, List.replicate])))
theorem big3 (w : Int) : Ev fun k => ∀ (R : Type) (K : List Int → Option R), f61 k w 3 K = K (c3 w) :=
  .suc (.suc (.suc (.suc (.all fun k R K => by
    simp [f61, f61_s, f61_l3, wrapU8, shr8, c3, inb, wrap64, List.replicate]))))

theorem bytes1 {w : Int} (h : 0 ≤ w) (_h' : w < 4611686018427387904) : Ev fun k => ∀ (R : Type) (K : List Int → Option R), f49 k w 1 K = K (c1 w) :=
  .suc (.suc (.all fun k R K => by
    simp [f49, f49_s, f49_l3, wrapU8, c1, inb, wrap64, Int.tmod_eq_emod_of_nonneg h]))
theorem bytes2 {w : Int} (h : 0 ≤ w) (h' : w < 4611686018427387904) : Ev fun k => ∀ (R : Type) (K : List Int → Option R), f49 k w 2 K = K (c2 w) :=
  .suc (.suc (.suc (.all fun k R K => by
    have h1 : 0 ≤ w / 256 := by omega
    have e1 : IntKind.i64.wrap (w / 256) = w / 256 := wrap64 (by omega) (by omega)
    simp [f49, f49_s, f49_l3, wrapU8, c2, inb, wrap64, List.replicate, Int.tmod_eq_emod_of_nonneg h, Int.tdiv_eq_ediv_of_nonneg h, e1, Int.tmod_eq_emod_of_nonneg h1])))
theorem bytes3 {w : Int} (h : 0 ≤ w) (h' : w < 4611686018427387904) : Ev fun k => ∀ (R : Type) (K : List Int → Option R), f49 k w 3 K = K (c3 w) :=
  .suc (.suc (.suc (.suc (.all fun k R K => by
    have h1 : 0 ≤ w / 256 := by omega
    have e1 : IntKind.i64.wrap (w / 256) = w / 256 := wrap64 (by omega) (by omega)
    have h2 : 0 ≤ w / 256 / 256 := by omega
    have e2 : IntKind.i64.wrap (w / 256 / 256) = w / 256 / 256 := wrap64 (by omega) (by omega)
    simp [f49, f49_s, f49_l3, wrapU8, c3, inb, wrap64, List.replicate, Int.tmod_eq_emod_of_nonneg h, Int.tdiv_eq_ediv_of_nonneg h, e1, Int.tmod_eq_emod_of_nonneg h1, Int.tdiv_eq_ediv_of_nonneg h1, e2, Int.tmod_eq_emod_of_nonneg h2]))))

theorem all1 (k : Nat) (R : Type) (K : Int → Option R) : f45 k 1 K = K 127 := by kernel_rfl
theorem all2 (k : Nat) (R : Type) (K : Int → Option R) : f45 k 2 K = K 16383 := by kernel_rfl
theorem all3 (k : Nat) (R : Type) (K : Int → Option R) : f45 k 3 K = K 2097151 := by kernel_rfl
theorem most1 (k : Nat) (R : Type) (K : Int → Option R) : f48 k 1 K = K 127 := by kernel_rfl
theorem most2 (k : Nat) (R : Type) (K : Int → Option R) : f48 k 2 K = K 16383 := by kernel_rfl
theorem most3 (k : Nat) (R : Type) (K : Int → Option R) : f48 k 3 K = K 2097151 := by kernel_rfl
theorem half1 (k : Nat) (R : Type) (K : Int → Option R) : f62 k 1 K = K 63 := by kernel_rfl
theorem half2 (k : Nat) (R : Type) (K : Int → Option R) : f62 k 2 K = K 8191 := by kernel_rfl
theorem half3 (k : Nat) (R : Type) (K : Int → Option R) : f62 k 3 K = K 1048575 := by kernel_rfl
theorem rhalf1 (k : Nat) (R : Type) (K : Int → Option R) : f63 k 1 K = K 63 := by kernel_rfl
theorem rhalf2 (k : Nat) (R : Type) (K : Int → Option R) : f63 k 2 K = K 8191 := by kernel_rfl
theorem rhalf3 (k : Nat) (R : Type) (K : Int → Option R) : f63 k 3 K = K 1048575 := by kernel_rfl

theorem mark1 {v : Int} (h : 0 ≤ v) (h' : v < 128) : Ev fun k => ∀ (R : Type) (K : List Int → Option R), f46 k v 1 K = K (c1 (v + 128)) :=
  (big1 (v + 128)).imp fun k hb R K => by
    have e : orI .u64 v (shlI .u64 1 (IntKind.i64.wrap (7 * 1))) = v + 128 := or_add (m := 7) h (by simpa using h') (by decide)
    have e0 : decide (IntKind.i64.wrap (7 * 1) < 0) = false := by decide
    simp only [f46, f46_s]
    rw [e0, e]; exact hb R K
theorem mark2 {v : Int} (h : 0 ≤ v) (h' : v < 16384) : Ev fun k => ∀ (R : Type) (K : List Int → Option R), f46 k v 2 K = K (c2 (v + 16384)) :=
  (big2 (v + 16384)).imp fun k hb R K => by
    have e : orI .u64 v (shlI .u64 1 (IntKind.i64.wrap (7 * 2))) = v + 16384 := or_add (m := 14) h (by simpa using h') (by decide)
    have e0 : decide (IntKind.i64.wrap (7 * 2) < 0) = false := by decide
    simp only [f46, f46_s]
    rw [e0, e]; exact hb R K
theorem mark3 {v : Int} (h : 0 ≤ v) (h' : v < 2097152) : Ev fun k => ∀ (R : Type) (K : List Int → Option R), f46 k v 3 K = K (c3 (v + 2097152)) :=
  (big3 (v + 2097152)).imp fun k hb R K => by
    have e : orI .u64 v (shlI .u64 1 (IntKind.i64.wrap (7 * 3))) = v + 2097152 := or_add (m := 21) h (by simpa using h') (by decide)
    have e0 : decide (IntKind.i64.wrap (7 * 3) < 0) = false := by decide
    simp only [f46, f46_s]
    rw [e0, e]; exact hb R K

/-- A number of variable length. -/
def vintB (v : Int) : List Int := if v < 127 then c1 (v + 128) else if v < 16383 then c2 (v + 16384) else c3 (v + 2097152)
/-- A signed one. -/
def sgnB (d : Int) : List Int := if -63 ≤ d ∧ d ≤ 63 then c1 (d + 63 + 128) else if -8191 ≤ d ∧ d ≤ 8191 then c2 (d + 8191 + 16384) else c3 (d + 1048575 + 2097152)

theorem f32_v {v : Int} (h : 0 ≤ v) (h' : v < 2097151) : Ev fun k => ∀ (R : Type) (K : Int → List Int → Option R), f32 k v 0 K = K 0 (vintB v) := by
  have w : IntKind.u64.wrap v = v := wrapU64 h (by omega)
  have w2 : IntKind.i64.wrap (1 + 1) = 2 := by decide
  have w3 : IntKind.i64.wrap (2 + 1) = 3 := by decide
  have nn : ¬ v < 0 := by omega
  by_cases h1 : v < 127
  · refine .suc ((mark1 h (by omega)).and ?_ |>.imp fun k (hm : _ ∧ ∀ (R : Type) (K : List Int → Option R), f46 (k + 1) v 1 K = K (c1 (v + 128))) R K => ?_)
    · obtain ⟨a, ha⟩ := mark1 (v := v) h (by omega)
      exact ⟨a, fun k hk => ha (k + 1) (by omega)⟩
    · have : decide (v ≥ 127) = false := by simp; omega
      simp [f32, f32_s, f32_l5, all1, this, w, hm.2, vintB, h1, nn]
  · by_cases h2 : v < 16383
    · refine .suc (.suc ?_)
      obtain ⟨a, ha⟩ := mark2 (v := v) h (by omega)
      refine ⟨a, fun k hk R K => ?_⟩
      have t1 : decide (v ≥ 127) = true := by simp; omega
      have t2 : decide (v ≥ 16383) = false := by simp; omega
      simp [wrap64, f32, f32_s, f32_l5, all1, all2, t1, t2, w, w2, ha (k + 1 + 1) (by omega), vintB, h1, h2, nn]
    · refine .suc (.suc (.suc ?_))
      obtain ⟨a, ha⟩ := mark3 (v := v) h (by omega)
      refine ⟨a, fun k hk R K => ?_⟩
      have t1 : decide (v ≥ 127) = true := by simp; omega
      have t2 : decide (v ≥ 16383) = true := by simp; omega
      have t3 : decide (v ≥ 2097151) = false := by simp; omega
      simp [wrap64, f32, f32_s, f32_l5, all1, all2, all3, t1, t2, t3, w, w2, w3, ha (k + 1 + 1 + 1) (by omega), vintB, h1, h2, nn]

theorem _root_.Go.Am.Ev.up {p : Nat → Prop} (h : Ev p) : Ev fun k => p (k + 1) := by
  obtain ⟨a, ha⟩ := h
  exact ⟨a, fun k hk => ha (k + 1) (by omega)⟩

theorem f34_n1 {v : Int} (h : 0 ≤ v) (h' : v < 127) : Ev fun k => ∀ (R : Type) (K : Int → List Int → Option R), f34 k v 1 K = K 0 (c1 (v + 128)) := by
  refine (bytes1 (w := v + 128) (by omega) (by omega)).imp fun k hb R K => ?_
  have nn : ¬ v < 0 := by omega
  have t1 : decide (v ≥ 127) = false := by simp; omega
  have e0 : decide (IntKind.u64.wrap (IntKind.i64.wrap (7 * 1)) < 0) = false := by decide
  have e1 : shlI .i64 1 (IntKind.u64.wrap (IntKind.i64.wrap (7 * 1))) = 128 := by decide
  have e2 : IntKind.i64.wrap (v + 128) = v + 128 := wrap64 (by omega) (by omega)
  simp only [f34, f34_s, most1, t1, e0, e1, e2, hb]
  simp [nn]
theorem f34_n2 {v : Int} (h : 0 ≤ v) (h' : v < 16383) : Ev fun k => ∀ (R : Type) (K : Int → List Int → Option R), f34 k v 2 K = K 0 (c2 (v + 16384)) := by
  refine (bytes2 (w := v + 16384) (by omega) (by omega)).imp fun k hb R K => ?_
  have nn : ¬ v < 0 := by omega
  have t1 : decide (v ≥ 16383) = false := by simp; omega
  have e0 : decide (IntKind.u64.wrap (IntKind.i64.wrap (7 * 2)) < 0) = false := by decide
  have e1 : shlI .i64 1 (IntKind.u64.wrap (IntKind.i64.wrap (7 * 2))) = 16384 := by decide
  have e2 : IntKind.i64.wrap (v + 16384) = v + 16384 := wrap64 (by omega) (by omega)
  simp only [f34, f34_s, most2, t1, e0, e1, e2, hb]
  simp [nn]
theorem f34_n3 {v : Int} (h : 0 ≤ v) (h' : v < 2097151) : Ev fun k => ∀ (R : Type) (K : Int → List Int → Option R), f34 k v 3 K = K 0 (c3 (v + 2097152)) := by
  refine (bytes3 (w := v + 2097152) (by omega) (by omega)).imp fun k hb R K => ?_
  have nn : ¬ v < 0 := by omega
  have t1 : decide (v ≥ 2097151) = false := by simp; omega
  have e0 : decide (IntKind.u64.wrap (IntKind.i64.wrap (7 * 3)) < 0) = false := by decide
  have e1 : shlI .i64 1 (IntKind.u64.wrap (IntKind.i64.wrap (7 * 3))) = 2097152 := by decide
  have e2 : IntKind.i64.wrap (v + 2097152) = v + 2097152 := wrap64 (by omega) (by omega)
  simp only [f34, f34_s, most3, t1, e0, e1, e2, hb]
  simp [nn]
theorem f34_v {v : Int} (h : 0 ≤ v) (h' : v < 2097151) : Ev fun k => ∀ (R : Type) (K : Int → List Int → Option R), f34 k v 0 K = K 0 (vintB v) := by
  have nn : ¬ v < 0 := by omega
  have e01 : decide (IntKind.u64.wrap (IntKind.i64.wrap (7 * 1)) < 0) = false := by decide
  have e11 : shlI .i64 1 (IntKind.u64.wrap (IntKind.i64.wrap (7 * 1))) = 128 := by decide
  have e02 : decide (IntKind.u64.wrap (IntKind.i64.wrap (7 * 2)) < 0) = false := by decide
  have e12 : shlI .i64 1 (IntKind.u64.wrap (IntKind.i64.wrap (7 * 2))) = 16384 := by decide
  have e03 : decide (IntKind.u64.wrap (IntKind.i64.wrap (7 * 3)) < 0) = false := by decide
  have e13 : shlI .i64 1 (IntKind.u64.wrap (IntKind.i64.wrap (7 * 3))) = 2097152 := by decide
  have w2 : IntKind.i64.wrap (1 + 1) = 2 := by decide
  have w3 : IntKind.i64.wrap (2 + 1) = 3 := by decide
  have l8 : decide ((1 : Int) < 8) = true := by decide
  have l82 : decide ((2 : Int) < 8) = true := by decide
  have l83 : decide ((3 : Int) < 8) = true := by decide
  have z0 : decide ((0 : Int) < 0) = false := by decide
  have z8 : decide ((0 : Int) > 8) = false := by decide
  have zz : ((0 : Int) == 0) = true := by decide
  have nv : decide (v < 0) = false := by simp; omega
  by_cases h1 : v < 127
  · refine .suc ((bytes1 (w := v + 128) (by omega) (by omega)).up.imp fun k hb R K => ?_)
    have t1 : decide (v ≥ 127) = false := by simp; omega
    have e2 : IntKind.i64.wrap (v + 128) = v + 128 := wrap64 (by omega) (by omega)
    simp only [f34, f34_s, f34_l5, most1, t1, e01, e11, e2, hb, l8, z0, z8, zz, nv, cond_true, cond_false, vintB, h1, if_true]
  · by_cases h2 : v < 16383
    · refine .suc (.suc ((bytes2 (w := v + 16384) (by omega) (by omega)).up.up.imp fun k hb R K => ?_))
      have t1 : decide (v ≥ 127) = true := by simp; omega
      have t2 : decide (v ≥ 16383) = false := by simp; omega
      have e2 : IntKind.i64.wrap (v + 16384) = v + 16384 := wrap64 (by omega) (by omega)
      simp only [f34, f34_s, f34_l5, most1, most2, t1, t2, e02, e12, e2, w2, hb, l8, l82, z0, z8, zz, nv, cond_true, cond_false, vintB, h1, h2, if_true, if_false]
    · refine .suc (.suc (.suc ((bytes3 (w := v + 2097152) (by omega) (by omega)).up.up.up.imp fun k hb R K => ?_)))
      have t1 : decide (v ≥ 127) = true := by simp; omega
      have t2 : decide (v ≥ 16383) = true := by simp; omega
      have t3 : decide (v ≥ 2097151) = false := by simp; omega
      have e2 : IntKind.i64.wrap (v + 2097152) = v + 2097152 := wrap64 (by omega) (by omega)
      simp only [f34, f34_s, f34_l5, most1, most2, most3, t1, t2, t3, e03, e13, e2, w2, w3, hb, l8, l82, l83, z0, z8, zz, nv, cond_true, cond_false, vintB, h1, h2, if_true, if_false]

theorem f47_v {d : Int} (h : -1048575 ≤ d) (h' : d ≤ 1048575) : Ev fun k => ∀ (R : Type) (K : Int → List Int → Option R), f47 k d 0 K = K 0 (sgnB d) := by
  have w2 : IntKind.i64.wrap (1 + 1) = 2 := by decide
  have w3 : IntKind.i64.wrap (2 + 1) = 3 := by decide
  have l8 : decide ((1 : Int) ≤ 8) = true := by decide
  have l82 : decide ((2 : Int) ≤ 8) = true := by decide
  have l83 : decide ((3 : Int) ≤ 8) = true := by decide
  have z0 : decide ((0 : Int) < 0) = false := by decide
  have z8 : decide ((0 : Int) > 8) = false := by decide
  have zz : ((0 : Int) == 0) = true := by decide
  have n1 : IntKind.i64.wrap (0 - 63) = -63 := by decide
  have n2 : IntKind.i64.wrap (0 - 8191) = -8191 := by decide
  have n3 : IntKind.i64.wrap (0 - 1048575) = -1048575 := by decide
  by_cases h1 : -63 ≤ d ∧ d ≤ 63
  · have hs : sgnB d = c1 (d + 63 + 128) := by unfold sgnB; rw [if_pos h1]
    refine .suc ((mark1 (v := d + 63) (by omega) (by omega)).imp fun k hb R K => ?_)
    have t1 : decide (d ≥ -63) = true := by simp; omega
    have t2 : decide (d ≤ 63) = true := by simp; omega
    have e1 : IntKind.i64.wrap (d + 63) = d + 63 := wrap64 (by omega) (by omega)
    have e2 : IntKind.u64.wrap (d + 63) = d + 63 := wrapU64 (by omega) (by omega)
    simp only [f47, f47_s, f47_l7, half1, n1, t1, t2, e1, e2, hb, l8, z0, z8, zz, cond_true, cond_false, hs, decide_true]
  · by_cases h2 : -8191 ≤ d ∧ d ≤ 8191
    · have hs : sgnB d = c2 (d + 8191 + 16384) := by unfold sgnB; rw [if_neg h1, if_pos h2]
      refine .suc (.suc ((mark2 (v := d + 8191) (by omega) (by omega)).imp fun k hb R K => ?_))
      have t3 : decide (d ≥ -8191) = true := by simp; omega
      have t4 : decide (d ≤ 8191) = true := by simp; omega
      have e1 : IntKind.i64.wrap (d + 8191) = d + 8191 := wrap64 (by omega) (by omega)
      have e2 : IntKind.u64.wrap (d + 8191) = d + 8191 := wrapU64 (by omega) (by omega)
      by_cases q : d ≥ -63
      · have t2 : decide (d ≤ 63) = false := by simp; omega
        simp only [f47, f47_s, f47_l7, half1, half2, n1, n2, q, t2, t3, t4, e1, e2, hb, w2, l8, l82, z0, z8, zz, cond_true, cond_false, hs, decide_true, decide_false]
      · simp only [f47, f47_s, f47_l7, half1, half2, n1, n2, q, t3, t4, e1, e2, hb, w2, l8, l82, z0, z8, zz, cond_true, cond_false, hs, decide_true, decide_false]
    · have hs : sgnB d = c3 (d + 1048575 + 2097152) := by unfold sgnB; rw [if_neg h1, if_neg h2]
      refine .suc (.suc (.suc ((mark3 (v := d + 1048575) (by omega) (by omega)).imp fun k hb R K => ?_)))
      have t5 : decide (d ≥ -1048575) = true := by simp; omega
      have t6 : decide (d ≤ 1048575) = true := by simp; omega
      have e1 : IntKind.i64.wrap (d + 1048575) = d + 1048575 := wrap64 (by omega) (by omega)
      have e2 : IntKind.u64.wrap (d + 1048575) = d + 1048575 := wrapU64 (by omega) (by omega)
      by_cases q : d ≥ -63
      · have t2 : decide (d ≤ 63) = false := by simp; omega
        have t3 : decide (d ≥ -8191) = true := by simp; omega
        have t4 : decide (d ≤ 8191) = false := by simp; omega
        simp only [f47, f47_s, f47_l7, half1, half2, half3, n1, n2, n3, q, t2, t3, t4, t5, t6, e1, e2, hb, w2, w3, l8, l82, l83, z0, z8, zz, cond_true, cond_false, hs, decide_true, decide_false]
      · have t3 : decide (d ≥ -8191) = false := by simp; omega
        simp only [f47, f47_s, f47_l7, half1, half2, half3, n1, n2, n3, q, t3, t5, t6, e1, e2, hb, w2, w3, l8, l82, l83, z0, z8, zz, cond_true, cond_false, hs, decide_true, decide_false]

theorem f50_v {d : Int} (h : -1048575 ≤ d) (h' : d ≤ 1048575) : Ev fun k => ∀ (R : Type) (K : Int → List Int → Option R), f50 k d 0 K = K 0 (sgnB d) := by
  have w2 : IntKind.i64.wrap (1 + 1) = 2 := by decide
  have w3 : IntKind.i64.wrap (2 + 1) = 3 := by decide
  have l8 : decide ((1 : Int) < 8) = true := by decide
  have l82 : decide ((2 : Int) < 8) = true := by decide
  have l83 : decide ((3 : Int) < 8) = true := by decide
  have z0 : decide ((0 : Int) < 0) = false := by decide
  have z8 : decide ((0 : Int) > 8) = false := by decide
  have zz : ((0 : Int) == 0) = true := by decide
  have n1 : IntKind.i64.wrap (0 - 63) = -63 := by decide
  have n2 : IntKind.i64.wrap (0 - 8191) = -8191 := by decide
  have n3 : IntKind.i64.wrap (0 - 1048575) = -1048575 := by decide
  by_cases h1 : -63 ≤ d ∧ d ≤ 63
  · have hs : sgnB d = c1 (d + 63 + 128) := by unfold sgnB; rw [if_pos h1]
    refine .suc ((f34_n1 (v := d + 63) (by omega) (by omega)).up.imp fun k hb R K => ?_)
    have t1 : decide (d < -63) = false := by simp; omega
    have t2 : decide (d > 63) = false := by simp; omega
    have e1 : IntKind.i64.wrap (d + 63) = d + 63 := wrap64 (by omega) (by omega)
    simp only [f50, f50_s, f50_l5, rhalf1, n1, t1, t2, e1, hb, l8, z0, z8, zz, cond_true, cond_false, hs, decide_true]
  · by_cases h2 : -8191 ≤ d ∧ d ≤ 8191
    · have hs : sgnB d = c2 (d + 8191 + 16384) := by unfold sgnB; rw [if_neg h1, if_pos h2]
      refine .suc (.suc ((f34_n2 (v := d + 8191) (by omega) (by omega)).up.up.imp fun k hb R K => ?_))
      have t3 : decide (d < -8191) = false := by simp; omega
      have t4 : decide (d > 8191) = false := by simp; omega
      have e1 : IntKind.i64.wrap (d + 8191) = d + 8191 := wrap64 (by omega) (by omega)
      by_cases q : d < -63
      · simp only [f50, f50_s, f50_l5, rhalf1, rhalf2, n1, n2, q, t3, t4, e1, hb, w2, l8, l82, z0, z8, zz, cond_true, cond_false, hs, decide_true, decide_false]
      · have t2 : decide (d > 63) = true := by simp; omega
        simp only [f50, f50_s, f50_l5, rhalf1, rhalf2, n1, n2, q, t2, t3, t4, e1, hb, w2, l8, l82, z0, z8, zz, cond_true, cond_false, hs, decide_true, decide_false]
    · have hs : sgnB d = c3 (d + 1048575 + 2097152) := by unfold sgnB; rw [if_neg h1, if_neg h2]
      refine .suc (.suc (.suc ((f34_n3 (v := d + 1048575) (by omega) (by omega)).up.up.up.imp fun k hb R K => ?_)))
      have t5 : decide (d < -1048575) = false := by simp; omega
      have t6 : decide (d > 1048575) = false := by simp; omega
      have e1 : IntKind.i64.wrap (d + 1048575) = d + 1048575 := wrap64 (by omega) (by omega)
      by_cases q : d < -63
      · have t3 : decide (d < -8191) = true := by simp; omega
        simp only [f50, f50_s, f50_l5, rhalf1, rhalf2, rhalf3, n1, n2, n3, q, t3, t5, t6, e1, hb, w2, w3, l8, l82, l83, z0, z8, zz, cond_true, cond_false, hs, decide_true, decide_false]
      · have t2 : decide (d > 63) = true := by simp; omega
        have t3 : decide (d < -8191) = false := by simp; omega
        have t4 : decide (d > 8191) = true := by simp; omega
        simp only [f50, f50_s, f50_l5, rhalf1, rhalf2, rhalf3, n1, n2, n3, q, t2, t3, t4, t5, t6, e1, hb, w2, w3, l8, l82, l83, z0, z8, zz, cond_true, cond_false, hs, decide_true, decide_false]
end Go.Proofs.Ytnmoccdnkpkhhaa

/-! The bytes of the sizes of frames, and of a block. -/
namespace Go.Proofs.Ytnmoccdnkpkhhaa
open Go Go.Am

/-- A size by runs. -/
def runB (n : Nat) : List Int := List.replicate (n / 255) 255 ++ [((n % 255 : Nat) : Int)]
/-- What a lacing holds of the size of frame j. -/
def part (lacing : Int) (l : List (List Int)) (j : Nat) : List Int :=
  if lacing = 1 then runB (l.getD j []).length else if lacing = 3 then (if j = 0 then vintB ((l.getD j []).length : Int) else sgnB (((l.getD j []).length : Int) - ((l.getD (j - 1) []).length : Int))) else []
def restB (lacing : Int) (l : List (List Int)) (i : Nat) : List Int := (List.range' i (l.length - 1 - i)).flatMap (part lacing l)

theorem restB_step {lacing : Int} {l : List (List Int)} {i : Nat} (h : i < l.length - 1) : restB lacing l i = part lacing l i ++ restB lacing l (i + 1) := by
  unfold restB
  have : l.length - 1 - i = (l.length - 1 - (i + 1)) + 1 := by omega
  rw [this, List.range'_succ]; simp
theorem restB_end {lacing : Int} {l : List (List Int)} {i : Nat} (h : l.length - 1 ≤ i) : restB lacing l i = [] := by
  unfold restB
  have : l.length - 1 - i = 0 := by omega
  rw [this]; rfl

theorem c_len (w : Int) : (c1 w).length = 1 ∧ (c2 w).length = 2 ∧ (c3 w).length = 3 := ⟨rfl, rfl, rfl⟩
theorem vintB_len (v : Int) : (vintB v).length ≤ 3 := by
  unfold vintB; split
  · simp [c1]
  · split <;> simp [c2, c3]
theorem sgnB_len (v : Int) : (sgnB v).length ≤ 3 := by
  unfold sgnB; split
  · simp [c1]
  · split <;> simp [c2, c3]
theorem part_len {lacing : Int} {l : List (List Int)} (h : ∀ f ∈ l, f.length ≤ 65536) (j : Nat) : (part lacing l j).length ≤ 300 := by
  have hj : (l.getD j []).length ≤ 65536 := by
    by_cases hj : j < l.length
    · rw [getD_get hj]; exact h _ (List.getElem_mem hj)
    · simp [List.getD, List.getElem?_eq_none (Nat.le_of_not_lt hj)]
  unfold part
  generalize l.getD j [] = f at *
  split
  · simp [runB]; omega
  · split
    · split
      · have := vintB_len (f.length : Int); omega
      · have := sgnB_len ((f.length : Int) - ((l.getD (j - 1) []).length : Int)); omega
    · simp

theorem f33_runs (a : Int) (b c : List (List Int)) (d e : Int) : ∀ (q n : Nat), n / 255 = q → n ≤ 65536 → Ev fun k => ∀ (R : Type) (acc : List Int) (X : Int → List (List Int) → Int → List (List Int) → Int → Int → List Int → Option R), acc.length + 300 ≤ 300000 + 300 - q → f33_l8 f32 f47 k a b (n : Int) c d e acc X = X a b ((n % 255 : Nat) : Int) c d e (acc ++ List.replicate q 255)
  | 0, n, hq, hn => .suc (.all fun k R acc X ha => by
    have h1 : n < 255 := by omega
    have t : decide ((n : Int) ≥ 255) = false := by simp; omega
    have : n % 255 = n := Nat.mod_eq_of_lt h1
    simp [f33_l8, t, this])
  | q + 1, n, hq, hn => by
    refine .suc ((f33_runs a b c d e q (n - 255) (by omega) (by omega)).imp fun k h R acc X ha => ?_)
    have t : decide ((n : Int) ≥ 255) = true := by simp; omega
    have w : IntKind.i64.wrap ((n : Int) - 255) = ((n - 255 : Nat) : Int) := by
      rw [wrap64 (by omega) (by omega)]; omega
    have m : (n - 255) % 255 = n % 255 := by omega
    rw [f33_l8, t, w, room_ok (by simp; omega), cond_true, cond_true, h R _ X (by simp; omega), m]
    rw [List.append_assoc, List.replicate_succ]; rfl

theorem f35_runs (a : Int) (b : List (List Int)) (c : Int) : ∀ (q n : Nat), n / 255 = q → n ≤ 65536 → Ev fun k => ∀ (R : Type) (acc : List Int) (X : Int → List (List Int) → Int → Int → List Int → Option R), acc.length + 300 ≤ 300000 + 300 - q → f35_l10 f34 f50 k a b c (n : Int) acc X = X a b c ((n % 255 : Nat) : Int) (acc ++ List.replicate q 255)
  | 0, n, hq, hn => .suc (.all fun k R acc X ha => by
    have h1 : n < 255 := by omega
    have t : decide ((n : Int) ≥ 255) = false := by simp; omega
    have : n % 255 = n := Nat.mod_eq_of_lt h1
    simp [f35_l10, t, this])
  | q + 1, n, hq, hn => by
    refine .suc ((f35_runs a b c q (n - 255) (by omega) (by omega)).imp fun k h R acc X ha => ?_)
    have t : decide ((n : Int) ≥ 255) = true := by simp; omega
    have w : IntKind.i64.wrap ((n : Int) - 255) = ((n - 255 : Nat) : Int) := by
      rw [wrap64 (by omega) (by omega)]; omega
    have m : (n - 255) % 255 = n % 255 := by omega
    rw [f35_l10, t, w, room_ok (by simp; omega), cond_true, cond_true, h R _ X (by simp; omega), m]
    rw [List.append_assoc, List.replicate_succ]; rfl

theorem getD_take {α : Type} {l : List α} {m i : Nat} {d : α} (h : i < m) (h' : i < l.length) : (l.take m).getD i d = l[i] := by
  rw [getD_get (by simp; omega)]; simp
theorem byteRun (n : Nat) : IntKind.u8.wrap ((n % 255 : Nat) : Int) = ((n % 255 : Nat) : Int) := by
  rw [wrapU8]; omega

theorem roomS {a b : Nat} (ha : a ≤ 100000) (hb : b ≤ 300) : room 1 (a + b) = true := room_ok (by omega)
theorem app_len {a b : List Int} {i : Nat} (ha : a.length ≤ 300 * i) (hb : b.length ≤ 300) : (a ++ b).length ≤ 300 * (i + 1) := by
  rw [List.length_append]; omega
theorem app_len1 {a b : List Int} {i : Nat} (ha : a.length ≤ 300 * i + 1) (hb : b.length ≤ 300) : (a ++ b).length ≤ 300 * (i + 1) + 1 := by
  rw [List.length_append]; omega
theorem lt65 {n : Nat} (h : n ≤ 65536) : (n : Int) < 2097151 := by omega
/-- Frames of a block that may be written. -/
structure Fine (l : List (List Int)) : Prop where
  pos : 1 ≤ l.length
  le : l.length ≤ 32
  each : ∀ f ∈ l, f.length ≤ 65536

theorem f33_loop (lacing : Int) (l : List (List Int)) (hl : Fine l) : ∀ i, i ≤ l.length - 1 → Ev fun k => ∀ (R : Type) (acc : List Int) (X : List Int → Option R), acc.length ≤ 300 * i →
    f33_l3 f32 f47 k lacing l (l.take (l.length - 1)) ((l.length - 1 : Nat) : Int) (i : Int) acc X = X (acc ++ restB lacing l i) := by
  have hp := hl.pos
  have hle := hl.le
  refine Ev.down _ ?_ ?_
  · exact Ev.suc (.all fun k R acc X ha => by simp [f33_l3, restB_end])
  · intro i hi h
    have hi' : i < l.length := by omega
    have h65 := hl.each _ (List.getElem_mem hi')
    have hpl := part_len (lacing := lacing) hl.each i
    by_cases e1 : lacing = 1
    · subst e1
      refine Ev.suc ((h.imp2 (f33_runs 1 l (l.take (l.length - 1)) ((l.length - 1 : Nat) : Int) (i : Int) _ l[i].length rfl h65)) fun k h hr R acc X ha => ?_)
      have hh : part 1 l i = runB l[i].length := by unfold part; rw [if_pos rfl, getD_get hi']
      rw [hh] at hpl
      rw [f33_l3, lt_nat, inb_nat]
      simp only [hi, List.length_take, show i < min (l.length - 1) l.length by omega, decide_true, cond_true, Int.toNat_natCast, getD_take hi hi']
      rw [show ((1 : Int) == 1) = true by decide, cond_true, hr R acc _ (by omega), byteRun, room_ok (by simp; omega), wrapSuc (by omega), cond_true]
      have ea : acc ++ List.replicate (l[i].length / 255) 255 ++ [((l[i].length % 255 : Nat) : Int)] = acc ++ runB l[i].length := by rw [List.append_assoc]; rfl
      rw [ea, h R _ X (by simp; omega), restB_step hi, List.append_assoc, hh]
    · by_cases e3 : lacing = 3
      · subst e3
        by_cases hz : i = 0
        · subst hz
          refine Ev.suc ((h.imp2 (f32_v (v := ((l[0]'hi').length : Int)) (Int.natCast_nonneg _) (lt65 h65))) fun k h hr R acc X ha => ?_)
          have hh : part 3 l 0 = vintB ((l[0]'hi').length : Int) := by unfold part; rw [if_neg (by decide), if_pos rfl, if_pos rfl, getD_get hi']
          rw [hh] at hpl
          rw [f33_l3, lt_nat, inb_nat]
          simp only [hi, List.length_take, show 0 < min (l.length - 1) l.length by omega, decide_true, cond_true, Int.toNat_natCast, getD_take hi hi']
          rw [show ((3 : Int) == 1) = false by decide, cond_false, show ((3 : Int) == 3) = true by decide, cond_true, show (((0 : Nat) : Int) == 0) = true by decide, cond_true, hr, roomS (by omega) hpl, wrapSuc (by omega), cond_true]
          rw [h R _ X (app_len ha hpl), restB_step hi, List.append_assoc, hh]
        · have hi1 : i - 1 < l.length := by omega
          have h651 := hl.each _ (List.getElem_mem hi1)
          refine Ev.suc ((h.imp2 (f47_v (d := (l[i].length : Int) - (l[i - 1].length : Int)) (by omega) (by omega))) fun k h hr R acc X ha => ?_)
          have hh : part 3 l i = sgnB ((l[i].length : Int) - (l[i - 1].length : Int)) := by unfold part; rw [if_neg (by decide), if_pos rfl, if_neg hz, getD_get hi', getD_get hi1]
          rw [hh] at hpl
          have w1 : IntKind.i64.wrap ((i : Int) - 1) = ((i - 1 : Nat) : Int) := by rw [wrap64 (by omega) (by omega)]; omega
          have hz' : ((i : Int) == 0) = false := by simp; exact hz
          rw [f33_l3, lt_nat, inb_nat]
          simp only [hi, List.length_take, show i < min (l.length - 1) l.length by omega, decide_true, cond_true, Int.toNat_natCast, getD_take hi hi', w1, getD_get hi1, inb_nat, hi1]
          rw [show ((3 : Int) == 1) = false by decide, cond_false, show ((3 : Int) == 3) = true by decide, cond_true, hz', cond_false, wrap64 (by omega) (by omega), hr, roomS (by omega) hpl, wrapSuc (by omega), cond_true]
          rw [h R _ X (app_len ha hpl), restB_step hi, List.append_assoc, hh]
      · refine Ev.suc (h.imp fun k h R acc X ha => ?_)
        have hh : part lacing l i = [] := by unfold part; rw [if_neg e1, if_neg e3]
        rw [f33_l3, lt_nat, inb_nat]
        simp only [hi, List.length_take, show i < min (l.length - 1) l.length by omega, decide_true, cond_true]
        rw [beq_dec, beq_dec]
        simp only [e1, e3, decide_false, cond_false]
        rw [wrapSuc (by omega), h R _ X (by omega), restB_step hi, hh]; rfl

theorem f33_v (lacing : Int) (l : List (List Int)) (hl : Fine l) : Ev fun k => ∀ (R : Type) (K : List Int → Option R), f33 k lacing l K = K (restB lacing l 0) := by
  refine (f33_loop lacing l hl 0 (by omega)).imp fun k h R K => ?_
  have hp := hl.pos
  have hle := hl.le
  have w1 : IntKind.i64.wrap ((l.length : Int) - 1) = ((l.length - 1 : Nat) : Int) := by rw [wrap64 (by omega) (by omega)]; omega
  have h := h R [] K (by simp)
  simp only [Int.natCast_zero] at h
  simp only [f33, f33_s, w1, upto_nat, Int.toNat_natCast]
  have : (l.take (l.length - 1)).length = l.length - 1 := by simp
  rw [this]
  simp only [show l.length - 1 ≤ l.length by omega, decide_true, cond_true]
  simpa using h

theorem f35_loop (lacing : Int) (l : List (List Int)) (hl : Fine l) : ∀ i, i ≤ l.length - 1 → Ev fun k => ∀ (R : Type) (acc : List Int) (X : List Int → Option R), acc.length ≤ 300 * i + 1 →
    f35_l5 f34 f50 k lacing l (i : Int) acc X = X (acc ++ restB lacing l i) := by
  have hp := hl.pos
  have hle := hl.le
  have w0 : IntKind.i64.wrap ((l.length : Int) - 1) = ((l.length - 1 : Nat) : Int) := by rw [wrap64 (by omega) (by omega)]; omega
  refine Ev.down _ ?_ ?_
  · exact Ev.suc (.all fun k R acc X ha => by simp [f35_l5, restB_end, w0])
  · intro i hi h
    have hi' : i < l.length := by omega
    have h65 := hl.each _ (List.getElem_mem hi')
    have hpl := part_len (lacing := lacing) hl.each i
    by_cases e1 : lacing = 1
    · subst e1
      refine Ev.suc ((h.imp2 (f35_runs 1 l (i : Int) _ l[i].length rfl h65)) fun k h hr R acc X ha => ?_)
      have hh : part 1 l i = runB l[i].length := by unfold part; rw [if_pos rfl, getD_get hi']
      rw [hh] at hpl
      rw [f35_l5, w0, lt_nat, inb_nat]
      simp only [hi, hi', decide_true, cond_true, Int.toNat_natCast, getD_get hi']
      rw [show ((1 : Int) == 1) = true by decide, cond_true, hr R acc _ (by omega), byteRun, room_ok (by simp; omega), wrapSuc (by omega), cond_true]
      have ea : acc ++ List.replicate (l[i].length / 255) 255 ++ [((l[i].length % 255 : Nat) : Int)] = acc ++ runB l[i].length := by rw [List.append_assoc]; rfl
      rw [ea, h R _ X (by simp; omega), restB_step hi, List.append_assoc, hh]
    · by_cases e3 : lacing = 3
      · subst e3
        by_cases hz : i = 0
        · subst hz
          refine Ev.suc ((h.imp2 (f34_v (v := ((l[0]'hi').length : Int)) (Int.natCast_nonneg _) (lt65 h65))) fun k h hr R acc X ha => ?_)
          have hh : part 3 l 0 = vintB ((l[0]'hi').length : Int) := by unfold part; rw [if_neg (by decide), if_pos rfl, if_pos rfl, getD_get hi']
          rw [hh] at hpl
          rw [f35_l5, w0, lt_nat, inb_nat]
          simp only [hi, hi', decide_true, cond_true, Int.toNat_natCast, getD_get hi']
          rw [show ((3 : Int) == 1) = false by decide, cond_false, show ((3 : Int) == 3) = true by decide, cond_true, show (((0 : Nat) : Int) == 0) = true by decide, cond_true, hr, roomS (by omega) hpl, wrapSuc (by omega), cond_true]
          rw [h R _ X (app_len1 ha hpl), restB_step hi, List.append_assoc, hh]
        · have hi1 : i - 1 < l.length := by omega
          have h651 := hl.each _ (List.getElem_mem hi1)
          refine Ev.suc ((h.imp2 (f50_v (d := (l[i].length : Int) - (l[i - 1].length : Int)) (by omega) (by omega))) fun k h hr R acc X ha => ?_)
          have hh : part 3 l i = sgnB ((l[i].length : Int) - (l[i - 1].length : Int)) := by unfold part; rw [if_neg (by decide), if_pos rfl, if_neg hz, getD_get hi', getD_get hi1]
          rw [hh] at hpl
          have w1 : IntKind.i64.wrap ((i : Int) - 1) = ((i - 1 : Nat) : Int) := by rw [wrap64 (by omega) (by omega)]; omega
          have hz' : ((i : Int) == 0) = false := by simp; exact hz
          rw [f35_l5, w0, lt_nat, inb_nat]
          simp only [hi, hi', decide_true, cond_true, Int.toNat_natCast, getD_get hi', w1, getD_get hi1, inb_nat, hi1]
          rw [show ((3 : Int) == 1) = false by decide, cond_false, show ((3 : Int) == 3) = true by decide, cond_true, hz', cond_false, wrap64 (by omega) (by omega), hr, roomS (by omega) hpl, wrapSuc (by omega), cond_true]
          rw [h R _ X (app_len1 ha hpl), restB_step hi, List.append_assoc, hh]
      · refine Ev.suc (h.imp fun k h R acc X ha => ?_)
        have hh : part lacing l i = [] := by unfold part; rw [if_neg e1, if_neg e3]
        rw [f35_l5, w0, lt_nat, inb_nat]
        simp only [hi, hi', decide_true, cond_true]
        rw [beq_dec, beq_dec]
        simp only [e1, e3, decide_false, cond_false]
        rw [wrapSuc (by omega), h R _ X (by omega), restB_step hi, hh]; rfl

/-- What a lacing has beside the frames. -/
def codedB (lacing : Int) (l : List (List Int)) : List Int := if lacing = 0 then [] else (((l.length - 1 : Nat) : Int) % 256) :: restB lacing l 0

theorem f35_v (lacing : Int) (l : List (List Int)) (hl : Fine l) : Ev fun k => ∀ (R : Type) (K : List Int → Option R), f35 k lacing l K = K (codedB lacing l) := by
  refine (f35_loop lacing l hl 0 (by omega)).imp fun k h R K => ?_
  have hp := hl.pos
  have hle := hl.le
  have w1 : IntKind.i64.wrap ((l.length : Int) - 1) = ((l.length - 1 : Nat) : Int) := by rw [wrap64 (by omega) (by omega)]; omega
  simp only [Int.natCast_zero] at h
  simp only [f35, f35_s, w1, beq_dec, wrapU8, codedB]
  by_cases e : lacing = 0
  · simp [e]
  · simp only [e, decide_false, cond_false, if_false]
    rw [h R _ _ (by simp)]; rfl
end Go.Proofs.Ytnmoccdnkpkhhaa

/-! What a lacing costs; the best one; the bytes of a block. -/
namespace Go.Proofs.Ytnmoccdnkpkhhaa
open Go Go.Am

theorem fine_of {lacing : Int} {l : List (List Int)} (h : framesE lacing l = 0) : Fine l := by
  unfold framesE at h
  split at h
  · simp at h
  · rename_i hlen
    split at h
    · simp at h
    · rename_i hbig
      refine ⟨by omega, by omega, fun f hf => ?_⟩
      have : l.any tooBig = false := by simpa using hbig
      have := List.any_eq_false.1 this f hf
      simpa [tooBig] using this

/-- What a lacing costs, and the error. -/
def costN (lacing : Int) (l : List (List Int)) : Int := if lacing < 0 ∨ 3 < lacing then 0 else if framesE lacing l = 0 then ((codedB lacing l).length : Int) else 0
def costE (lacing : Int) (l : List (List Int)) : Int := if lacing < 0 ∨ 3 < lacing then 1 else framesE lacing l

theorem restB_len {lacing : Int} {l : List (List Int)} (h : Fine l) : (restB lacing l 0).length ≤ 300 * 32 := by
  have step : ∀ (n i : Nat), ((List.range' i n).flatMap (part lacing l)).length ≤ 300 * n := by
    intro n
    induction n with
    | zero => intro i; simp
    | succ n ih =>
      intro i
      rw [List.range'_succ]
      simp only [List.flatMap_cons, List.length_append]
      have := ih (i + 1)
      have := part_len (lacing := lacing) h.each i
      omega
  have := step (l.length - 1 - 0) 0
  have := h.le
  unfold restB
  omega

theorem f24_v (lacing : Int) (l : List (List Int)) (hl : okL l) : Ev fun k => ∀ (R : Type) (K : Int → Int → Option R), f24 k lacing l K = K (costN lacing l) (costE lacing l) := by
  by_cases h1 : lacing < 0
  · exact .all fun k R K => by simp [f24, f24_s, costN, costE, h1]
  by_cases h2 : 3 < lacing
  · exact .all fun k R K => by simp [f24, f24_s, costN, costE, h1, h2]
  by_cases h3 : framesE lacing l = 0
  · have hf := fine_of h3
    refine (f36_v lacing l hl).imp2 (f33_v lacing l hf) fun k a b R K => ?_
    have hr := restB_len (lacing := lacing) hf
    by_cases h4 : lacing = 0
    · subst h4
      simp [f24, f24_s, a, costN, costE, h3, codedB]
    · have e : IntKind.i64.wrap (1 + ((restB lacing l 0).length : Int)) = ((codedB lacing l).length : Int) := by
        rw [wrap64 (by omega) (by omega)]
        simp [codedB, h4]; omega
      simp [f24, f24_s, a, b, costN, costE, h1, h2, h3, h4, e, beq_dec]
  · refine (f36_v lacing l hl).imp fun k a R K => ?_
    simp [f24, f24_s, a, costN, costE, h1, h2, h3, bne_dec]

theorem f25_v (lacing : Int) (l : List (List Int)) (hl : okL l) : Ev fun k => ∀ (R : Type) (K : Int → Int → Option R), f25 k lacing l K = K (costN lacing l) (costE lacing l) := by
  by_cases h1 : lacing < 0
  · exact .all fun k R K => by simp [f25, f25_s, costN, costE, h1]
  by_cases h2 : 3 < lacing
  · exact .all fun k R K => by simp [f25, f25_s, costN, costE, h1, h2]
  by_cases h3 : framesE lacing l = 0
  · have hf := fine_of h3
    refine (f37_v lacing l hl).imp2 (f35_v lacing l hf) fun k a b R K => ?_
    simp [f25, f25_s, a, b, costN, costE, h1, h2, h3]
  · refine (f37_v lacing l hl).imp fun k a R K => ?_
    simp [f25, f25_s, a, costN, costE, h1, h2, h3, bne_dec]

/-! the best lacing -/
def stepA (p : Int × Int) (j n e : Int) : Int × Int := if e = 0 ∧ n < p.2 then (j, n) else p
def stepB (p : Int × Int) (j n e : Int) : Int × Int := if e = 0 ∧ (p.1 < 0 ∨ n < p.2) then (j, n) else p
def bestA (l : List (List Int)) : Int × Int := stepA (stepA (stepA (stepA (0, 1152921504606846976) 0 (costN 0 l) (costE 0 l)) 1 (costN 1 l) (costE 1 l)) 2 (costN 2 l) (costE 2 l)) 3 (costN 3 l) (costE 3 l)
def bestB (l : List (List Int)) : Int × Int := stepB (stepB (stepB (stepB (-1, 0) 0 (costN 0 l) (costE 0 l)) 1 (costN 1 l) (costE 1 l)) 2 (costN 2 l) (costE 2 l)) 3 (costN 3 l) (costE 3 l)

theorem f26_step {l : List (List Int)} {j : Nat} (hj : j < 4) {p : Int × Int} {k : Nat} {R : Type} {X : Int → Option R} (h : ∀ (K : Int → Int → Option R), f24 k (j : Int) l K = K (costN j l) (costE j l)) :
    f26_l6 f36 f24 (k + 1) l p.1 p.2 (j : Int) X = f26_l6 f36 f24 k l (stepA p j (costN j l) (costE j l)).1 (stepA p j (costN j l) (costE j l)).2 ((j + 1 : Nat) : Int) X := by
  have t : decide ((j : Int) < 4) = true := by simp; omega
  rw [f26_l6, t, cond_true, h, wrapSuc (by omega), beq_dec]
  unfold stepA
  by_cases h1 : costE j l = 0
  · by_cases h2 : costN j l < p.2
    · simp [h1, h2]
    · simp [h1, h2]
  · simp [h1]
theorem f27_step {l : List (List Int)} {j : Nat} (hj : j < 4) {p : Int × Int} {k : Nat} {R : Type} {X : Int → Option R} (h : ∀ (K : Int → Int → Option R), f25 k (j : Int) l K = K (costN j l) (costE j l)) :
    f27_l5 f37 f25 (k + 1) l p.1 p.2 (j : Int) X = f27_l5 f37 f25 k l (stepB p j (costN j l) (costE j l)).1 (stepB p j (costN j l) (costE j l)).2 ((j + 1 : Nat) : Int) X := by
  have t : decide ((j : Int) ≤ 3) = true := by simp; omega
  rw [f27_l5, t, cond_true, h, wrapSuc (by omega), beq_dec]
  unfold stepB
  by_cases h1 : costE j l = 0
  · by_cases h0 : p.1 < 0
    · simp [h1, h0]
    · by_cases h2 : costN j l < p.2
      · simp [h1, h0, h2]
      · simp [h1, h0, h2]
  · simp [h1]

theorem f26_v (l : List (List Int)) (hl : okL l) : Ev fun k => ∀ (R : Type) (K : Int → Int → Option R), f26 k l K = if framesE 1 l = 0 then K (bestA l).1 0 else K 0 (framesE 1 l) := by
  have h0 := f24_v 0 l hl
  have h1 := f24_v 1 l hl
  have h2 := f24_v 2 l hl
  have h3 := f24_v 3 l hl
  refine Ev.suc (Ev.suc (Ev.suc (Ev.suc (Ev.suc (((h0.up.up.up.up.and h1.up.up.up).and (h2.up.up.and h3.up)).imp2 (f36_v 1 l hl).up.up.up.up.up fun k hh hf R K => ?_)))))
  obtain ⟨⟨a0, a1⟩, a2, a3⟩ := hh
  simp only [f26, f26_s, hf, bne_dec]
  by_cases hz : framesE 1 l = 0
  · simp only [hz, decide_true, Bool.not_true, cond_false, if_true]
    have s0 := f26_step (l := l) (j := 0) (by decide) (p := (0, 1152921504606846976)) (X := fun v8 => K v8 0) (a0 R)
    have s1 := f26_step (l := l) (j := 1) (by decide) (p := stepA (0, 1152921504606846976) 0 (costN 0 l) (costE 0 l)) (X := fun v8 => K v8 0) (a1 R)
    have s2 := f26_step (l := l) (j := 2) (by decide) (p := stepA (stepA (0, 1152921504606846976) 0 (costN 0 l) (costE 0 l)) 1 (costN 1 l) (costE 1 l)) (X := fun v8 => K v8 0) (a2 R)
    have s3 := f26_step (l := l) (j := 3) (by decide) (p := stepA (stepA (stepA (0, 1152921504606846976) 0 (costN 0 l) (costE 0 l)) 1 (costN 1 l) (costE 1 l)) 2 (costN 2 l) (costE 2 l)) (X := fun v8 => K v8 0) (a3 R)
    refine s0.trans (s1.trans (s2.trans (s3.trans ?_)))
    rw [f26_l6]; rfl
  · simp [hz]

theorem framesE1 (l : List (List Int)) : framesE 1 l = 0 ∨ framesE 1 l = 2 := by
  unfold framesE
  split
  · exact .inr rfl
  · split
    · exact .inr rfl
    · simp

theorem f27_v (l : List (List Int)) (hl : okL l) : Ev fun k => ∀ (R : Type) (K : Int → Int → Option R), f27 k l K = if framesE 1 l = 0 then K (bestB l).1 0 else K 0 (framesE 1 l) := by
  have h0 := f25_v 0 l hl
  have h1 := f25_v 1 l hl
  have h2 := f25_v 2 l hl
  have h3 := f25_v 3 l hl
  refine Ev.suc (Ev.suc (Ev.suc (Ev.suc (Ev.suc (((h0.up.up.up.up.and h1.up.up.up).and (h2.up.up.and h3.up)).imp2 (f37_v 1 l hl).up.up.up.up.up fun k hh hf R K => ?_)))))
  obtain ⟨⟨a0, a1⟩, a2, a3⟩ := hh
  simp only [f27, f27_s, hf, bne_dec]
  by_cases hz : framesE 1 l = 0
  · simp only [hz, decide_true, Bool.not_true, cond_false, if_true]
    have s0 := f27_step (l := l) (j := 0) (by decide) (p := (-1, 0)) (X := fun v8 => K v8 0) (a0 R)
    have s1 := f27_step (l := l) (j := 1) (by decide) (p := stepB (-1, 0) 0 (costN 0 l) (costE 0 l)) (X := fun v8 => K v8 0) (a1 R)
    have s2 := f27_step (l := l) (j := 2) (by decide) (p := stepB (stepB (-1, 0) 0 (costN 0 l) (costE 0 l)) 1 (costN 1 l) (costE 1 l)) (X := fun v8 => K v8 0) (a2 R)
    have s3 := f27_step (l := l) (j := 3) (by decide) (p := stepB (stepB (stepB (-1, 0) 0 (costN 0 l) (costE 0 l)) 1 (costN 1 l) (costE 1 l)) 2 (costN 2 l) (costE 2 l)) (X := fun v8 => K v8 0) (a3 R)
    refine s0.trans (s1.trans (s2.trans (s3.trans ?_)))
    rw [f27_l5]; rfl
  · rcases framesE1 l with h | h
    · exact absurd h hz
    · simp [h]

theorem coded_len {lacing : Int} {l : List (List Int)} (h : Fine l) : ((codedB lacing l).length : Int) < 100000 := by
  have := restB_len (lacing := lacing) h
  unfold codedB
  split
  · simp
  · simp; omega
theorem costN_lt {lacing : Int} {l : List (List Int)} : 0 ≤ costN lacing l ∧ costN lacing l < 100000 := by
  unfold costN
  split
  · omega
  · split
    · rename_i h
      have := coded_len (lacing := lacing) (fine_of h)
      omega
    · omega

theorem two_A {n0 n1 e0 : Int} (h0 : n0 < 100000) (h1 : n1 < 100000) : stepA (stepA (0, 1152921504606846976) 0 n0 e0) 1 n1 0 = if e0 = 0 ∧ n0 ≤ n1 then (0, n0) else (1, n1) := by
  unfold stepA
  by_cases he : e0 = 0
  · have : n0 < 1152921504606846976 := by omega
    by_cases hn : n0 ≤ n1
    · have : ¬ n1 < n0 := by omega
      simp [he, hn, *]
    · have : n1 < n0 := by omega
      simp [he, hn, *]
  · have : n1 < 1152921504606846976 := by omega
    simp [he, this]
theorem two_B {n0 n1 e0 : Int} : stepB (stepB (-1, 0) 0 n0 e0) 1 n1 0 = if e0 = 0 ∧ n0 ≤ n1 then (0, n0) else (1, n1) := by
  unfold stepB
  by_cases he : e0 = 0
  · by_cases hn : n0 ≤ n1
    · have : ¬ n1 < n0 := by omega
      simp [he, hn, this]
    · have : n1 < n0 := by omega
      simp [he, hn, this]
  · simp [he]
theorem stepB_A {p : Int × Int} (h : 0 ≤ p.1) (j n e : Int) : stepB p j n e = stepA p j n e := by
  unfold stepB stepA
  have : ¬ p.1 < 0 := by omega
  simp [this]
theorem stepA_nn {p : Int × Int} (h : 0 ≤ p.1) {j : Int} (hj : 0 ≤ j) (n e : Int) : 0 ≤ (stepA p j n e).1 := by
  unfold stepA
  split
  · exact hj
  · exact h
/-- It is among the first, and costs no more than any of them. -/
def Least (N E : Int → Int) (m : Int) (p : Int × Int) : Prop := 0 ≤ p.1 ∧ p.1 ≤ m ∧ p.2 = N p.1 ∧ E p.1 = 0 ∧ ∀ i, 0 ≤ i → i ≤ m → E i = 0 → p.2 ≤ N i
theorem Least.step {N E : Int → Int} {m : Int} {p : Int × Int} (h : Least N E m p) (hm : 0 ≤ m) : Least N E (m + 1) (stepA p (m + 1) (N (m + 1)) (E (m + 1))) := by
  obtain ⟨h1, h2, h3, h4, h5⟩ := h
  unfold stepA
  split
  · rename_i hc
    refine ⟨by simp; omega, by simp, rfl, hc.1, fun i hi hi' he => ?_⟩
    by_cases hq : i = m + 1
    · subst hq; simp
    · have := h5 i hi (by omega) he
      simp; omega
  · rename_i hc
    refine ⟨h1, by omega, h3, h4, fun i hi hi' he => ?_⟩
    by_cases hq : i = m + 1
    · subst hq
      have : ¬ N (m + 1) < p.2 := fun hlt => hc ⟨he, hlt⟩
      omega
    · exact h5 i hi (by omega) he

theorem bests (l : List (List Int)) (h1 : framesE 1 l = 0) : (bestB l).1 = (bestA l).1 ∧ costE (bestA l).1 l = 0 ∧ ∀ i : Int, costE i l = 0 → costN (bestA l).1 l ≤ costN i l := by
  have a0 := costN_lt (lacing := 0) (l := l)
  have a1 := costN_lt (lacing := 1) (l := l)
  have e1 : costE 1 l = 0 := by simpa [costE] using h1
  have first : stepA (stepA (0, 1152921504606846976) 0 (costN 0 l) (costE 0 l)) 1 (costN 1 l) (costE 1 l) = if costE 0 l = 0 ∧ costN 0 l ≤ costN 1 l then (0, costN 0 l) else (1, costN 1 l) := by
    rw [e1]; exact two_A a0.2 a1.2
  have firstB : stepB (stepB (-1, 0) 0 (costN 0 l) (costE 0 l)) 1 (costN 1 l) (costE 1 l) = if costE 0 l = 0 ∧ costN 0 l ≤ costN 1 l then (0, costN 0 l) else (1, costN 1 l) := by
    rw [e1]; exact two_B
  have l1 : Least (fun j => costN j l) (fun j => costE j l) 1 (if costE 0 l = 0 ∧ costN 0 l ≤ costN 1 l then (0, costN 0 l) else (1, costN 1 l)) := by
    split
    · rename_i hc
      refine ⟨by simp, by simp, rfl, hc.1, fun i hi hi' he => ?_⟩
      have : i = 0 ∨ i = 1 := by omega
      rcases this with rfl | rfl
      · simp
      · simpa using hc.2
    · rename_i hc
      refine ⟨by simp, by simp, rfl, e1, fun i hi hi' he => ?_⟩
      have : i = 0 ∨ i = 1 := by omega
      rcases this with rfl | rfl
      · have : ¬ costN 0 l ≤ costN 1 l := fun hq => hc ⟨he, hq⟩
        simp; omega
      · simp
  have l2 := (l1.step (by decide)).step (by decide)
  have hA : bestA l = stepA (stepA (if costE 0 l = 0 ∧ costN 0 l ≤ costN 1 l then (0, costN 0 l) else (1, costN 1 l)) 2 (costN 2 l) (costE 2 l)) 3 (costN 3 l) (costE 3 l) := by
    unfold bestA; rw [first]
  have hB : bestB l = bestA l := by
    unfold bestB; rw [firstB, hA]
    have n1 : 0 ≤ (if costE 0 l = 0 ∧ costN 0 l ≤ costN 1 l then ((0 : Int), costN 0 l) else (1, costN 1 l)).1 := l1.1
    rw [stepB_A n1, stepB_A (stepA_nn n1 (by decide) _ _)]
  have l2 : Least (fun j => costN j l) (fun j => costE j l) 3 (bestA l) := by rw [hA]; exact l2
  obtain ⟨q1, q2, q3, q4, q5⟩ := l2
  refine ⟨by rw [hB], q4, fun i hi => ?_⟩
  have hr : 0 ≤ i ∧ i ≤ 3 := by
    unfold costE at hi
    split at hi
    · simp at hi
    · omega
  have := q5 i hr.1 hr.2 hi
  simp only at q3
  rw [q3] at this
  exact this

theorem laceCosts_plain (l : List (List Int)) (lacing : Int) (hl : okL l) : ∃ k, f7 (R := Bool) k l lacing some = some true := by
  refine Ev.some ?_
  refine (((f9_v l hl).and awake_v).imp3 ((f24_v lacing l hl).and (f25_v lacing l hl)) (((f26_v l hl).and (f27_v l hl)).and (f24_v (bestA l).1 l hl)) ?_)
  rintro k ⟨h9, h15⟩ ⟨h24, h25⟩ ⟨⟨h26, h27⟩, h24b⟩
  simp only [f7, f7_s, h9, h24, h25, h26, h27, bne_dec, beq_dec]
  cases smallB l with
  | false => rfl
  | true =>
    simp only [Bool.not_true, cond_false, decide_true]
    by_cases h1 : framesE 1 l = 0
    · obtain ⟨b1, b2, b3⟩ := bests l h1
      simp only [h1, if_true, b1, h24b, b2, bne_dec, decide_true, Bool.not_true, cond_false, cond_true]
      by_cases he : costE lacing l = 0
      · have := b3 lacing he
        have t : decide (costN lacing l < costN (bestA l).1 l) = false := by simp; omega
        simp [he, t, h15]
      · simp [he, h15]
    · simp [h1, h15]
end Go.Proofs.Ytnmoccdnkpkhhaa

/-! The bytes of a block. -/
namespace Go.Proofs.Ytnmoccdnkpkhhaa
open Go Go.Am

/-- A block that may be written. -/
structure FineB (x : D0) : Prop where
  track : 1 ≤ x.1 ∧ x.1 ≤ 1000
  time : -32768 ≤ x.2.1 ∧ x.2.1 ≤ 32767
  lacing : 0 ≤ x.2.2.2.1 ∧ x.2.2.2.1 ≤ 3
  frames : framesE x.2.2.2.1 x.2.2.2.2 = 0
  fine : Fine x.2.2.2.2

theorem fineB_of {x : D0} (h : chkE x = 0) : FineB x := by
  unfold chkE at h
  split at h
  · simp at h
  · rename_i hc
    exact ⟨by omega, by omega, by omega, h, fine_of h⟩

def flagB (x : D0) : Int := 2 * x.2.2.2.1 + if x.2.2.1 then 128 else 0
def headB (x : D0) : List Int := vintB x.1 ++ [x.2.1 / 256 % 256, x.2.1 % 256, flagB x]
/-- The bytes of a block. -/
def writeB (x : D0) : List Int := headB x ++ codedB x.2.2.2.1 x.2.2.2.2 ++ x.2.2.2.2.flatten

theorem sumL_cons (f : List Int) (l : List (List Int)) : sumL (f :: l) = f.length + sumL l := by simp [sumL]
theorem flat_len (l : List (List Int)) : l.flatten.length = sumL l := by simp [sumL, List.length_flatten]

theorem f10_loop (l : List (List Int)) (hl : l.length ≤ 1000) : ∀ i, i ≤ l.length → Ev fun k => ∀ (R : Type) (acc : List Int) (X : List Int → Option R), acc.length + sumL (l.drop i) ≤ 140737488355328 →
    f10_l13 f12 f32 f33 k l (l.length : Int) (i : Int) acc X = X (acc ++ (l.drop i).flatten) := by
  refine Ev.down l.length ?_ ?_
  · exact Ev.suc (.all fun k R acc X ha => by simp [f10_l13])
  · intro i hi h
    refine Ev.suc (h.imp fun k h R acc X ha => ?_)
    rw [List.drop_eq_getElem_cons hi] at ha ⊢
    rw [sumL_cons] at ha
    rw [f10_l13, lt_nat, inb_nat, wrapSuc (by omega)]
    simp only [hi, decide_true, cond_true, Int.toNat_natCast, getD_get hi]
    rw [room_ok (by omega), cond_true, h R _ X (by rw [List.length_append]; omega), List.flatten_cons, List.append_assoc]

theorem f11_loop (a b : Int) (c : Bool) (d : Int) (l : List (List Int)) (hl : l.length ≤ 1000) : ∀ i, i ≤ l.length → Ev fun k => ∀ (R : Type) (acc : List Int) (X : List Int → Option R), acc.length + sumL (l.drop i) ≤ 140737488355328 →
    f11_l14 f13 f34 f35 k (i : Int) a b c d l acc X = X (acc ++ (l.drop i).flatten) := by
  refine Ev.down l.length ?_ ?_
  · exact Ev.suc (.all fun k R acc X ha => by simp [f11_l14])
  · intro i hi h
    refine Ev.suc (h.imp fun k h R acc X ha => ?_)
    rw [List.drop_eq_getElem_cons hi] at ha ⊢
    rw [sumL_cons] at ha
    rw [f11_l14, lt_nat, inb_nat, wrapSuc (by omega)]
    simp only [hi, decide_true, cond_true, Int.toNat_natCast, getD_get hi]
    rw [room_ok (by omega), cond_true, h R _ X (by rw [List.length_append]; omega), List.flatten_cons, List.append_assoc]

theorem shr8i {t : Int} (_h : -32768 ≤ t) (_h' : t ≤ 32767) : IntKind.u8.wrap (shrI .i64 t 8) = t / 256 % 256 := by
  have : (min (8 : Int).toNat IntKind.i64.bits) = 8 := rfl
  have e : shrI .i64 t 8 = t / 256 := by
    unfold shrI
    rw [this, Int.fdiv_eq_ediv_of_nonneg _ (by decide)]
    rfl
  rw [e, wrapU8]

theorem flag_w {lacing : Int} (h : 0 ≤ lacing) (h' : lacing ≤ 3) : IntKind.u8.wrap (shlI .i64 lacing 1) = 2 * lacing ∧ orI .u8 (IntKind.u8.wrap (shlI .i64 lacing 1)) 128 = 2 * lacing + 128 ∧
    IntKind.u8.wrap (IntKind.i64.wrap (2 * lacing)) = 2 * lacing ∧ IntKind.u8.wrap (IntKind.i64.wrap (IntKind.i64.wrap (2 * lacing) + 128)) = 2 * lacing + 128 ∧ orI .u8 (2 * lacing) 128 = 2 * lacing + 128 := by
  have : lacing = 0 ∨ lacing = 1 ∨ lacing = 2 ∨ lacing = 3 := by omega
  rcases this with rfl | rfl | rfl | rfl <;> decide

theorem lenByte {n : Nat} (h : 1 ≤ n) (h' : n ≤ 32) : IntKind.u8.wrap (IntKind.i64.wrap ((n : Int) - 1)) = ((n - 1 : Nat) : Int) % 256 := by
  rw [wrap64 (by omega) (by omega), wrapU8]; omega

theorem headLen (x : D0) : (headB x).length ≤ 6 := by
  have := vintB_len x.1
  simp only [headB, List.length_append, List.length_cons, List.length_nil]; omega
theorem codedLen {lacing : Int} {l : List (List Int)} (h : Fine l) : (codedB lacing l).length ≤ 10000 := by
  have := restB_len (lacing := lacing) h
  unfold codedB
  split
  · simp
  · simp; omega
theorem roomB {a b : Nat} (h : a + b ≤ 1000000) : room 1 (a + b) = true := room_ok (by omega)

theorem f10_v (x : D0) (hl : okL x.2.2.2.2) (hs : sumL x.2.2.2.2 ≤ 200000) : Ev fun k => ∀ (R : Type) (K : Int → List Int → Option R), f10 k x.1 x.2.1 x.2.2.1 x.2.2.2.1 x.2.2.2.2 K = if chkE x = 0 then K 0 (writeB x) else K (chkE x) [] := by
  by_cases hc : chkE x = 0
  · have hf := fineB_of hc
    have hp := hf.fine.pos
    have hle := hf.fine.le
    refine ((f12_v x hl).and (f32_v (v := x.1) (by have := hf.track; omega) (by have := hf.track; omega))).imp3 (f33_v x.2.2.2.1 x.2.2.2.2 hf.fine) (f10_loop x.2.2.2.2 (by omega) 0 (by omega)) ?_
    rintro k ⟨h12, h32⟩ h33 hlp R K
    simp only [Int.natCast_zero, List.drop_zero] at hlp
    obtain ⟨w1, _, _, _, w2⟩ := flag_w hf.lacing.1 hf.lacing.2
    have ws := shr8i hf.time.1 hf.time.2
    have wb := lenByte hp hle
    have hvl := vintB_len x.1
    have hcl := codedLen (lacing := x.2.2.2.1) hf.fine
    have hhl := headLen x
    simp only [f10, f10_s, h12, h32, hc, bne_dec, decide_true, Bool.not_true, cond_false, if_true, ws, wrapU8 x.2.1, w1, w2, wb]
    have ht : x.2.2.1 = true → vintB x.1 ++ [x.2.1 / 256 % 256, x.2.1 % 256, 2 * x.2.2.2.1 + 128] = headB x := by
      intro hb; simp [headB, flagB, hb]
    have hn : x.2.2.1 = false → vintB x.1 ++ [x.2.1 / 256 % 256, x.2.1 % 256, 2 * x.2.2.2.1] = headB x := by
      intro hb; simp [headB, flagB, hb]
    by_cases hz : x.2.2.2.1 = 0
    · have d0 : decide (x.2.2.2.1 = 0) = true := by simp [hz]
      have hcd : writeB x = headB x ++ x.2.2.2.2.flatten := by unfold writeB; rw [codedB, if_pos hz, List.append_nil]
      cases hb : x.2.2.1 with
      | true =>
        simp only [d0, Bool.not_true, cond_false, cond_true]
        rw [roomB (by simp; omega), cond_true, ht hb, hlp R _ _ (by omega), hcd]
      | false =>
        simp only [d0, Bool.not_true, cond_false]
        rw [roomB (by simp; omega), cond_true, hn hb, hlp R _ _ (by omega), hcd]
    · have d0 : decide (x.2.2.2.1 = 0) = false := by simp [hz]
      have hcd : writeB x = headB x ++ [(((x.2.2.2.2.length - 1 : Nat) : Int) % 256)] ++ restB x.2.2.2.1 x.2.2.2.2 0 ++ x.2.2.2.2.flatten := by unfold writeB; rw [codedB, if_neg hz]; simp
      have hrl := restB_len (lacing := x.2.2.2.1) hf.fine
      cases hb : x.2.2.1 with
      | true =>
        simp only [d0, Bool.not_false, cond_true, h33]
        rw [ht hb, roomB (by simp; omega), roomB (by simp; omega), roomB (by simp; omega), cond_true, cond_true, cond_true, hlp R _ _ (by simp; omega), hcd]
      | false =>
        simp only [d0, Bool.not_false, cond_true, cond_false, h33]
        rw [hn hb, roomB (by simp; omega), roomB (by simp; omega), roomB (by simp; omega), cond_true, cond_true, cond_true, hlp R _ _ (by simp; omega), hcd]
  · refine (f12_v x hl).imp fun k h R K => ?_
    simp [f10, f10_s, h, hc, bne_dec]

theorem f11_v (x : D0) (hl : okL x.2.2.2.2) (hs : sumL x.2.2.2.2 ≤ 200000) : Ev fun k => ∀ (R : Type) (K : Int → List Int → Option R), f11 k x.1 x.2.1 x.2.2.1 x.2.2.2.1 x.2.2.2.2 K = if chkE x = 0 then K 0 (writeB x) else K (chkE x) [] := by
  by_cases hc : chkE x = 0
  · have hf := fineB_of hc
    have hp := hf.fine.pos
    have hle := hf.fine.le
    refine ((f13_v x hl).and (f34_v (v := x.1) (by have := hf.track; omega) (by have := hf.track; omega))).imp3 (f35_v x.2.2.2.1 x.2.2.2.2 hf.fine) (f11_loop x.1 x.2.1 x.2.2.1 x.2.2.2.1 x.2.2.2.2 (by omega) 0 (by omega)) ?_
    rintro k ⟨h13, h34⟩ h35 hlp R K
    simp only [Int.natCast_zero, List.drop_zero] at hlp
    obtain ⟨_, _, w1, w2, _⟩ := flag_w hf.lacing.1 hf.lacing.2
    have hvl := vintB_len x.1
    have hcl := codedLen (lacing := x.2.2.2.1) hf.fine
    have hhl := headLen x
    have htm := hf.time
    simp only [f11, f11_s, h13, h34, hc, bne_dec, decide_true, Bool.not_true, cond_false, if_true, w1, w2, h35]
    have ht : x.2.2.1 = true → vintB x.1 ++ [x.2.1 / 256 % 256, x.2.1 % 256, 2 * x.2.2.2.1 + 128] = headB x := by
      intro hb; simp [headB, flagB, hb]
    have hn : x.2.2.1 = false → vintB x.1 ++ [x.2.1 / 256 % 256, x.2.1 % 256, 2 * x.2.2.2.1] = headB x := by
      intro hb; simp [headB, flagB, hb]
    by_cases hneg : x.2.1 < 0
    · have e0 : IntKind.i64.wrap (x.2.1 + 65536) = x.2.1 + 65536 := wrap64 (by omega) (by omega)
      have e1 : IntKind.u8.wrap (IntKind.i64.wrap ((x.2.1 + 65536).tdiv 256)) = x.2.1 / 256 % 256 := by
        rw [Int.tdiv_eq_ediv_of_nonneg (by omega), wrap64 (by omega) (by omega), wrapU8]; omega
      have e2 : IntKind.u8.wrap ((x.2.1 + 65536).tmod 256) = x.2.1 % 256 := by
        rw [Int.tmod_eq_emod_of_nonneg (by omega), wrapU8]; omega
      simp only [hneg, decide_true, cond_true, e0, e1, e2]
      cases hb : x.2.2.1 with
      | true =>
        simp only [cond_true]
        rw [hb] at hlp
        rw [ht hb, roomB (by simp; omega), roomB (by omega), cond_true, cond_true, hlp R _ _ (by rw [List.length_append]; omega)]; rfl
      | false =>
        simp only [cond_false]
        rw [hb] at hlp
        rw [hn hb, roomB (by simp; omega), roomB (by omega), cond_true, cond_true, hlp R _ _ (by rw [List.length_append]; omega)]; rfl
    · have e1 : IntKind.u8.wrap (IntKind.i64.wrap (x.2.1.tdiv 256)) = x.2.1 / 256 % 256 := by
        rw [Int.tdiv_eq_ediv_of_nonneg (by omega), wrap64 (by omega) (by omega), wrapU8]
      have e2 : IntKind.u8.wrap (x.2.1.tmod 256) = x.2.1 % 256 := by
        rw [Int.tmod_eq_emod_of_nonneg (by omega), wrapU8]; omega
      simp only [hneg, decide_false, cond_false, e1, e2]
      cases hb : x.2.2.1 with
      | true =>
        simp only [cond_true]
        rw [hb] at hlp
        rw [ht hb, roomB (by simp; omega), roomB (by omega), cond_true, cond_true, hlp R _ _ (by rw [List.length_append]; omega)]; rfl
      | false =>
        simp only [cond_false]
        rw [hb] at hlp
        rw [hn hb, roomB (by simp; omega), roomB (by omega), cond_true, cond_true, hlp R _ _ (by rw [List.length_append]; omega)]; rfl
  · refine (f13_v x hl).imp fun k h R K => ?_
    simp [f11, f11_s, h, hc, bne_dec]

theorem writeB_len {x : D0} (hf : FineB x) (hs : sumL x.2.2.2.2 ≤ 200000) : (writeB x).length ≤ reachBytes := by
  have := headLen x
  have := codedLen (lacing := x.2.2.2.1) hf.fine
  simp only [writeB, List.length_append, flat_len, reachV]
  omega

theorem smallB_of {l : List (List Int)} (h : smallB l = true) : l.length ≤ 60 ∧ sumL l ≤ 200000 := by
  simpa [smallB] using h

theorem laceWrites_plain (x : D0) (hx : okL x.2.2.2.2) : ∃ k, f3 (R := Bool) k x.1 x.2.1 x.2.2.1 x.2.2.2.1 x.2.2.2.2 some = some true := by
  refine Ev.some ?_
  cases hsm : smallB x.2.2.2.2 with
  | false =>
    refine (f9_v _ hx).imp fun k h9 => ?_
    simp [f3, f3_s, h9, hsm]
  | true =>
    obtain ⟨_, hs⟩ := smallB_of hsm
    by_cases hc : chkE x = 0
    · refine ((f9_v _ hx).and awake_v).imp4 ((f10_v x hx hs).and (f11_v x hx hs)) ((f12_v x hx).and (f13_v x hx)) (f14_v (writeB x) (writeB x) (writeB_len (fineB_of hc) hs)) ?_
      rintro k ⟨h9, h15⟩ ⟨h10, h11⟩ ⟨h12, h13⟩ h14
      simp [f3, f3_s, h9, hsm, h10, h11, h12, h13, h14, h15, hc]
    · refine ((f9_v _ hx).and awake_v).imp4 ((f10_v x hx hs).and (f11_v x hx hs)) ((f12_v x hx).and (f13_v x hx)) (f14_v [] [] (by simp)) ?_
      rintro k ⟨h9, h15⟩ ⟨h10, h11⟩ ⟨h12, h13⟩ h14
      simp [f3, f3_s, h9, hsm, h10, h11, h12, h13, h14, h15, hc]
end Go.Proofs.Ytnmoccdnkpkhhaa
