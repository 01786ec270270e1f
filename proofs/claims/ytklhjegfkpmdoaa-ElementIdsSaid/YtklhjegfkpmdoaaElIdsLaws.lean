/- Proved: the id at any place of any bytes, by the program and by the document, is one and the same. Conditions: the bytes are bytes, as many as memory holds. -/
import Derived.Test.YtklhjegfkpmdoaaElWalk2
import Derived.Test.YtklhjegfkpmdoaaRows
import Derived.JoinedOf

/-! The chapter's examples hold. -/
namespace Go.Proofs.Ytklhjegfkpmdoaa
open Go Go.Am

theorem awake_v : Ev fun k => ∀ (R : Type) (K : Bool → Option R), f18 k K = K true := by
  refine .plus 100 (.all fun k R K => ?_)
  kernel_rfl
end Go.Proofs.Ytklhjegfkpmdoaa

/-! Numbers of variable length, as far as blocks need them. -/
namespace Go.Proofs.Ytklhjegfkpmdoaa
open Go Go.Am

theorem wrapU8 (x : Int) : IntKind.u8.wrap x = x % 256 := by
  simp [IntKind.wrap, IntKind.signed, IntKind.bits]
theorem wrapU64 {x : Int} (h : 0 ≤ x) (h' : x < 18446744073709551616) : IntKind.u64.wrap x = x := by
  simp [IntKind.wrap, IntKind.signed, IntKind.bits]; omega
theorem shr8 (w : Int) : shrI .u64 w 8 = w / 256 := by
  have : (min (8 : Int).toNat IntKind.u64.bits) = 8 := rfl
  unfold shrI
  rw [this, Int.fdiv_eq_ediv_of_nonneg _ (by decide)]
  rfl
theorem or_add {a : Int} {m : Nat} (h : 0 ≤ a) (h' : a < 2 ^ m) (hm : m < 60) : orI .u64 a (2 ^ m) = a + 2 ^ m := by
  obtain ⟨n, rfl⟩ : ∃ n : Nat, a = n := ⟨a.toNat, by omega⟩
  have h2 : n < 2 ^ m := by exact_mod_cast h'
  have h3 : 2 ^ m < 2 ^ 60 := Nat.pow_lt_pow_right (by decide) hm
  have e1 : (BitVec.ofInt IntKind.u64.bits (n : Int)).toNat = n := by
    show (BitVec.ofInt 64 (n : Int)).toNat = n
    rw [BitVec.toNat_ofInt]
    have : ((n : Int) % ((2 ^ 64 : Nat) : Int)) = n := by
      rw [Int.emod_eq_of_lt (by omega)]
      have : 2 ^ 60 < 2 ^ 64 := by decide
      omega
    rw [this]; rfl
  have e2 : (BitVec.ofInt IntKind.u64.bits ((2 : Int) ^ m)).toNat = 2 ^ m := by
    show (BitVec.ofInt 64 ((2 : Int) ^ m)).toNat = 2 ^ m
    have e : ((2 : Int) ^ m) = ((2 ^ m : Nat) : Int) := by simp
    rw [e, BitVec.toNat_ofInt]
    have : (((2 ^ m : Nat) : Int) % ((2 ^ 64 : Nat) : Int)) = ((2 ^ m : Nat) : Int) := by
      rw [Int.emod_eq_of_lt (by omega)]
      have : 2 ^ 60 < 2 ^ 64 := by decide
      omega
    rw [this]; rfl
  unfold orI
  rw [BitVec.toNat_or, e1, e2, Nat.or_comm]
  have := Nat.two_pow_add_eq_or_of_lt h2 1
  rw [Nat.mul_one] at this
  rw [← this, wrapU64 (by omega) (by omega)]
  simp; omega

def c1 (w : Int) : List Int := [w % 256]
def c2 (w : Int) : List Int := [w / 256 % 256, w % 256]
def c3 (w : Int) : List Int := [w / 256 / 256 % 256, w / 256 % 256, w % 256]

theorem big1 (w : Int) : Ev fun k => ∀ (R : Type) (K : List Int → Option R), f91 k w 1 K = K (c1 w) :=
  .suc (.suc (.all fun k R K => by
    simp [f91, f91_s, f91_l3, wrapU8, shr8, c1, inb, wrap64]))
theorem big2 (w : Int) : Ev fun k => ∀ (R : Type) (K : List Int → Option R), f91 k w 2 K = K (c2 w) :=
  .suc (.suc (.suc (.all fun k R K => by
    simp [f91, f91_s, f91_l3, wrapU8, shr8, c2, inb, wrap64, List.replicate])))
theorem big3 (w : Int) : Ev fun k => ∀ (R : Type) (K : List Int → Option R), f91 k w 3 K = K (c3 w) :=
  .suc (.suc (.suc (.suc (.all fun k R K => by
    simp [f91, f91_s, f91_l3, wrapU8, shr8, c3, inb, wrap64, List.replicate]))))

theorem bytes1 {w : Int} (h : 0 ≤ w) (_h' : w < 4611686018427387904) : Ev fun k => ∀ (R : Type) (K : List Int → Option R), f86 k w 1 K = K (c1 w) :=
  .suc (.suc (.all fun k R K => by
    simp [f86, f86_s, f86_l3, wrapU8, c1, inb, wrap64, Int.tmod_eq_emod_of_nonneg h]))
theorem bytes2 {w : Int} (h : 0 ≤ w) (h' : w < 4611686018427387904) : Ev fun k => ∀ (R : Type) (K : List Int → Option R), f86 k w 2 K = K (c2 w) :=
  .suc (.suc (.suc (.all fun k R K => by
    have h1 : 0 ≤ w / 256 := by omega
    have e1 : IntKind.i64.wrap (w / 256) = w / 256 := wrap64 (by omega) (by omega)
    simp [f86, f86_s, f86_l3, wrapU8, c2, inb, wrap64, List.replicate, Int.tmod_eq_emod_of_nonneg h, Int.tdiv_eq_ediv_of_nonneg h, e1, Int.tmod_eq_emod_of_nonneg h1])))
theorem bytes3 {w : Int} (h : 0 ≤ w) (h' : w < 4611686018427387904) : Ev fun k => ∀ (R : Type) (K : List Int → Option R), f86 k w 3 K = K (c3 w) :=
  .suc (.suc (.suc (.suc (.all fun k R K => by
    have h1 : 0 ≤ w / 256 := by omega
    have e1 : IntKind.i64.wrap (w / 256) = w / 256 := wrap64 (by omega) (by omega)
    have h2 : 0 ≤ w / 256 / 256 := by omega
    have e2 : IntKind.i64.wrap (w / 256 / 256) = w / 256 / 256 := wrap64 (by omega) (by omega)
    simp [f86, f86_s, f86_l3, wrapU8, c3, inb, wrap64, List.replicate, Int.tmod_eq_emod_of_nonneg h, Int.tdiv_eq_ediv_of_nonneg h, e1, Int.tmod_eq_emod_of_nonneg h1, Int.tdiv_eq_ediv_of_nonneg h1, e2, Int.tmod_eq_emod_of_nonneg h2]))))

theorem all1 (k : Nat) (R : Type) (K : Int → Option R) : f82 k 1 K = K 127 := by kernel_rfl
theorem all2 (k : Nat) (R : Type) (K : Int → Option R) : f82 k 2 K = K 16383 := by kernel_rfl
theorem all3 (k : Nat) (R : Type) (K : Int → Option R) : f82 k 3 K = K 2097151 := by kernel_rfl
theorem most1 (k : Nat) (R : Type) (K : Int → Option R) : f85 k 1 K = K 127 := by kernel_rfl
theorem most2 (k : Nat) (R : Type) (K : Int → Option R) : f85 k 2 K = K 16383 := by kernel_rfl
theorem most3 (k : Nat) (R : Type) (K : Int → Option R) : f85 k 3 K = K 2097151 := by kernel_rfl
theorem mark1 {v : Int} (h : 0 ≤ v) (h' : v < 128) : Ev fun k => ∀ (R : Type) (K : List Int → Option R), f83 k v 1 K = K (c1 (v + 128)) :=
  (big1 (v + 128)).imp fun k hb R K => by
    have e : orI .u64 v (shlI .u64 1 (IntKind.i64.wrap (7 * 1))) = v + 128 := or_add (m := 7) h (by simpa using h') (by decide)
    have e0 : decide (IntKind.i64.wrap (7 * 1) < 0) = false := by decide
    simp only [f83, f83_s]
    rw [e0, e]; exact hb R K
theorem mark2 {v : Int} (h : 0 ≤ v) (h' : v < 16384) : Ev fun k => ∀ (R : Type) (K : List Int → Option R), f83 k v 2 K = K (c2 (v + 16384)) :=
  (big2 (v + 16384)).imp fun k hb R K => by
    have e : orI .u64 v (shlI .u64 1 (IntKind.i64.wrap (7 * 2))) = v + 16384 := or_add (m := 14) h (by simpa using h') (by decide)
    have e0 : decide (IntKind.i64.wrap (7 * 2) < 0) = false := by decide
    simp only [f83, f83_s]
    rw [e0, e]; exact hb R K
theorem mark3 {v : Int} (h : 0 ≤ v) (h' : v < 2097152) : Ev fun k => ∀ (R : Type) (K : List Int → Option R), f83 k v 3 K = K (c3 (v + 2097152)) :=
  (big3 (v + 2097152)).imp fun k hb R K => by
    have e : orI .u64 v (shlI .u64 1 (IntKind.i64.wrap (7 * 3))) = v + 2097152 := or_add (m := 21) h (by simpa using h') (by decide)
    have e0 : decide (IntKind.i64.wrap (7 * 3) < 0) = false := by decide
    simp only [f83, f83_s]
    rw [e0, e]; exact hb R K

/-- A number of variable length. -/
def vintB (v : Int) : List Int := if v < 127 then c1 (v + 128) else if v < 16383 then c2 (v + 16384) else c3 (v + 2097152)
/-- A signed one. -/
theorem f52_v {v : Int} (h : 0 ≤ v) (h' : v < 2097151) : Ev fun k => ∀ (R : Type) (K : Int → List Int → Option R), f52 k v 0 K = K 0 (vintB v) := by
  have w : IntKind.u64.wrap v = v := wrapU64 h (by omega)
  have w2 : IntKind.i64.wrap (1 + 1) = 2 := by decide
  have w3 : IntKind.i64.wrap (2 + 1) = 3 := by decide
  have nn : ¬ v < 0 := by omega
  by_cases h1 : v < 127
  · refine .suc ((mark1 h (by omega)).and ?_ |>.imp fun k (hm : _ ∧ ∀ (R : Type) (K : List Int → Option R), f83 (k + 1) v 1 K = K (c1 (v + 128))) R K => ?_)
    · obtain ⟨a, ha⟩ := mark1 (v := v) h (by omega)
      exact ⟨a, fun k hk => ha (k + 1) (by omega)⟩
    · have : decide (v ≥ 127) = false := by simp; omega
      simp [f52, f52_s, f52_l5, all1, this, w, hm.2, vintB, h1, nn]
  · by_cases h2 : v < 16383
    · refine .suc (.suc ?_)
      obtain ⟨a, ha⟩ := mark2 (v := v) h (by omega)
      refine ⟨a, fun k hk R K => ?_⟩
      have t1 : decide (v ≥ 127) = true := by simp; omega
      have t2 : decide (v ≥ 16383) = false := by simp; omega
      simp [wrap64, f52, f52_s, f52_l5, all1, all2, t1, t2, w, w2, ha (k + 1 + 1) (by omega), vintB, h1, h2, nn]
    · refine .suc (.suc (.suc ?_))
      obtain ⟨a, ha⟩ := mark3 (v := v) h (by omega)
      refine ⟨a, fun k hk R K => ?_⟩
      have t1 : decide (v ≥ 127) = true := by simp; omega
      have t2 : decide (v ≥ 16383) = true := by simp; omega
      have t3 : decide (v ≥ 2097151) = false := by simp; omega
      simp [wrap64, f52, f52_s, f52_l5, all1, all2, all3, t1, t2, t3, w, w2, w3, ha (k + 1 + 1 + 1) (by omega), vintB, h1, h2, nn]

theorem _root_.Go.Am.Ev.up {p : Nat → Prop} (h : Ev p) : Ev fun k => p (k + 1) := by
  obtain ⟨a, ha⟩ := h
  exact ⟨a, fun k hk => ha (k + 1) (by omega)⟩

theorem f54_n1 {v : Int} (h : 0 ≤ v) (h' : v < 127) : Ev fun k => ∀ (R : Type) (K : Int → List Int → Option R), f54 k v 1 K = K 0 (c1 (v + 128)) := by
  refine (bytes1 (w := v + 128) (by omega) (by omega)).imp fun k hb R K => ?_
  have nn : ¬ v < 0 := by omega
  have t1 : decide (v ≥ 127) = false := by simp; omega
  have e0 : decide (IntKind.u64.wrap (IntKind.i64.wrap (7 * 1)) < 0) = false := by decide
  have e1 : shlI .i64 1 (IntKind.u64.wrap (IntKind.i64.wrap (7 * 1))) = 128 := by decide
  have e2 : IntKind.i64.wrap (v + 128) = v + 128 := wrap64 (by omega) (by omega)
  simp only [f54, f54_s, most1, t1, e0, e1, e2, hb]
  simp [nn]
theorem f54_n2 {v : Int} (h : 0 ≤ v) (h' : v < 16383) : Ev fun k => ∀ (R : Type) (K : Int → List Int → Option R), f54 k v 2 K = K 0 (c2 (v + 16384)) := by
  refine (bytes2 (w := v + 16384) (by omega) (by omega)).imp fun k hb R K => ?_
  have nn : ¬ v < 0 := by omega
  have t1 : decide (v ≥ 16383) = false := by simp; omega
  have e0 : decide (IntKind.u64.wrap (IntKind.i64.wrap (7 * 2)) < 0) = false := by decide
  have e1 : shlI .i64 1 (IntKind.u64.wrap (IntKind.i64.wrap (7 * 2))) = 16384 := by decide
  have e2 : IntKind.i64.wrap (v + 16384) = v + 16384 := wrap64 (by omega) (by omega)
  simp only [f54, f54_s, most2, t1, e0, e1, e2, hb]
  simp [nn]
theorem f54_n3 {v : Int} (h : 0 ≤ v) (h' : v < 2097151) : Ev fun k => ∀ (R : Type) (K : Int → List Int → Option R), f54 k v 3 K = K 0 (c3 (v + 2097152)) := by
  refine (bytes3 (w := v + 2097152) (by omega) (by omega)).imp fun k hb R K => ?_
  have nn : ¬ v < 0 := by omega
  have t1 : decide (v ≥ 2097151) = false := by simp; omega
  have e0 : decide (IntKind.u64.wrap (IntKind.i64.wrap (7 * 3)) < 0) = false := by decide
  have e1 : shlI .i64 1 (IntKind.u64.wrap (IntKind.i64.wrap (7 * 3))) = 2097152 := by decide
  have e2 : IntKind.i64.wrap (v + 2097152) = v + 2097152 := wrap64 (by omega) (by omega)
  simp only [f54, f54_s, most3, t1, e0, e1, e2, hb]
  simp [nn]
theorem f54_v {v : Int} (h : 0 ≤ v) (h' : v < 2097151) : Ev fun k => ∀ (R : Type) (K : Int → List Int → Option R), f54 k v 0 K = K 0 (vintB v) := by
  have nn : ¬ v < 0 := by omega
  have e01 : decide (IntKind.u64.wrap (IntKind.i64.wrap (7 * 1)) < 0) = false := by decide
  have e11 : shlI .i64 1 (IntKind.u64.wrap (IntKind.i64.wrap (7 * 1))) = 128 := by decide
  have e02 : decide (IntKind.u64.wrap (IntKind.i64.wrap (7 * 2)) < 0) = false := by decide
  have e12 : shlI .i64 1 (IntKind.u64.wrap (IntKind.i64.wrap (7 * 2))) = 16384 := by decide
  have e03 : decide (IntKind.u64.wrap (IntKind.i64.wrap (7 * 3)) < 0) = false := by decide
  have e13 : shlI .i64 1 (IntKind.u64.wrap (IntKind.i64.wrap (7 * 3))) = 2097152 := by decide
  have w2 : IntKind.i64.wrap (1 + 1) = 2 := by decide
  have w3 : IntKind.i64.wrap (2 + 1) = 3 := by decide
  have l8 : decide ((1 : Int) < 8) = true := by decide
  have l82 : decide ((2 : Int) < 8) = true := by decide
  have l83 : decide ((3 : Int) < 8) = true := by decide
  have z0 : decide ((0 : Int) < 0) = false := by decide
  have z8 : decide ((0 : Int) > 8) = false := by decide
  have zz : ((0 : Int) == 0) = true := by decide
  have nv : decide (v < 0) = false := by simp; omega
  by_cases h1 : v < 127
  · refine .suc ((bytes1 (w := v + 128) (by omega) (by omega)).up.imp fun k hb R K => ?_)
    have t1 : decide (v ≥ 127) = false := by simp; omega
    have e2 : IntKind.i64.wrap (v + 128) = v + 128 := wrap64 (by omega) (by omega)
    simp only [f54, f54_s, f54_l5, most1, t1, e01, e11, e2, hb, l8, z0, z8, zz, nv, cond_true, cond_false, vintB, h1, if_true]
  · by_cases h2 : v < 16383
    · refine .suc (.suc ((bytes2 (w := v + 16384) (by omega) (by omega)).up.up.imp fun k hb R K => ?_))
      have t1 : decide (v ≥ 127) = true := by simp; omega
      have t2 : decide (v ≥ 16383) = false := by simp; omega
      have e2 : IntKind.i64.wrap (v + 16384) = v + 16384 := wrap64 (by omega) (by omega)
      simp only [f54, f54_s, f54_l5, most1, most2, t1, t2, e02, e12, e2, w2, hb, l8, l82, z0, z8, zz, nv, cond_true, cond_false, vintB, h1, h2, if_true, if_false]
    · refine .suc (.suc (.suc ((bytes3 (w := v + 2097152) (by omega) (by omega)).up.up.up.imp fun k hb R K => ?_)))
      have t1 : decide (v ≥ 127) = true := by simp; omega
      have t2 : decide (v ≥ 16383) = true := by simp; omega
      have t3 : decide (v ≥ 2097151) = false := by simp; omega
      have e2 : IntKind.i64.wrap (v + 2097152) = v + 2097152 := wrap64 (by omega) (by omega)
      simp only [f54, f54_s, f54_l5, most1, most2, most3, t1, t2, t3, e03, e13, e2, w2, w3, hb, l8, l82, l83, z0, z8, zz, nv, cond_true, cond_false, vintB, h1, h2, if_true, if_false]

end Go.Proofs.Ytklhjegfkpmdoaa

/-! Lists put behind one another; a Void of any number of bytes. -/
namespace Go.Proofs.Ytklhjegfkpmdoaa
open Go Go.Am

def sumL (l : List (List Int)) : Nat := (l.map List.length).sum
theorem sumL_cons (f : List Int) (l : List (List Int)) : sumL (f :: l) = f.length + sumL l := by simp [sumL]
theorem flat_len (l : List (List Int)) : l.flatten.length = sumL l := by simp [sumL, List.length_flatten]

theorem f53_sum (v : List (List Int)) (l : List (List Int)) (hl : l.length ≤ 1000) : ∀ i, i ≤ l.length → Ev fun k => ∀ (R : Type) (a : Nat) (X : List (List Int) → Int → Option R), a + sumL (l.drop i) ≤ 140737488355328 →
    f53_l3 f84 k v (a : Int) l (l.length : Int) (i : Int) X = X v ((a + sumL (l.drop i) : Nat) : Int) := by
  refine Ev.down l.length ?_ ?_
  · exact Ev.suc (.all fun k R a X _ => by simp [f53_l3, sumL])
  · intro i hi h
    refine Ev.suc (h.imp fun k hk R a X ha => ?_)
    rw [List.drop_eq_getElem_cons hi, sumL_cons] at ha ⊢
    have w : IntKind.i64.wrap ((a : Int) + (l[i].length : Int)) = ((a + l[i].length : Nat) : Int) := by rw [wrap64 (by omega) (by omega)]; omega
    have t : decide (((a + l[i].length : Nat) : Int) < 0) = false := by simp; omega
    rw [f53_l3, lt_nat, inb_nat, wrapSuc (by omega)]
    simp only [hi, decide_true, cond_true, Int.toNat_natCast, getD_get hi, w, t, cond_false]
    rw [hk R _ X (by omega)]
    congr 2; omega
theorem f53_cat (l : List (List Int)) (hl : l.length ≤ 1000) : ∀ i, i ≤ l.length → Ev fun k => ∀ (R : Type) (acc : List Int) (X : List Int → Option R), acc.length + sumL (l.drop i) ≤ 140737488355328 →
    f53_l11 f84 k l (l.length : Int) (i : Int) acc X = X (acc ++ (l.drop i).flatten) := by
  refine Ev.down l.length ?_ ?_
  · exact Ev.suc (.all fun k R a X _ => by simp [f53_l11])
  · intro i hi h
    refine Ev.suc (h.imp fun k hk R acc X ha => ?_)
    rw [List.drop_eq_getElem_cons hi] at ha ⊢
    rw [sumL_cons] at ha
    rw [f53_l11, lt_nat, inb_nat, wrapSuc (by omega)]
    simp only [hi, decide_true, cond_true, Int.toNat_natCast, getD_get hi]
    rw [room_ok (by omega), cond_true, hk R _ X (by rw [List.length_append]; omega), List.flatten_cons, List.append_assoc]
theorem f84_v {n : Nat} (h : n ≤ 140737488355328) (k : Nat) (R : Type) (K : List Int → Option R) : f84 k (n : Int) K = K [] := by
  have e0 : IntKind.i64.wrap (0 - 0) = 0 := by decide
  have e1 : IntKind.i64.wrap ((n : Int) - 0) = n := by rw [Int.sub_zero]; exact wrapNat (by omega)
  have t0 : decide ((n : Int) < 0) = false := decide_eq_false (by omega)
  simp only [f84, f84_s, e0, e1, t0, cond_false]
  cases n with
  | zero => simp
  | succ n =>
    have t1 : decide (((n + 1 : Nat) : Int) > 0) = true := decide_eq_true (by omega)
    have t2 : decide ((0 : Int) ≤ ((n + 1 : Nat) : Int)) = true := decide_eq_true (by omega)
    have t3 : decide (((n + 1 : Nat) : Int) * (1 : Nat) ≤ 140737488355328) = true := by simp; omega
    simp only [t1, t2, t3, cond_true, Bool.and_true, Int.toNat_natCast, List.length_replicate]
    rw [room_ok (by omega), upto_int (by omega) (by omega)]
    simp
theorem f53_v (l : List (List Int)) (hl : l.length ≤ 1000) (hs : sumL l ≤ 140737488355328) : Ev fun k => ∀ (R : Type) (K : List Int → Option R), f53 k l K = K l.flatten := by
  refine (f53_sum l l hl 0 (by omega)).imp2 (f53_cat l hl 0 (by omega)) fun k h1 h2 R K => ?_
  simp only [Int.natCast_zero, List.drop_zero] at h1 h2
  have h1 := h1 R 0 (fun v6 v7 => f84 k v7 fun v8 => f53_l11 f84 k v6 (v6.length : Int) 0 v8 fun v13 => K v13) (by omega)
  simp only [Int.natCast_zero, Nat.zero_add] at h1
  simp only [f53, f53_s]
  rw [h1, f84_v hs, h2 R [] _ (by simpa using hs), List.nil_append]

theorem f17_same (a : List Int) (k : Nat) (R : Type) (K : Bool → Option R) : f17 k a a K = K true := by
  simp [f17, f17_s]

/-! one of so many bytes -/
def padB (n : Nat) : List Int :=
  if n < 129 then 236 :: (c1 ((n - 2 : Nat) + 128) ++ List.replicate (n - 2) 0)
  else if n < 16386 then 236 :: (c2 ((n - 3 : Nat) + 16384) ++ List.replicate (n - 3) 0)
  else 236 :: (c3 ((n - 4 : Nat) + 2097152) ++ List.replicate (n - 4) 0)
theorem padB_len {n : Nat} (h : 2 ≤ n) : (padB n).length = n := by
  unfold padB; split
  · simp [c1]; omega
  · split
    · simp [c2]; omega
    · simp [c3]; omega

theorem put1 {v : Int} (h : 0 ≤ v) : Ev fun k => ∀ (R : Type) (K : Int → List Int → Option R), f52 k v 1 K = if v < 127 then K 0 (c1 (v + 128)) else K 1 [] := by
  have nn : ¬ v < 0 := by omega
  by_cases h1 : v < 127
  · have w : IntKind.u64.wrap v = v := wrapU64 h (by omega)
    refine (mark1 h (by omega)).imp fun k hm R K => ?_
    have t : decide (v ≥ 127) = false := by simp; omega
    simp [f52, f52_s, all1, t, w, hm, h1, nn]
  · refine .all fun k R K => ?_
    have t : decide (v ≥ 127) = true := by simp; omega
    simp [f52, f52_s, all1, t, h1, nn]
theorem put2 {v : Int} (h : 0 ≤ v) : Ev fun k => ∀ (R : Type) (K : Int → List Int → Option R), f52 k v 2 K = if v < 16383 then K 0 (c2 (v + 16384)) else K 1 [] := by
  have nn : ¬ v < 0 := by omega
  by_cases h1 : v < 16383
  · have w : IntKind.u64.wrap v = v := wrapU64 h (by omega)
    refine (mark2 h (by omega)).imp fun k hm R K => ?_
    have t : decide (v ≥ 16383) = false := by simp; omega
    simp [f52, f52_s, all2, t, w, hm, h1, nn]
  · refine .all fun k R K => ?_
    have t : decide (v ≥ 16383) = true := by simp; omega
    simp [f52, f52_s, all2, t, h1, nn]
theorem put3 {v : Int} (h : 0 ≤ v) (h1 : v < 2097151) : Ev fun k => ∀ (R : Type) (K : Int → List Int → Option R), f52 k v 3 K = K 0 (c3 (v + 2097152)) := by
  have nn : ¬ v < 0 := by omega
  have w : IntKind.u64.wrap v = v := wrapU64 h (by omega)
  refine (mark3 h (by omega)).imp fun k hm R K => ?_
  have t : decide (v ≥ 2097151) = false := by simp; omega
  simp [f52, f52_s, all3, t, w, hm, nn]
theorem rput1 {v : Int} (h : 0 ≤ v) : Ev fun k => ∀ (R : Type) (K : Int → List Int → Option R), f54 k v 1 K = if v < 127 then K 0 (c1 (v + 128)) else K 1 [] := by
  by_cases h1 : v < 127
  · exact (f54_n1 h h1).imp fun k hm R K => by rw [hm, if_pos h1]
  · refine .all fun k R K => ?_
    have nn : ¬ v < 0 := by omega
    have t : decide (v ≥ 127) = true := by simp; omega
    simp [f54, f54_s, most1, t, h1, nn]
theorem rput2 {v : Int} (h : 0 ≤ v) : Ev fun k => ∀ (R : Type) (K : Int → List Int → Option R), f54 k v 2 K = if v < 16383 then K 0 (c2 (v + 16384)) else K 1 [] := by
  by_cases h1 : v < 16383
  · exact (f54_n2 h h1).imp fun k hm R K => by rw [hm, if_pos h1]
  · refine .all fun k R K => ?_
    have nn : ¬ v < 0 := by omega
    have t : decide (v ≥ 16383) = true := by simp; omega
    simp [f54, f54_s, most2, t, h1, nn]

theorem f15_v (n : Int) : Ev fun k => ∀ (R : Type) (K : Int → List Int → Option R), f15 k n K = if n < 2 ∨ 1048576 < n then K 1 [] else K 0 (padB n.toNat) := by
  by_cases h : n < 2 ∨ 1048576 < n
  · refine .all fun k R K => ?_
    rw [if_pos h]
    by_cases h1 : n < 2
    · simp [f15, f15_s, h1]
    · have h2 : 1048576 < n := by omega
      simp [f15, f15_s, h1, h2]
  · obtain ⟨m, rfl⟩ : ∃ m : Nat, n = m := ⟨n.toNat, by omega⟩
    have w1 : IntKind.i64.wrap (IntKind.i64.wrap ((m : Int) - 1) - 1) = ((m - 2 : Nat) : Int) := by rw [wrap64 (by rw [wrap64 (by omega) (by omega)]; omega) (by rw [wrap64 (by omega) (by omega)]; omega), wrap64 (by omega) (by omega)]; omega
    have w2 : 129 ≤ m → IntKind.i64.wrap (IntKind.i64.wrap ((m : Int) - 1) - 2) = ((m - 3 : Nat) : Int) := fun _ => by rw [wrap64 (by rw [wrap64 (by omega) (by omega)]; omega) (by rw [wrap64 (by omega) (by omega)]; omega), wrap64 (by omega) (by omega)]; omega
    have w3 : 129 ≤ m → IntKind.i64.wrap (IntKind.i64.wrap ((m : Int) - 1) - 3) = ((m - 4 : Nat) : Int) := fun _ => by rw [wrap64 (by rw [wrap64 (by omega) (by omega)]; omega) (by rw [wrap64 (by omega) (by omega)]; omega), wrap64 (by omega) (by omega)]; omega
    have s1 : IntKind.i64.wrap (1 + 1) = 2 := by decide
    have s2 : IntKind.i64.wrap (2 + 1) = 3 := by decide
    have t1 : decide ((m : Int) < 2) = false := by simp; omega
    have t2 : decide ((m : Int) > 1048576) = false := by simp; omega
    have rm : ∀ q : Nat, q ≤ 1048576 → ((decide ((0 : Int) ≤ (q : Int)) && decide ((q : Int) ≤ (q : Int))) && decide ((q : Int) * ((1 : Nat) : Int) ≤ 140737488355328)) = true := fun q hq => by simp; omega
    rw [Int.toNat_natCast]
    by_cases a1 : m < 129
    · refine .suc ((put1 (v := ((m - 2 : Nat) : Int)) (by omega)).imp2 (f53_v [[236], c1 (((m - 2 : Nat) : Int) + 128), List.replicate (m - 2) 0] (by simp) (by simp [sumL, c1]; omega)) ?_)
      intro k h1 h2 R K
      have l1 : ((m - 2 : Nat) : Int) < 127 := by omega
      rw [if_neg h]
      simp only [f15, f15_s, f15_l5, t1, t2, cond_false, w1, h1, if_pos l1, beq_self_eq_true, cond_true, rm (m - 2) (by omega), Int.toNat_natCast, h2]
      unfold padB
      rw [if_pos a1]
      simp
    · have n1 : ¬ ((m - 2 : Nat) : Int) < 127 := by omega
      by_cases a2 : m < 16386
      · refine .suc (.suc ((put1 (v := ((m - 2 : Nat) : Int)) (by omega)).up.imp3 (put2 (v := ((m - 3 : Nat) : Int)) (by omega)) (f53_v [[236], c2 (((m - 3 : Nat) : Int) + 16384), List.replicate (m - 3) 0] (by simp) (by simp [sumL, c2]; omega)) ?_))
        intro k h1 h2 h3 R K
        have l2 : ((m - 3 : Nat) : Int) < 16383 := by omega
        have z1 : ((1 : Int) == 0) = false := by decide
        rw [if_neg h]
        simp only [f15, f15_s, f15_l5, t1, t2, cond_false, w1, h1, if_neg n1, z1, s1, w2 (by omega), h2, if_pos l2, beq_self_eq_true, cond_true, rm (m - 3) (by omega), Int.toNat_natCast, h3]
        unfold padB
        rw [if_neg a1, if_pos a2]
        simp
      · refine .suc (.suc (.suc ((put1 (v := ((m - 2 : Nat) : Int)) (by omega)).up.up.imp4 (put2 (v := ((m - 3 : Nat) : Int)) (by omega)).up (put3 (v := ((m - 4 : Nat) : Int)) (by omega) (by omega)) (f53_v [[236], c3 (((m - 4 : Nat) : Int) + 2097152), List.replicate (m - 4) 0] (by simp) (by simp [sumL, c3]; omega)) ?_)))
        intro k h1 h2 h3 h4 R K
        have n2 : ¬ ((m - 3 : Nat) : Int) < 16383 := by omega
        have z1 : ((1 : Int) == 0) = false := by decide
        rw [if_neg h]
        simp only [f15, f15_s, f15_l5, t1, t2, cond_false, w1, h1, if_neg n1, z1, s1, s2, w2 (by omega), w3 (by omega), h2, if_neg n2, h3, beq_self_eq_true, cond_true, rm (m - 4) (by omega), Int.toNat_natCast, h4]
        unfold padB
        rw [if_neg a1, if_neg a2]
        simp

theorem f16_v (n : Int) : Ev fun k => ∀ (R : Type) (K : Int → List Int → Option R), f16 k n K = if n < 2 ∨ 1048576 < n then K 1 [] else K 0 (padB n.toNat) := by
  by_cases h : n < 2 ∨ 1048576 < n
  · refine .all fun k R K => ?_
    rw [if_pos h]
    by_cases h1 : n < 2
    · simp [f16, f16_s, h1]
    · have h2 : 1048576 < n := by omega
      simp [f16, f16_s, h1, h2]
  · obtain ⟨m, rfl⟩ : ∃ m : Nat, n = m := ⟨n.toNat, by omega⟩
    have w1 : IntKind.i64.wrap (IntKind.i64.wrap ((m : Int) - 1) - 1) = ((m - 2 : Nat) : Int) := by rw [wrap64 (by rw [wrap64 (by omega) (by omega)]; omega) (by rw [wrap64 (by omega) (by omega)]; omega), wrap64 (by omega) (by omega)]; omega
    have w2 : 129 ≤ m → IntKind.i64.wrap (IntKind.i64.wrap ((m : Int) - 1) - 2) = ((m - 3 : Nat) : Int) := fun _ => by rw [wrap64 (by rw [wrap64 (by omega) (by omega)]; omega) (by rw [wrap64 (by omega) (by omega)]; omega), wrap64 (by omega) (by omega)]; omega
    have w3 : 129 ≤ m → IntKind.i64.wrap (IntKind.i64.wrap ((m : Int) - 1) - 3) = ((m - 4 : Nat) : Int) := fun _ => by rw [wrap64 (by rw [wrap64 (by omega) (by omega)]; omega) (by rw [wrap64 (by omega) (by omega)]; omega), wrap64 (by omega) (by omega)]; omega
    have s1 : IntKind.i64.wrap (1 + 1) = 2 := by decide
    have s2 : IntKind.i64.wrap (2 + 1) = 3 := by decide
    have t1 : decide ((m : Int) < 2) = false := by simp; omega
    have t2 : decide ((m : Int) > 1048576) = false := by simp; omega
    have l1 : decide ((1 : Int) ≤ 8) = true := by decide
    have l2 : decide ((2 : Int) ≤ 8) = true := by decide
    have l3 : decide ((3 : Int) ≤ 8) = true := by decide
    have z1 : ((1 : Int) == 0) = false := by decide
    have rm : ∀ q : Nat, q ≤ 1048576 → (decide ((0 : Int) ≤ (q : Int)) && decide ((q : Int) * ((1 : Nat) : Int) ≤ 140737488355328)) = true := fun q hq => by simp; omega
    rw [Int.toNat_natCast]
    by_cases a1 : m < 129
    · refine .suc ((rput1 (v := ((m - 2 : Nat) : Int)) (by omega)).imp ?_)
      intro k h1 R K
      have p1 : ((m - 2 : Nat) : Int) < 127 := by omega
      rw [if_neg h]
      simp only [f16, f16_s, f16_l4, t1, t2, cond_false, w1, l1, h1, if_pos p1, beq_self_eq_true, cond_true, rm (m - 2) (by omega), Int.toNat_natCast]
      rw [room_ok (by simp [c1]), room_ok (by simp [c1]; omega)]
      unfold padB
      rw [if_pos a1]
      simp
    · have n1 : ¬ ((m - 2 : Nat) : Int) < 127 := by omega
      by_cases a2 : m < 16386
      · refine .suc (.suc ((rput1 (v := ((m - 2 : Nat) : Int)) (by omega)).up.imp2 (rput2 (v := ((m - 3 : Nat) : Int)) (by omega)) ?_))
        intro k h1 h2 R K
        have p2 : ((m - 3 : Nat) : Int) < 16383 := by omega
        rw [if_neg h]
        simp only [f16, f16_s, f16_l4, t1, t2, cond_false, w1, l1, l2, h1, if_neg n1, z1, s1, w2 (by omega), h2, if_pos p2, beq_self_eq_true, cond_true, rm (m - 3) (by omega), Int.toNat_natCast]
        rw [room_ok (by simp [c2]), room_ok (by simp [c2]; omega)]
        unfold padB
        rw [if_neg a1, if_pos a2]
        simp
      · refine .suc (.suc (.suc ((rput1 (v := ((m - 2 : Nat) : Int)) (by omega)).up.up.imp3 (rput2 (v := ((m - 3 : Nat) : Int)) (by omega)).up (f54_n3 (v := ((m - 4 : Nat) : Int)) (by omega) (by omega)) ?_)))
        intro k h1 h2 h3 R K
        have n2 : ¬ ((m - 3 : Nat) : Int) < 16383 := by omega
        rw [if_neg h]
        simp only [f16, f16_s, f16_l4, t1, t2, cond_false, w1, l1, l2, l3, h1, if_neg n1, z1, s1, s2, w2 (by omega), w3 (by omega), h2, if_neg n2, h3, beq_self_eq_true, cond_true, rm (m - 4) (by omega), Int.toNat_natCast]
        rw [room_ok (by simp [c3]), room_ok (by simp [c3]; omega)]
        unfold padB
        rw [if_neg a1, if_neg a2]
        simp

theorem elementPads_plain (n : Int) : ∃ k, f3 (R := Bool) k n some = some true := by
  refine Ev.some ?_
  refine (f15_v n).imp3 (f16_v n) awake_v fun k h1 h2 h3 => ?_
  by_cases h : n < 2 ∨ 1048576 < n
  · simp only [f3, f3_s, h1, h2, if_pos h, f17_same, cond_true, h3]
    simp
  · have hl : (padB n.toNat).length = n.toNat := padB_len (by omega)
    have t : (((padB n.toNat).length : Int) == n) = true := by rw [hl]; simp; omega
    simp only [f3, f3_s, h1, h2, if_neg h, f17_same, cond_true, h3, t]
    simp
end Go.Proofs.Ytklhjegfkpmdoaa

/-! Ids: how many bytes they have, their numbers, and what is one. -/
namespace Go.Proofs.Ytklhjegfkpmdoaa
open Go Go.Am

theorem reachV : reachBytes = 140737488351232 := rfl
def okBy (b : List Int) : Prop := ∀ n ∈ b, 0 ≤ n ∧ n < 256
theorem okBy.drop {b : List Int} (h : okBy b) (i : Nat) : okBy (b.drop i) := fun n hn => h n (List.mem_of_mem_drop hn)
theorem okBy.take {b : List Int} (h : okBy b) (i : Nat) : okBy (b.take i) := fun n hn => h n (List.mem_of_mem_take hn)
theorem okBy.get {b : List Int} (h : okBy b) {i : Nat} (hi : i < b.length) : 0 ≤ b[i] ∧ b[i] < 256 := h _ (List.getElem_mem hi)
def valF (l : List Int) (v : Int) : Int := l.foldl (fun v c => v * 256 + c) v
theorem valF_cons (c : Int) (l : List Int) (v : Int) : valF (c :: l) v = valF l (v * 256 + c) := rfl
theorem pow_pos256 (n : Nat) : (0 : Int) < 256 ^ n := Int.pow_pos (by decide)
theorem valF_bound : ∀ {l : List Int}, okBy l → ∀ (v : Int), v * 256 ^ l.length ≤ valF l v ∧ valF l v < (v + 1) * 256 ^ l.length
  | [], _, v => by simp [valF]; omega
  | c :: l, h, v => by
    have hc := h c (by simp)
    obtain ⟨h1, h2⟩ := valF_bound (l := l) (fun n hn => h n (by simp [hn])) (v * 256 + c)
    have hp := pow_pos256 l.length
    rw [valF_cons, List.length_cons, Int.pow_succ, Int.mul_comm (256 ^ l.length) 256, ← Int.mul_assoc, ← Int.mul_assoc]
    constructor
    · refine Int.le_trans ?_ h1
      exact Int.mul_le_mul_of_nonneg_right (by omega) (Int.le_of_lt hp)
    · refine Int.lt_of_lt_of_le h2 ?_
      exact Int.mul_le_mul_of_nonneg_right (by omega) (Int.le_of_lt hp)

/-! bits -/
theorem ofInt_nat {n : Nat} (h : n < 18446744073709551616) : (BitVec.ofInt 64 (n : Int)).toNat = n := by
  rw [BitVec.toNat_ofInt]
  have e : (2 ^ 64 : Nat) = 18446744073709551616 := by decide
  rw [e, Int.emod_eq_of_lt (by omega) (by omega)]
  omega
theorem or_byteU {a c : Int} (h : 0 ≤ a) (h' : a < 72057594037927936) (hc : 0 ≤ c) (hc' : c < 256) : orI .u64 (shlI .u64 a 8) (IntKind.u64.wrap c) = a * 256 + c := by
  obtain ⟨n, rfl⟩ : ∃ n : Nat, a = n := ⟨a.toNat, by omega⟩
  obtain ⟨m, rfl⟩ : ∃ n : Nat, c = n := ⟨c.toNat, by omega⟩
  have s : shlI .u64 (n : Int) 8 = ((256 * n : Nat) : Int) := by
    have : (min (8 : Int).toNat IntKind.u64.bits) = 8 := rfl
    unfold shlI
    rw [this]
    have e : (n : Int) * 2 ^ 8 = ((256 * n : Nat) : Int) := by
      have : (2 : Int) ^ 8 = 256 := by decide
      rw [this]; omega
    rw [e, wrapU64 (by omega) (by omega)]
  rw [s, wrapU64 (by omega) (by omega)]
  have e1 : (BitVec.ofInt IntKind.u64.bits ((256 * n : Nat) : Int)).toNat = 256 * n := ofInt_nat (by omega)
  have e2 : (BitVec.ofInt IntKind.u64.bits (m : Int)).toNat = m := ofInt_nat (by omega)
  unfold orI
  rw [BitVec.toNat_or, e1, e2]
  have e3 : 256 * n = 2 ^ 8 * n := rfl
  rw [e3, ← Nat.two_pow_add_eq_or_of_lt (i := 8) (by omega) n, wrapU64 (by omega) (by omega)]
  omega
theorem and_mask {v : Nat} {m : Nat} (h : v < 9223372036854775808) (hm : m ≤ 60) : andI .i64 (v : Int) ((2 ^ m - 1 : Nat) : Int) = ((v % 2 ^ m : Nat) : Int) := by
  have h3 : 2 ^ m ≤ 2 ^ 60 := Nat.pow_le_pow_right (by decide) hm
  have h4 : (2 : Nat) ^ 60 = 1152921504606846976 := by decide
  have e1 : (BitVec.ofInt IntKind.i64.bits (v : Int)).toNat = v := ofInt_nat (by omega)
  have e2 : (BitVec.ofInt IntKind.i64.bits ((2 ^ m - 1 : Nat) : Int)).toNat = 2 ^ m - 1 := ofInt_nat (by omega)
  unfold andI
  rw [BitVec.toNat_and, e1, e2, Nat.and_two_pow_sub_one_eq_mod]
  have := Nat.mod_le v (2 ^ m)
  exact wrapNat (by omega)

/-! how many bytes -/
def idLen (c : Int) : Nat := if 128 ≤ c then 1 else if 64 ≤ c then 2 else if 32 ≤ c then 3 else if 16 ≤ c then 4 else 0
def idC (c : Nat) : Bool := decide ((shrI .u8 (c : Int) 7 == 1) = decide (128 ≤ c) ∧ (c < 128 → (shrI .u8 (c : Int) 6 == 1) = decide (64 ≤ c)) ∧ (c < 64 → (shrI .u8 (c : Int) 5 == 1) = decide (32 ≤ c)) ∧ (c < 32 → (shrI .u8 (c : Int) 4 == 1) = decide (16 ≤ c)))
theorem idC_all : (List.range 256).all idC = true := by kernel_rfl
theorem f63_v {c : Int} (h : 0 ≤ c) (h' : c < 256) : Ev fun k => ∀ (R : Type) (K : Int → Option R), f63 k c K = K (idLen c : Int) := by
  obtain ⟨n, rfl⟩ : ∃ n : Nat, c = n := ⟨c.toNat, by omega⟩
  have hn := of_decide_eq_true (List.all_eq_true.1 idC_all n (by simp; omega))
  obtain ⟨q1, q2, q3, q4⟩ := hn
  have w1 : IntKind.i64.wrap (8 - 1) = 7 := by decide
  have w2 : IntKind.i64.wrap (8 - 2) = 6 := by decide
  have w3 : IntKind.i64.wrap (8 - 3) = 5 := by decide
  have w4 : IntKind.i64.wrap (8 - 4) = 4 := by decide
  have s1 : IntKind.i64.wrap (1 + 1) = 2 := by decide
  have s2 : IntKind.i64.wrap (2 + 1) = 3 := by decide
  have s3 : IntKind.i64.wrap (3 + 1) = 4 := by decide
  have s4 : IntKind.i64.wrap (4 + 1) = 5 := by decide
  have l1 : decide ((1 : Int) ≤ 4) = true := by decide
  have l2 : decide ((2 : Int) ≤ 4) = true := by decide
  have l3 : decide ((3 : Int) ≤ 4) = true := by decide
  have l4 : decide ((4 : Int) ≤ 4) = true := by decide
  have l5 : decide ((5 : Int) ≤ 4) = false := by decide
  have n7 : decide ((7 : Int) < 0) = false := by decide
  have n6 : decide ((6 : Int) < 0) = false := by decide
  have n5 : decide ((5 : Int) < 0) = false := by decide
  have n4 : decide ((4 : Int) < 0) = false := by decide
  refine .suc (.suc (.suc (.suc (.suc (.all fun k R K => ?_)))))
  simp only [f63, f63_s, f63_l2, w1, w2, w3, w4, s1, s2, s3, s4, l1, l2, l3, l4, l5, n7, n6, n5, n4, cond_true, cond_false, q1]
  by_cases h1 : 128 ≤ n
  · simp [h1, idLen]; rw [if_pos (by omega)]; rfl
  · rw [q2 (by omega)]
    by_cases h2 : 64 ≤ n
    · simp [h1, h2, idLen]; rw [if_neg (by omega), if_pos (by omega)]; rfl
    · rw [q3 (by omega)]
      by_cases h3 : 32 ≤ n
      · simp [h1, h2, h3, idLen]; rw [if_neg (by omega), if_neg (by omega), if_pos (by omega)]; rfl
      · rw [q4 (by omega)]
        by_cases h4 : 16 ≤ n
        · simp [h1, h2, h3, h4, idLen]; rw [if_neg (by omega), if_neg (by omega), if_neg (by omega), if_pos (by omega)]; rfl
        · simp [h1, h2, h3, h4, idLen]; rw [if_neg (by omega), if_neg (by omega), if_neg (by omega), if_neg (by omega)]; rfl
theorem f65_v {c : Int} (h : 0 ≤ c) (h' : c < 256) : Ev fun k => ∀ (R : Type) (K : Int → Option R), f65 k c K = K (idLen c : Int) := by
  have w : IntKind.i64.wrap c = c := wrap64 (by omega) (by omega)
  have s1 : IntKind.i64.wrap (1 + 1) = 2 := by decide
  have s2 : IntKind.i64.wrap (2 + 1) = 3 := by decide
  have s3 : IntKind.i64.wrap (3 + 1) = 4 := by decide
  have s4 : IntKind.i64.wrap (4 + 1) = 5 := by decide
  have d1 : IntKind.i64.wrap ((128 : Int).tdiv 2) = 64 := by decide
  have d2 : IntKind.i64.wrap ((64 : Int).tdiv 2) = 32 := by decide
  have d3 : IntKind.i64.wrap ((32 : Int).tdiv 2) = 16 := by decide
  have d4 : IntKind.i64.wrap ((16 : Int).tdiv 2) = 8 := by decide
  have l1 : decide ((1 : Int) ≤ 4) = true := by decide
  have l2 : decide ((2 : Int) ≤ 4) = true := by decide
  have l3 : decide ((3 : Int) ≤ 4) = true := by decide
  have l4 : decide ((4 : Int) ≤ 4) = true := by decide
  have l5 : decide ((5 : Int) ≤ 4) = false := by decide
  refine .suc (.suc (.suc (.suc (.suc (.all fun k R K => ?_)))))
  simp only [f65, f65_s, f65_l2, w, s1, s2, s3, s4, d1, d2, d3, d4, l1, l2, l3, l4, l5, cond_true, cond_false]
  have g1 : decide ((1 : Int) > 4) = false := by decide
  have g2 : decide ((2 : Int) > 4) = false := by decide
  have g3 : decide ((3 : Int) > 4) = false := by decide
  have g4 : decide ((4 : Int) > 4) = false := by decide
  have g5 : decide ((5 : Int) > 4) = true := by decide
  unfold idLen
  by_cases h1 : 128 ≤ c
  · rw [decide_eq_false (show ¬ c < 128 by omega), if_pos h1]
    simp only [cond_false, g1]; rfl
  · rw [decide_eq_true (show c < 128 by omega), if_neg h1]
    by_cases h2 : 64 ≤ c
    · rw [decide_eq_false (show ¬ c < 64 by omega), if_pos h2]
      simp only [cond_true, cond_false, g2]; rfl
    · rw [decide_eq_true (show c < 64 by omega), if_neg h2]
      by_cases h3 : 32 ≤ c
      · rw [decide_eq_false (show ¬ c < 32 by omega), if_pos h3]
        simp only [cond_true, cond_false, g3]; rfl
      · rw [decide_eq_true (show c < 32 by omega), if_neg h3]
        by_cases h4 : 16 ≤ c
        · rw [decide_eq_false (show ¬ c < 16 by omega), if_pos h4]
          simp only [cond_true, cond_false, g4]; rfl
        · rw [decide_eq_true (show c < 16 by omega), if_neg h4]
          simp only [cond_true, g5]; rfl

/-! the number -/
theorem f64_loop (l : List Int) (hl : okBy l) (h8 : l.length ≤ 8) : ∀ i, i ≤ l.length → Ev fun k => ∀ (R : Type) (v : Int) (X : Int → Option R), 0 ≤ v → v < 256 ^ i → f64_l7 k v l (l.length : Int) (i : Int) X = X (valF (l.drop i) v) := by
  refine Ev.down l.length ?_ ?_
  · exact Ev.suc (.all fun k R v X _ _ => by simp [f64_l7, valF])
  · intro i hi h
    refine Ev.suc (h.imp fun k hk R v X h0 h1 => ?_)
    have hc := hl.get hi
    have hp : (256 : Int) ^ i ≤ 72057594037927936 := by
      have h2 : (256 : Nat) ^ i ≤ 72057594037927936 := Nat.le_trans (Nat.pow_le_pow_right (by decide) (show i ≤ 7 by omega)) (by decide)
      have e : ((256 ^ i : Nat) : Int) = (256 : Int) ^ i := Int.natCast_pow 256 i
      omega
    have ho := or_byteU h0 (by omega) hc.1 hc.2
    rw [f64_l7, lt_nat, inb_nat, wrapSuc (by omega)]
    simp only [hi, decide_true, cond_true, Int.toNat_natCast, getD_get hi, ho]
    have hv : v * 256 + l[i] < 256 ^ (i + 1) := by
      rw [Int.pow_succ]; omega
    rw [hk R _ X (by omega) hv, List.drop_eq_getElem_cons hi, valF_cons]

/-- The number of so many bytes at a place. -/
def numB (b : List Int) (at_ n : Nat) : Int := valF ((b.drop at_).take n) 0
theorem numB_bound {b : List Int} (hb : okBy b) {at_ n : Nat} (h : at_ + n ≤ b.length) : 0 ≤ numB b at_ n ∧ numB b at_ n < 256 ^ n := by
  have := valF_bound ((hb.drop at_).take n) 0
  have e : ((b.drop at_).take n).length = n := by simp; omega
  rw [e] at this
  unfold numB
  omega
theorem f64_v (b : List Int) (hb : okBy b) (hl : b.length ≤ reachBytes) {at_ n : Nat} (h1 : 1 ≤ n) (h8 : n ≤ 8) (h : at_ + n ≤ b.length) : Ev fun k => ∀ (R : Type) (K : Int → Int → Option R),
    f64 k b (at_ : Int) (n : Int) K = if 9223372036854775807 < numB b at_ n then K 0 1 else K (numB b at_ n) 0 := by
  rw [reachV] at hl
  have e : (b.take (at_ + n)).drop at_ = (b.drop at_).take n := by rw [List.drop_take]; congr 1; omega
  have el : ((b.drop at_).take n).length = n := by simp; omega
  refine (f64_loop ((b.drop at_).take n) ((hb.drop at_).take n) (by omega) 0 (by omega)).imp fun k hk R K => ?_
  have t1 : decide ((n : Int) < 1) = false := decide_eq_false (by omega)
  have t2 : decide ((n : Int) > 8) = false := decide_eq_false (by omega)
  have t3 : decide ((at_ : Int) < 0) = false := decide_eq_false (by omega)
  have t4 : decide ((at_ : Int) > (b.length : Int)) = false := decide_eq_false (by omega)
  have w1 : IntKind.i64.wrap ((b.length : Int) - (at_ : Int)) = ((b.length - at_ : Nat) : Int) := by rw [wrap64 (by omega) (by omega)]; omega
  have w2 : IntKind.i64.wrap ((at_ : Int) + (n : Int)) = ((at_ + n : Nat) : Int) := by rw [wrap64 (by omega) (by omega)]; omega
  have t5 : decide (((b.length - at_ : Nat) : Int) < (n : Int)) = false := decide_eq_false (by omega)
  have t6 : decide ((0 : Int) ≤ (at_ : Int)) = true := decide_eq_true (by omega)
  have t7 : decide ((at_ : Int) ≤ ((at_ + n : Nat) : Int)) = true := decide_eq_true (by omega)
  simp only [Int.natCast_zero, List.drop_zero] at hk
  simp only [f64, f64_s, t1, t2, t3, t4, w1, w2, t5, t6, t7, cond_false, upto_nat, h, decide_true, Bool.and_self, cond_true, Int.toNat_natCast, e]
  rw [hk R 0 _ (by omega) (by decide)]
  have hbd := numB_bound hb h
  show (bif decide (numB b at_ n > 9223372036854775807) then K 0 1 else K (IntKind.i64.wrap (numB b at_ n)) 0) = _
  by_cases hx : 9223372036854775807 < numB b at_ n
  · rw [if_pos hx, decide_eq_true (show numB b at_ n > 9223372036854775807 from hx)]; rfl
  · rw [if_neg hx, decide_eq_false (show ¬ numB b at_ n > 9223372036854775807 from hx), wrap64 (by omega) (by omega)]; rfl
theorem f64_short (b : List Int) (hl : b.length ≤ reachBytes) {at_ n : Nat} (h1 : 1 ≤ n) (h8 : n ≤ 8) (ha : at_ ≤ b.length) (h : b.length - at_ < n) (k : Nat) (R : Type) (K : Int → Int → Option R) :
    f64 k b (at_ : Int) (n : Int) K = K 0 3 := by
  rw [reachV] at hl
  have t1 : decide ((n : Int) < 1) = false := decide_eq_false (by omega)
  have t2 : decide ((n : Int) > 8) = false := decide_eq_false (by omega)
  have t3 : decide ((at_ : Int) < 0) = false := decide_eq_false (by omega)
  have t4 : decide ((at_ : Int) > (b.length : Int)) = false := decide_eq_false (by omega)
  have w1 : IntKind.i64.wrap ((b.length : Int) - (at_ : Int)) = ((b.length - at_ : Nat) : Int) := by rw [wrap64 (by omega) (by omega)]; omega
  have t5 : decide (((b.length - at_ : Nat) : Int) < (n : Int)) = true := decide_eq_true (by omega)
  simp only [f64, f64_s, t1, t2, t3, t4, w1, t5, cond_false, cond_true]
end Go.Proofs.Ytklhjegfkpmdoaa

/-! The id at a place. -/
namespace Go.Proofs.Ytklhjegfkpmdoaa
open Go Go.Am

theorem idLen_range (c : Int) : idLen c ≤ 4 := by unfold idLen; split; omega; split; omega; split; omega; split <;> omega
/-- By its first byte. -/
theorem idLen_first {c : Int} (h' : c < 256) {n : Nat} (hn : idLen c = n) (h1 : 1 ≤ n) : (2 : Int) ^ (8 - n) ≤ c ∧ c < 2 ^ (9 - n) := by
  unfold idLen at hn
  split at hn
  · subst hn; exact ⟨by simpa using ‹128 ≤ c›, by simpa using h'⟩
  · split at hn
    · subst hn; exact ⟨by simpa using ‹64 ≤ c›, by simp; omega⟩
    · split at hn
      · subst hn; exact ⟨by simpa using ‹32 ≤ c›, by simp; omega⟩
      · split at hn
        · subst hn; exact ⟨by simpa using ‹16 ≤ c›, by simp; omega⟩
        · omega
/-- A number with the mark of so many bytes. -/
def Marked (v : Int) (n : Nat) : Prop := (2 : Int) ^ (7 * n) ≤ v ∧ v < 2 * 2 ^ (7 * n)
theorem marked_id {b : List Int} (hb : okBy b) {at_ n : Nat} (hat : at_ < b.length) (hn : idLen b[at_] = n) (h1 : 1 ≤ n) (h : at_ + n ≤ b.length) : Marked (numB b at_ n) n := by
  have hc := hb.get hat
  obtain ⟨l1, l2⟩ := idLen_first hc.2 hn h1
  have h4 : n ≤ 4 := by rw [← hn]; exact idLen_range _
  have e : (b.drop at_).take n = b[at_] :: (b.drop (at_ + 1)).take (n - 1) := by
    rw [List.drop_eq_getElem_cons hat]
    obtain ⟨m, rfl⟩ : ∃ m, n = m + 1 := ⟨n - 1, by omega⟩
    rw [List.take_succ_cons]; rfl
  have hv := valF_bound ((hb.drop (at_ + 1)).take (n - 1)) (0 * 256 + b[at_])
  have el : ((b.drop (at_ + 1)).take (n - 1)).length = n - 1 := by simp; omega
  have ev : numB b at_ n = valF ((b.drop (at_ + 1)).take (n - 1)) (0 * 256 + b[at_]) := by unfold numB; rw [e, valF_cons]
  rw [el, ← ev] at hv
  have : n = 1 ∨ n = 2 ∨ n = 3 ∨ n = 4 := by omega
  unfold Marked
  rcases this with rfl | rfl | rfl | rfl <;> simp at l1 l2 hv ⊢ <;> omega

def isIdB (v : Int) (n : Nat) : Bool := decide (2 ^ (7 * n) < v ∧ v < 2 * 2 ^ (7 * n) - 1)
theorem f60_v {v : Int} {n : Nat} (h1 : 1 ≤ n) (h4 : n ≤ 4) (h : Marked v n) (k : Nat) (R : Type) (K : Bool → Option R) : f60 k v (n : Int) K = K (isIdB v n) := by
  obtain ⟨l1, l2⟩ := h
  obtain ⟨m, rfl⟩ : ∃ m : Nat, v = m := ⟨v.toNat, by
    have : (0 : Int) < 2 ^ (7 * n) := Int.pow_pos (by decide)
    omega⟩
  have main : ∀ (p : Nat), p ≤ 28 → (2 : Nat) ^ p ≤ m → m < 2 * 2 ^ p → andI .i64 (m : Int) ((2 ^ p - 1 : Nat) : Int) = ((m - 2 ^ p : Nat) : Int) := by
    intro p hp a1 a2
    have hb : (2 : Nat) ^ p ≤ 2 ^ 28 := Nat.pow_le_pow_right (by decide) hp
    have e28 : (2 : Nat) ^ 28 = 268435456 := by decide
    rw [and_mask (by omega) (by omega)]
    congr 1
    rw [Nat.mod_eq_sub_mod (by omega), Nat.mod_eq_of_lt (by omega)]
  have fin : ∀ (p : Nat) (x : Int), p ≤ 28 → (2 : Nat) ^ p ≤ m → m < 2 * 2 ^ p → x = ((2 ^ p - 1 : Nat) : Int) → 2 ≤ p → (bif (andI .i64 (m : Int) x != 0) then K (andI .i64 (m : Int) x != x) else K false) = K (decide ((2 : Int) ^ p < m ∧ (m : Int) < 2 * 2 ^ p - 1)) := by
    intro p x hp a1 a2 hx h2
    have e0 : ((2 ^ p : Nat) : Int) = (2 : Int) ^ p := Int.natCast_pow 2 p
    have hb : (2 : Nat) ^ 2 ≤ 2 ^ p := Nat.pow_le_pow_right (by decide) h2
    subst hx
    rw [main p hp a1 a2, bne_dec, bne_dec]
    by_cases z : m = 2 ^ p
    · rw [decide_eq_true (show ((m - 2 ^ p : Nat) : Int) = 0 by omega), decide_eq_false (show ¬ ((2 : Int) ^ p < m ∧ (m : Int) < 2 * 2 ^ p - 1) by omega)]; rfl
    · rw [decide_eq_false (show ¬ ((m - 2 ^ p : Nat) : Int) = 0 by omega)]
      simp only [Bool.not_false, cond_true]
      by_cases y : m = 2 * 2 ^ p - 1
      · rw [decide_eq_true (show ((m - 2 ^ p : Nat) : Int) = ((2 ^ p - 1 : Nat) : Int) by omega), decide_eq_false (show ¬ ((2 : Int) ^ p < m ∧ (m : Int) < 2 * 2 ^ p - 1) by omega)]; rfl
      · rw [decide_eq_false (show ¬ ((m - 2 ^ p : Nat) : Int) = ((2 ^ p - 1 : Nat) : Int) by omega), decide_eq_true (show ((2 : Int) ^ p < m ∧ (m : Int) < 2 * 2 ^ p - 1) by omega)]; rfl
  have nat : ∀ p : Nat, (2 : Int) ^ p ≤ (m : Int) → (m : Int) < 2 * 2 ^ p → (2 : Nat) ^ p ≤ m ∧ m < 2 * 2 ^ p := by
    intro p a b
    have e0 : ((2 ^ p : Nat) : Int) = (2 : Int) ^ p := Int.natCast_pow 2 p
    omega
  obtain ⟨b1, b2⟩ := nat _ l1 l2
  have : n = 1 ∨ n = 2 ∨ n = 3 ∨ n = 4 := by omega
  unfold isIdB
  rcases this with rfl | rfl | rfl | rfl
  · exact fin 7 _ (by decide) b1 b2 (by decide) (by decide)
  · exact fin 14 _ (by decide) b1 b2 (by decide) (by decide)
  · exact fin 21 _ (by decide) b1 b2 (by decide) (by decide)
  · exact fin 28 _ (by decide) b1 b2 (by decide) (by decide)
theorem f62_v (v : Int) {n : Nat} (h1 : 1 ≤ n) (h4 : n ≤ 4) : Ev fun k => ∀ (R : Type) (K : Bool → Option R), f62 k v (n : Int) K = K (isIdB v n) := by
  have fin : ∀ (p : Int), p > 0 → p < 1000000000 → ∀ (R : Type) (K : Bool → Option R), (bif decide (v > p) then K (decide (v < IntKind.i64.wrap (IntKind.i64.wrap (2 * p) - 1))) else K false) = K (decide (p < v ∧ v < 2 * p - 1)) := by
    intro p h0 hp R K
    have w1 : IntKind.i64.wrap (2 * p) = 2 * p := wrap64 (by omega) (by omega)
    have w2 : IntKind.i64.wrap (2 * p - 1) = 2 * p - 1 := wrap64 (by omega) (by omega)
    rw [w1, w2]
    by_cases a : v > p
    · rw [decide_eq_true a]
      by_cases b : v < 2 * p - 1
      · rw [decide_eq_true b, decide_eq_true (show p < v ∧ v < 2 * p - 1 from ⟨a, b⟩)]; rfl
      · rw [decide_eq_false b, decide_eq_false (show ¬ (p < v ∧ v < 2 * p - 1) from fun h => b h.2)]; rfl
    · rw [decide_eq_false a, decide_eq_false (show ¬ (p < v ∧ v < 2 * p - 1) from fun h => a h.1)]; rfl
  unfold isIdB
  have : n = 1 ∨ n = 2 ∨ n = 3 ∨ n = 4 := by omega
  rcases this with rfl | rfl | rfl | rfl
  · exact .suc (.suc (.all fun k R K => fin 128 (by decide) (by decide) R K))
  · exact .suc (.suc (.suc (.all fun k R K => fin 16384 (by decide) (by decide) R K)))
  · exact .suc (.suc (.suc (.suc (.all fun k R K => fin 2097152 (by decide) (by decide) R K))))
  · exact .suc (.suc (.suc (.suc (.suc (.all fun k R K => fin 268435456 (by decide) (by decide) R K)))))

/-- The id at a place, how many bytes it has, the error. -/
def idR (b : List Int) (at_ : Int) : Int × Int × Int :=
  if at_ < 0 then (0, 0, 1)
  else if (b.length : Int) ≤ at_ then (0, 0, 3)
  else
    let n := idLen (b.getD at_.toNat 0)
    if n = 0 then (0, 0, 40) else if b.length - at_.toNat < n then (0, 0, 3) else if isIdB (numB b at_.toNat n) n = false then (0, 0, 40) else (numB b at_.toNat n, (n : Int), 0)

theorem f29_v (b : List Int) (hb : okBy b) (hl : b.length ≤ reachBytes) (at_ : Int) : Ev fun k => ∀ (R : Type) (K : Int → Int → Int → Option R), f29 k b at_ K = K (idR b at_).1 (idR b at_).2.1 (idR b at_).2.2 := by
  unfold idR
  by_cases h0 : at_ < 0
  · refine .all fun k R K => ?_
    rw [if_pos h0]; simp [f29, f29_s, h0]
  · obtain ⟨p, rfl⟩ : ∃ p : Nat, at_ = p := ⟨at_.toNat, by omega⟩
    rw [if_neg h0]
    by_cases h1 : (b.length : Int) ≤ (p : Int)
    · refine .all fun k R K => ?_
      have t : decide ((p : Int) ≥ (b.length : Int)) = true := decide_eq_true h1
      rw [if_pos h1]
      simp only [f29, f29_s, decide_eq_false h0, cond_false, t, cond_true]
    · have hp : p < b.length := by omega
      have t : decide ((p : Int) ≥ (b.length : Int)) = false := decide_eq_false (by omega)
      have hc := hb.get hp
      rw [if_neg h1]
      simp only [Int.toNat_natCast, getD_get hp]
      generalize hn : idLen b[p] = n
      have h63 := f63_v hc.1 hc.2
      rw [hn] at h63
      have h4 : n ≤ 4 := by rw [← hn]; exact idLen_range _
      by_cases z : n = 0
      · refine h63.imp fun k h63 R K => ?_
        rw [if_pos z]
        subst z
        simp only [f29, f29_s, decide_eq_false h0, cond_false, t, inb_nat, hp, decide_true, cond_true, Int.toNat_natCast, getD_get hp, h63]
        rfl
      · rw [if_neg z]
        have zz : ((n : Int) == 0) = false := by rw [beq_dec]; exact decide_eq_false (by omega)
        by_cases sh : b.length - p < n
        · refine h63.imp fun k h63 R K => ?_
          rw [if_pos sh]
          simp only [f29, f29_s, decide_eq_false h0, cond_false, t, inb_nat, hp, decide_true, cond_true, Int.toNat_natCast, getD_get hp, h63, zz, f64_short b hl (show 1 ≤ n by omega) (show n ≤ 8 by omega) (show p ≤ b.length by omega) sh]
          rfl
        · rw [if_neg sh]
          have mk := marked_id hb hp hn (by omega) (by omega)
          have nb := numB_bound hb (at_ := p) (n := n) (by omega)
          have big : ¬ 9223372036854775807 < numB b p n := by
            have := mk.2
            have e : n = 1 ∨ n = 2 ∨ n = 3 ∨ n = 4 := by omega
            rcases e with rfl | rfl | rfl | rfl <;> simp at this <;> omega
          refine h63.imp2 (f64_v b hb hl (show 1 ≤ n by omega) (show n ≤ 8 by omega) (show p + n ≤ b.length by omega)) fun k h63 h64 R K => ?_
          simp only [f29, f29_s, decide_eq_false h0, cond_false, t, inb_nat, hp, decide_true, cond_true, Int.toNat_natCast, getD_get hp, h63, zz, h64, if_neg big]
          simp only [f60_v (show 1 ≤ n by omega) h4 mk]
          cases isIdB (numB b p n) n with
          | true => simp
          | false => simp

theorem f30_loop (b : List Int) (hb : okBy b) (hl : b.length ≤ reachBytes) {at_ n : Nat} (h4 : n ≤ 4) (h : at_ + n ≤ b.length) : ∀ i, i ≤ n → Ev fun k => ∀ (R : Type) (v : Int) (X : Int → Int → Option R), 0 ≤ v → v < 256 ^ i → f30_l12 f65 f62 k b (at_ : Int) (n : Int) v (i : Int) X = X (n : Int) (valF (((b.drop at_).take n).drop i) v) := by
  rw [reachV] at hl
  have el : ((b.drop at_).take n).length = n := by simp; omega
  refine Ev.down n ?_ ?_
  · exact Ev.suc (.all fun k R v X _ _ => by
      have e : ((b.drop at_).take n).drop n = [] := List.drop_eq_nil_of_le (by omega)
      simp [f30_l12, valF, e])
  · intro i hi hh
    refine Ev.suc (hh.imp fun k hk R v X h0 h1 => ?_)
    have hi2 : at_ + i < b.length := by omega
    have hc := hb.get hi2
    have hp : (256 : Int) ^ i ≤ 16777216 := by
      have h2 : (256 : Nat) ^ i ≤ 16777216 := Nat.le_trans (Nat.pow_le_pow_right (by decide) (show i ≤ 3 by omega)) (by decide)
      have e : ((256 ^ i : Nat) : Int) = (256 : Int) ^ i := Int.natCast_pow 256 i
      omega
    have w1 : IntKind.i64.wrap ((at_ : Int) + (i : Int)) = ((at_ + i : Nat) : Int) := by rw [wrap64 (by omega) (by omega)]; omega
    have w2 : IntKind.i64.wrap (v * 256) = v * 256 := wrap64 (by omega) (by omega)
    have w3 : IntKind.i64.wrap b[at_ + i] = b[at_ + i] := wrap64 (by omega) (by omega)
    have w4 : IntKind.i64.wrap (v * 256 + b[at_ + i]) = v * 256 + b[at_ + i] := wrap64 (by omega) (by omega)
    have ed : ((b.drop at_).take n).drop i = b[at_ + i] :: ((b.drop at_).take n).drop (i + 1) := by
      rw [List.drop_eq_getElem_cons (by omega)]
      congr 1
      simp
    rw [f30_l12, lt_nat, w1, inb_nat, wrapSuc (by omega)]
    simp only [hi, hi2, decide_true, cond_true, Int.toNat_natCast, getD_get hi2, w2, w3, w4]
    have hv : v * 256 + b[at_ + i] < 256 ^ (i + 1) := by
      rw [Int.pow_succ]; omega
    rw [hk R _ X (by omega) hv, ed, valF_cons]

theorem f30_v (b : List Int) (hb : okBy b) (hl : b.length ≤ reachBytes) (at_ : Int) : Ev fun k => ∀ (R : Type) (K : Int → Int → Int → Option R), f30 k b at_ K = K (idR b at_).1 (idR b at_).2.1 (idR b at_).2.2 := by
  have hl' := hl
  rw [reachV] at hl'
  unfold idR
  by_cases h0 : at_ < 0
  · refine .all fun k R K => ?_
    rw [if_pos h0]; simp [f30, f30_s, h0]
  · obtain ⟨p, rfl⟩ : ∃ p : Nat, at_ = p := ⟨at_.toNat, by omega⟩
    rw [if_neg h0]
    by_cases h1 : (b.length : Int) ≤ (p : Int)
    · refine .all fun k R K => ?_
      have t : decide ((p : Int) ≥ (b.length : Int)) = true := decide_eq_true h1
      rw [if_pos h1]
      simp only [f30, f30_s, decide_eq_false h0, cond_false, t, cond_true]
    · have hp : p < b.length := by omega
      have t : decide ((p : Int) ≥ (b.length : Int)) = false := decide_eq_false (by omega)
      have hc := hb.get hp
      have w1 : IntKind.i64.wrap ((b.length : Int) - (p : Int)) = ((b.length - p : Nat) : Int) := by rw [wrap64 (by omega) (by omega)]; omega
      rw [if_neg h1]
      simp only [Int.toNat_natCast, getD_get hp]
      generalize hn : idLen b[p] = n
      have h65 := f65_v hc.1 hc.2
      rw [hn] at h65
      have h4 : n ≤ 4 := by rw [← hn]; exact idLen_range _
      by_cases z : n = 0
      · refine h65.imp fun k h65 R K => ?_
        rw [if_pos z]
        subst z
        simp only [f30, f30_s, decide_eq_false h0, cond_false, t, inb_nat, hp, decide_true, cond_true, Int.toNat_natCast, getD_get hp, h65]
        rfl
      · rw [if_neg z]
        have zz : ((n : Int) == 0) = false := by rw [beq_dec]; exact decide_eq_false (by omega)
        by_cases sh : b.length - p < n
        · refine h65.imp fun k h65 R K => ?_
          rw [if_pos sh]
          have t2 : decide ((n : Int) > ((b.length - p : Nat) : Int)) = true := decide_eq_true (by omega)
          simp only [f30, f30_s, decide_eq_false h0, cond_false, t, inb_nat, hp, decide_true, cond_true, Int.toNat_natCast, getD_get hp, h65, zz, w1, t2]
        · rw [if_neg sh]
          have t2 : decide ((n : Int) > ((b.length - p : Nat) : Int)) = false := decide_eq_false (by omega)
          refine h65.imp3 (f30_loop b hb hl h4 (show p + n ≤ b.length by omega) 0 (by omega)) (f62_v (numB b p n) (show 1 ≤ n by omega) h4) fun k h65 hlp h62 R K => ?_
          simp only [Int.natCast_zero, List.drop_zero] at hlp
          simp only [f30, f30_s, decide_eq_false h0, cond_false, t, inb_nat, hp, decide_true, cond_true, Int.toNat_natCast, getD_get hp, h65, zz, w1, t2]
          rw [hlp R 0 _ (by omega) (by decide)]
          show f62 k (numB b p n) (n : Int) _ = _
          rw [h62]
          cases isIdB (numB b p n) n with
          | true => simp [numB]
          | false => simp

theorem elementIds_plain (b : List Int) (hb : okBy b) (hl : b.length ≤ reachBytes) (at_ : Int) : ∃ k, f7 (R := Bool) k b at_ some = some true := by
  refine Ev.some ?_
  refine (f29_v b hb hl at_).imp3 (f30_v b hb hl at_) awake_v fun k h1 h2 h3 => ?_
  simp only [f7, f7_s, h1, h2, h3, beq_self_eq_true, cond_true]
end Go.Proofs.Ytklhjegfkpmdoaa

/-! What every row of this seat needs: the names of types, and that readings fit them. -/
namespace Go.Proofs.Ytklhjegfkpmdoaa
open Go Go.Am
theorem ownKn : ownKnob Try.prog.godebug = none := by kernel_rfl
theorem laidOut : laidOutB Try.prog = true := by kernel_rfl
noncomputable def naming : Naming cx where
  flds := flds
  toT := toT
  ofT := ofT
  plain := fun r => match r with
    | 0 => rfl
    | 1 => rfl
    | 2 => rfl
    | 3 => rfl
    | 4 => rfl
    | 5 => rfl
    | 6 => rfl
    | 7 => rfl
    | 8 => rfl
    | 9 => rfl
    | 10 => rfl
    | 11 => rfl
    | _n + 12 => rfl
  to_of := fun r x => match r, x with
    | 0, _ => rfl
    | 1, _ => rfl
    | 2, _ => rfl
    | 3, _ => rfl
    | 4, _ => rfl
    | 5, _ => rfl
    | 6, _ => rfl
    | 7, _ => rfl
    | 8, _ => rfl
    | 9, _ => rfl
    | 10, _ => rfl
    | 11, _ => rfl
    | _n + 12, _ => rfl
  deep := fun r v => match r, v with
    | 0, _ => rfl
    | 1, _ => rfl
    | 2, v => deep2_eq v
    | 3, _ => rfl
    | 4, _ => rfl
    | 5, _ => rfl
    | 6, _ => rfl
    | 7, _ => rfl
    | 8, _ => rfl
    | 9, _ => rfl
    | 10, _ => rfl
    | 11, _ => rfl
    | _n + 12, _ => rfl
theorem fit : Fit naming Try.prog := fit_of (tab := tab) rfl (by kernel_rfl)
theorem reachV' : reachBytes = 140737488351232 := rfl
theorem wf_bytes {z : Nat} {l : List Int} (h : WfIV (.list z (l.map fun y => [.int .u8 y]))) : l.length ≤ reachBytes ∧ ∀ n ∈ l, 0 ≤ n ∧ n < 256 := by
  cases h with
  | list h1 h2 =>
    refine ⟨by simpa using h1, fun n hn => ?_⟩
    have := h2 _ (List.mem_map.2 ⟨n, hn, rfl⟩) _ (List.mem_singleton.2 rfl)
    cases this with
    | int h3 => simp [Lit.wf, IntKind.min, IntKind.max, IntKind.signed, IntKind.bits] at h3; omega
theorem wf_int {n : Int} (h : WfIV (.int .i64 n)) : -9223372036854775808 ≤ n ∧ n < 9223372036854775808 := by
  cases h with
  | int h3 => simp [Lit.wf, IntKind.min, IntKind.max, IntKind.signed, IntKind.bits] at h3; omega
end Go.Proofs.Ytklhjegfkpmdoaa
