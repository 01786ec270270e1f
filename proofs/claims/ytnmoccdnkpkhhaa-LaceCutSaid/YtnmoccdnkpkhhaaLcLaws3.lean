/- Proved: what a number of variable length, the head and the sizes of a block are when they are read. Conditions: at most 200,000 bytes. -/
import Derived.Test.YtnmoccdnkpkhhaaLcLaws2

/-! Numbers of variable length, read. -/
namespace Go.Proofs.Ytnmoccdnkpkhhaa
open Go Go.Am

/-- How many bytes a number has that begins with c. -/
def vsz (c : Nat) : Nat := if 128 ≤ c then 1 else if 64 ≤ c then 2 else if 32 ≤ c then 3 else if 16 ≤ c then 4 else if 8 ≤ c then 5 else if 4 ≤ c then 6 else if 2 ≤ c then 7 else 8
theorem vsz_range (c : Nat) : 1 ≤ vsz c ∧ vsz c ≤ 8 := by
  unfold vsz
  repeat' split
  all_goals omega

def chkC (c : Nat) : Bool :=
  c == 0 || (decide (inb (c : Int) lit0.size = true ∧ IntKind.i64.wrap (IntKind.i64.wrap (8 - IntKind.i64.wrap (((lit0.data.toList.getD (c : Int).toNat 0).toNat : Int))) + 1) = (vsz c : Int) ∧
    andI .i64 (IntKind.i64.wrap (c : Int)) (shrI .i64 255 (vsz c : Int)) = (c : Int) - 2 ^ (8 - vsz c) ∧ IntKind.i64.wrap (IntKind.i64.wrap (c : Int) - shlI .i64 1 (IntKind.u64.wrap (IntKind.i64.wrap (8 - (vsz c : Int))))) = (c : Int) - 2 ^ (8 - vsz c) ∧
    (c : Int) < 2 ^ (9 - vsz c) ∧ (2 : Int) ^ (8 - vsz c) ≤ c))
theorem chk_all : (List.range 256).all chkC = true := by kernel_rfl
def chkN (c n : Nat) : Bool := decide (decide (IntKind.u64.wrap (IntKind.i64.wrap (8 - (n : Int))) < 0) = false ∧ (shrI .u8 (c : Int) (IntKind.u64.wrap (IntKind.i64.wrap (8 - (n : Int)))) == 0) = decide (n < vsz c))
theorem chkN_all : (List.range 256).all (fun c => c == 0 || (List.range 9).all fun n => n == 0 || chkN c n) = true := by kernel_rfl
theorem chk_of {c : Nat} (h : 0 < c) (h' : c < 256) : inb (c : Int) lit0.size = true ∧ IntKind.i64.wrap (IntKind.i64.wrap (8 - IntKind.i64.wrap (((lit0.data.toList.getD (c : Int).toNat 0).toNat : Int))) + 1) = (vsz c : Int) ∧
    andI .i64 (IntKind.i64.wrap (c : Int)) (shrI .i64 255 (vsz c : Int)) = (c : Int) - 2 ^ (8 - vsz c) ∧ IntKind.i64.wrap (IntKind.i64.wrap (c : Int) - shlI .i64 1 (IntKind.u64.wrap (IntKind.i64.wrap (8 - (vsz c : Int))))) = (c : Int) - 2 ^ (8 - vsz c) ∧
    (c : Int) < 2 ^ (9 - vsz c) ∧ (2 : Int) ^ (8 - vsz c) ≤ c := by
  have := List.all_eq_true.1 chk_all c (by simpa using h')
  unfold chkC at this
  simp only [Bool.or_eq_true] at this
  rcases this with h1 | h1
  · simp at h1; omega
  · exact of_decide_eq_true h1
theorem chkN_of {c n : Nat} (h : 0 < c) (h' : c < 256) (hn : 1 ≤ n) (hn' : n ≤ 8) : decide (IntKind.u64.wrap (IntKind.i64.wrap (8 - (n : Int))) < 0) = false ∧ (shrI .u8 (c : Int) (IntKind.u64.wrap (IntKind.i64.wrap (8 - (n : Int)))) == 0) = decide (n < vsz c) := by
  have := List.all_eq_true.1 chkN_all c (by simpa using h')
  simp only [Bool.or_eq_true] at this
  rcases this with h1 | h1
  · simp at h1; omega
  · have := List.all_eq_true.1 h1 n (by simp; omega)
    simp only [Bool.or_eq_true] at this
    rcases this with h2 | h2
    · simp at h2; omega
    · unfold chkN at h2
      exact of_decide_eq_true h2

/-- Bytes. -/
def okBy (b : List Int) : Prop := ∀ n ∈ b, 0 ≤ n ∧ n < 256
def valF (l : List Int) (v : Int) : Int := l.foldl (fun v c => v * 256 + c) v

theorem ofInt_nat {n : Nat} (h : n < 18446744073709551616) : (BitVec.ofInt 64 (n : Int)).toNat = n := by
  rw [BitVec.toNat_ofInt]
  have e : (2 ^ 64 : Nat) = 18446744073709551616 := by decide
  rw [e, Int.emod_eq_of_lt (by omega) (by omega)]
  omega
theorem or_byte {a c : Int} (h : 0 ≤ a) (h' : a < 36028797018963968) (hc : 0 ≤ c) (hc' : c < 256) : orI .i64 (shlI .i64 a 8) (IntKind.i64.wrap c) = a * 256 + c := by
  obtain ⟨n, rfl⟩ : ∃ n : Nat, a = n := ⟨a.toNat, by omega⟩
  obtain ⟨m, rfl⟩ : ∃ n : Nat, c = n := ⟨c.toNat, by omega⟩
  have s : shlI .i64 (n : Int) 8 = ((256 * n : Nat) : Int) := by
    have : (min (8 : Int).toNat IntKind.i64.bits) = 8 := rfl
    unfold shlI
    rw [this]
    have e : (n : Int) * 2 ^ 8 = ((256 * n : Nat) : Int) := by
      have : (2 : Int) ^ 8 = 256 := by decide
      rw [this]; omega
    rw [e, wrap64 (by omega) (by omega)]
  have w : IntKind.i64.wrap (m : Int) = m := wrap64 (by omega) (by omega)
  rw [w, s]
  have e1 : (BitVec.ofInt IntKind.i64.bits ((256 * n : Nat) : Int)).toNat = 256 * n := ofInt_nat (by omega)
  have e2 : (BitVec.ofInt IntKind.i64.bits (m : Int)).toNat = m := ofInt_nat (by omega)
  unfold orI
  rw [BitVec.toNat_or, e1, e2]
  have e3 : 256 * n = 2 ^ 8 * n := rfl
  rw [e3, ← Nat.two_pow_add_eq_or_of_lt (i := 8) (by omega) n]
  have e4 : 2 ^ 8 * n + m = 256 * n + m := rfl
  rw [e4, wrap64 (by omega) (by omega)]
  omega

/-- What a number of m bytes more is below, behind i of them. -/
def capN (m i : Nat) : Nat := 2 ^ (7 - m) * 256 ^ i
theorem cap_small : ∀ m, m < 8 → ∀ i, i < m → capN m i ≤ 281474976710656 := by decide
theorem cap_step {m i : Nat} {v c : Int} (h : v < capN m i) (hc' : c < 256) : v * 256 + c < capN m (i + 1) := by
  have e : capN m (i + 1) = capN m i * 256 := by unfold capN; rw [Nat.pow_succ, Nat.mul_assoc]
  rw [e]; omega

theorem f54_loop (n : Int) (l : List Int) (hl : okBy l) (h7 : l.length ≤ 7) : ∀ i, i ≤ l.length → Ev fun k => ∀ (R : Type) (v : Int) (X : Int → Int → Option R), 0 ≤ v → v < capN l.length i →
    f54_l12 f45 f65 k v n l (l.length : Int) (i : Int) X = X (valF (l.drop i) v) n := by
  refine Ev.down l.length ?_ ?_
  · exact Ev.suc (.all fun k R v X _ _ => by simp [f54_l12, valF])
  · intro i hi h
    refine Ev.suc (h.imp fun k h R v X h0 hb => ?_)
    have hc := hl _ (List.getElem_mem hi)
    have hs := cap_small l.length (by omega) i hi
    rw [f54_l12, lt_nat, inb_nat, wrapSuc (by omega)]
    simp only [hi, decide_true, cond_true, Int.toNat_natCast, getD_get hi]
    rw [or_byte h0 (by omega) hc.1 hc.2, h R _ X (by omega) (cap_step hb hc.2), List.drop_eq_getElem_cons hi]
    rfl

theorem al1 (k : Nat) (R : Type) (K : Int → Option R) : f45 k ((1 : Nat) : Int) K = K (2 ^ (7 * 1) - 1) := by kernel_rfl
theorem mo1 (k : Nat) (R : Type) (K : Int → Option R) : f48 k ((1 : Nat) : Int) K = K (2 ^ (7 * 1) - 1) := by kernel_rfl
theorem al2 (k : Nat) (R : Type) (K : Int → Option R) : f45 k ((2 : Nat) : Int) K = K (2 ^ (7 * 2) - 1) := by kernel_rfl
theorem mo2 (k : Nat) (R : Type) (K : Int → Option R) : f48 k ((2 : Nat) : Int) K = K (2 ^ (7 * 2) - 1) := by kernel_rfl
theorem al3 (k : Nat) (R : Type) (K : Int → Option R) : f45 k ((3 : Nat) : Int) K = K (2 ^ (7 * 3) - 1) := by kernel_rfl
theorem mo3 (k : Nat) (R : Type) (K : Int → Option R) : f48 k ((3 : Nat) : Int) K = K (2 ^ (7 * 3) - 1) := by kernel_rfl
theorem al4 (k : Nat) (R : Type) (K : Int → Option R) : f45 k ((4 : Nat) : Int) K = K (2 ^ (7 * 4) - 1) := by kernel_rfl
theorem mo4 (k : Nat) (R : Type) (K : Int → Option R) : f48 k ((4 : Nat) : Int) K = K (2 ^ (7 * 4) - 1) := by kernel_rfl
theorem al5 (k : Nat) (R : Type) (K : Int → Option R) : f45 k ((5 : Nat) : Int) K = K (2 ^ (7 * 5) - 1) := by kernel_rfl
theorem mo5 (k : Nat) (R : Type) (K : Int → Option R) : f48 k ((5 : Nat) : Int) K = K (2 ^ (7 * 5) - 1) := by kernel_rfl
theorem al6 (k : Nat) (R : Type) (K : Int → Option R) : f45 k ((6 : Nat) : Int) K = K (2 ^ (7 * 6) - 1) := by kernel_rfl
theorem mo6 (k : Nat) (R : Type) (K : Int → Option R) : f48 k ((6 : Nat) : Int) K = K (2 ^ (7 * 6) - 1) := by kernel_rfl
theorem al7 (k : Nat) (R : Type) (K : Int → Option R) : f45 k ((7 : Nat) : Int) K = K (2 ^ (7 * 7) - 1) := by kernel_rfl
theorem mo7 (k : Nat) (R : Type) (K : Int → Option R) : f48 k ((7 : Nat) : Int) K = K (2 ^ (7 * 7) - 1) := by kernel_rfl
theorem al8 (k : Nat) (R : Type) (K : Int → Option R) : f45 k ((8 : Nat) : Int) K = K (2 ^ (7 * 8) - 1) := by kernel_rfl
theorem mo8 (k : Nat) (R : Type) (K : Int → Option R) : f48 k ((8 : Nat) : Int) K = K (2 ^ (7 * 8) - 1) := by kernel_rfl
theorem allN (n : Nat) (h : 1 ≤ n) (h' : n ≤ 8) (k : Nat) (R : Type) (K : Int → Option R) : f45 k (n : Int) K = K (2 ^ (7 * n) - 1) := by
  have : n = 1 ∨ n = 2 ∨ n = 3 ∨ n = 4 ∨ n = 5 ∨ n = 6 ∨ n = 7 ∨ n = 8 := by omega
  rcases this with rfl | rfl | rfl | rfl | rfl | rfl | rfl | rfl
  · exact al1 k R K
  · exact al2 k R K
  · exact al3 k R K
  · exact al4 k R K
  · exact al5 k R K
  · exact al6 k R K
  · exact al7 k R K
  · exact al8 k R K
theorem mostN (n : Nat) (h : 1 ≤ n) (h' : n ≤ 8) (k : Nat) (R : Type) (K : Int → Option R) : f48 k (n : Int) K = K (2 ^ (7 * n) - 1) := by
  have : n = 1 ∨ n = 2 ∨ n = 3 ∨ n = 4 ∨ n = 5 ∨ n = 6 ∨ n = 7 ∨ n = 8 := by omega
  rcases this with rfl | rfl | rfl | rfl | rfl | rfl | rfl | rfl
  · exact mo1 k R K
  · exact mo2 k R K
  · exact mo3 k R K
  · exact mo4 k R K
  · exact mo5 k R K
  · exact mo6 k R K
  · exact mo7 k R K
  · exact mo8 k R K

/-- What a number of variable length is, that is read at a place: value, bytes, unknown, error. -/
def readV (b : List Int) (at_ : Nat) : Int × Int × Bool × Int :=
  if h : at_ < b.length then
    if b[at_] = 0 then (0, 0, false, 4)
    else if b.length - at_ < vsz b[at_].toNat then (0, 0, false, 3)
    else
      let v := valF ((b.drop (at_ + 1)).take (vsz b[at_].toNat - 1)) (b[at_] - 2 ^ (8 - vsz b[at_].toNat))
      if v = 2 ^ (7 * vsz b[at_].toNat) - 1 then (0, vsz b[at_].toNat, true, 0) else (v, vsz b[at_].toNat, false, 0)
  else (0, 0, false, 3)

theorem wrapAdd {a b : Nat} (h : a + b < 9223372036854775808) : IntKind.i64.wrap ((a : Int) + (b : Int)) = ((a + b : Nat) : Int) := by
  rw [wrap64 (by omega) (by omega)]; omega
theorem wrapSub {a b : Nat} (h : b ≤ a) (h' : a < 9223372036854775808) : IntKind.i64.wrap ((a : Int) - (b : Int)) = ((a - b : Nat) : Int) := by
  rw [wrap64 (by omega) (by omega)]; omega
theorem readV_zero {b : List Int} {at_ : Nat} (h : at_ < b.length) (hz : b[at_] = 0) : readV b at_ = (0, 0, false, 4) := by
  unfold readV; rw [dif_pos h, if_pos hz]
theorem readV_short {b : List Int} {at_ c : Nat} (h : at_ < b.length) (hce : b[at_] = (c : Int)) (hz : c ≠ 0) (hs : b.length - at_ < vsz c) : readV b at_ = (0, 0, false, 3) := by
  have tn : b[at_].toNat = c := by omega
  unfold readV; rw [dif_pos h, if_neg (by omega), tn, if_pos hs]
theorem readV_val {b : List Int} {at_ c : Nat} (h : at_ < b.length) (hce : b[at_] = (c : Int)) (hz : c ≠ 0) (hs : ¬ b.length - at_ < vsz c) :
    readV b at_ = if valF ((b.drop (at_ + 1)).take (vsz c - 1)) ((c : Int) - 2 ^ (8 - vsz c)) = 2 ^ (7 * vsz c) - 1 then (0, (vsz c : Int), true, 0) else (valF ((b.drop (at_ + 1)).take (vsz c - 1)) ((c : Int) - 2 ^ (8 - vsz c)), (vsz c : Int), false, 0) := by
  have tn : b[at_].toNat = c := by omega
  unfold readV; rw [dif_pos h, if_neg (by omega), tn, if_neg hs, hce]
theorem readV_end {b : List Int} {at_ : Nat} (h : ¬ at_ < b.length) : readV b at_ = (0, 0, false, 3) := by
  unfold readV; rw [dif_neg h]

theorem okBy.drop {b : List Int} (h : okBy b) (i : Nat) : okBy (b.drop i) := fun n hn => h n (List.mem_of_mem_drop hn)
theorem okBy.take {b : List Int} (h : okBy b) (i : Nat) : okBy (b.take i) := fun n hn => h n (List.mem_of_mem_take hn)

theorem cap_first {c : Nat} (h : 0 < c) (h' : c < 256) : 0 ≤ (c : Int) - 2 ^ (8 - vsz c) ∧ (c : Int) - 2 ^ (8 - vsz c) < capN (vsz c - 1) 0 := by
  obtain ⟨_, _, _, _, q5, q6⟩ := chk_of h h'
  have hv := vsz_range c
  have e : capN (vsz c - 1) 0 = 2 ^ (8 - vsz c) := by
    have : 7 - (vsz c - 1) = 8 - vsz c := by omega
    unfold capN; rw [Nat.pow_zero, Nat.mul_one, this]
  have e2 : (2 : Int) ^ (9 - vsz c) = 2 ^ (8 - vsz c) * 2 := by
    have : 9 - vsz c = (8 - vsz c) + 1 := by omega
    rw [this, Int.pow_succ]
  rw [e2] at q5
  rw [e]
  have e3 : (((2 : Nat) ^ (8 - vsz c) : Nat) : Int) = 2 ^ (8 - vsz c) := by simp
  rw [e3]
  generalize (2 : Int) ^ (8 - vsz c) = p at *
  omega

theorem f54_v (b : List Int) (hb : okBy b) (hl : b.length ≤ reachBytes) (at_ : Nat) (hat : at_ ≤ reachBytes) : Ev fun k => ∀ (R : Type) (K : Int → Int → Bool → Int → Option R), f54 k b (at_ : Int) K = K (readV b at_).1 (readV b at_).2.1 (readV b at_).2.2.1 (readV b at_).2.2.2 := by
  rw [reachV] at hl hat
  have n0 : decide ((at_ : Int) < 0) = false := by simp
  by_cases h : at_ < b.length
  · have g0 : decide ((at_ : Int) ≥ (b.length : Int)) = false := by simp; omega
    have hc := hb _ (List.getElem_mem h)
    obtain ⟨c, hce⟩ : ∃ c : Nat, b[at_] = (c : Int) := ⟨b[at_].toNat, by omega⟩
    have hc' : c < 256 := by omega
    by_cases hz : c = 0
    · refine .all fun k R K => ?_
      have hz : b[at_] = 0 := by omega
      have e0 : ((b[at_] == 0) = true) := by simp [hz]
      simp only [f54, f54_s, n0, g0, inb_nat, h, decide_true, cond_true, cond_false, Int.toNat_natCast, getD_get h, e0]
      rw [readV_zero h hz]
    · have e0c : (((c : Nat) : Int) == 0) = false := by simp; exact hz
      obtain ⟨q1, q2, q3, _, _, _⟩ := chk_of (c := c) (by omega) hc'
      rw [inb_nat] at q1
      simp only [Int.toNat_natCast] at q2
      have hv := vsz_range c
      have wl := wrapSub (a := b.length) (b := at_) (by omega) (by omega)
      by_cases hs : b.length - at_ < vsz c
      · refine .all fun k R K => ?_
        have t1 : decide (((b.length - at_ : Nat) : Int) < (vsz c : Int)) = true := by rw [lt_nat]; simp [hs]
        simp only [f54, f54_s, f65, f65_s, f72, f72_s, n0, g0, inb_nat, h, decide_true, cond_true, cond_false, Int.toNat_natCast, getD_get h, hce, e0c, q1]
        rw [q2, wl, t1, readV_short h hce hz hs]; rfl
      · have hll : ((b.take (at_ + vsz c)).drop (at_ + 1)).length = vsz c - 1 := by simp; omega
        have heq : (b.take (at_ + vsz c)).drop (at_ + 1) = (b.drop (at_ + 1)).take (vsz c - 1) := by
          have : at_ + vsz c - (at_ + 1) = vsz c - 1 := by omega
          rw [List.drop_take, this]
        have cp := cap_first (c := c) (by omega) hc'
        refine (f54_loop (vsz c : Int) ((b.take (at_ + vsz c)).drop (at_ + 1)) ((hb.take _).drop _) (by omega) 0 (by omega)).imp fun k hk R K => ?_
        simp only [Int.natCast_zero, List.drop_zero] at hk
        have t1 : decide (((b.length - at_ : Nat) : Int) < (vsz c : Int)) = false := by rw [lt_nat]; simp; omega
        have t2 : decide ((vsz c : Int) < 0) = false := by simp
        have wa := wrapAdd (a := at_) (b := vsz c) (by omega)
        have ws := wrapSuc (n := at_) (by omega)
        have t3 : decide (0 ≤ ((at_ + 1 : Nat) : Int)) = true := by simp; omega
        have t4 : decide (((at_ + 1 : Nat) : Int) ≤ ((at_ + vsz c : Nat) : Int)) = true := by simp; omega
        simp only [f54, f54_s, f65, f65_s, f72, f72_s, n0, g0, inb_nat, h, decide_true, cond_true, cond_false, Int.toNat_natCast, getD_get h, hce, e0c, q1]
        simp only [q2, q3, wl, t1, t2, wa, ws, upto_nat, show at_ + vsz c ≤ b.length by omega, t3, t4, decide_true, Bool.and_self, cond_true, cond_false, Int.toNat_natCast]
        rw [hll] at hk ⊢
        rw [hk R _ _ cp.1 cp.2, allN _ hv.1 hv.2, heq, beq_dec, readV_val h hce hz hs]
        by_cases hu : valF ((b.drop (at_ + 1)).take (vsz c - 1)) ((c : Int) - 2 ^ (8 - vsz c)) = 2 ^ (7 * vsz c) - 1
        · rw [if_pos hu, decide_eq_true hu]; rfl
        · rw [if_neg hu, decide_eq_false hu]; rfl
  · refine .all fun k R K => ?_
    have g0 : decide ((at_ : Int) ≥ (b.length : Int)) = true := by simp; omega
    simp only [f54, f54_s, n0, g0, cond_true, cond_false]
    rw [readV_end h]

theorem f70_size (b : List Int) (at_ c : Nat) (h : at_ < b.length) (hce : b[at_] = (c : Int)) (hc : 0 < c) (hc' : c < 256) (_hat : at_ ≤ reachBytes) : ∀ n, n ≤ vsz c → Ev fun k => ∀ (R : Type) (X : List Int → Int → Int → Option R), 1 ≤ n → f70_l8 f48 k b (at_ : Int) (n : Int) X = X b (at_ : Int) (vsz c : Int) := by
  have hv := vsz_range c
  refine Ev.down (vsz c) ?_ ?_
  · refine Ev.suc (.all fun k R X h1 => ?_)
    obtain ⟨t1, t2⟩ := chkN_of hc hc' hv.1 hv.2
    have t3 : decide (vsz c < vsz c) = false := by simp
    rw [f70_l8, inb_nat]
    simp only [h, decide_true, cond_true, Int.toNat_natCast, getD_get h, hce]
    rw [t1, t2, t3]; rfl
  · intro n hn hh
    refine Ev.suc (hh.imp fun k hk R X h1 => ?_)
    obtain ⟨t1, t2⟩ := chkN_of hc hc' (n := n) h1 (by omega)
    have t3 : decide (n < vsz c) = true := by simp [hn]
    rw [f70_l8, inb_nat, wrapSuc (by omega)]
    simp only [h, decide_true, cond_true, Int.toNat_natCast, getD_get h, hce]
    rw [t1, t2, t3, cond_false, cond_true, hk R X (by omega)]

theorem f70_fold (b : List Int) (hb : okBy b) (hl : b.length ≤ reachBytes) (at_ n : Nat) (hn : 1 ≤ n) (hn' : n ≤ 8) (hat : at_ + n ≤ b.length) : ∀ i, i ≤ n → Ev fun k => ∀ (R : Type) (v : Int) (X : Int → Int → Option R), 1 ≤ i → 0 ≤ v → v < capN (n - 1) (i - 1) →
    f70_l14 f48 k b (at_ : Int) (n : Int) v (i : Int) X = X (n : Int) (valF ((b.drop (at_ + i)).take (n - i)) v) := by
  rw [reachV] at hl
  refine Ev.down n ?_ ?_
  · refine Ev.suc (.all fun k R v X _ _ _ => ?_)
    have : decide ((n : Int) < (n : Int)) = false := by simp
    rw [f70_l14, this]; simp [valF]
  · intro i hi hh
    refine Ev.suc (hh.imp fun k hk R v X h1 h0 hv => ?_)
    have hi' : at_ + i < b.length := by omega
    have hc := hb _ (List.getElem_mem hi')
    have hs := cap_small (n - 1) (by omega) (i - 1) (by omega)
    have w1 := wrapAdd (a := at_) (b := i) (by omega)
    have w2 : IntKind.i64.wrap (v * 256) = v * 256 := wrap64 (by omega) (by omega)
    have w3 : IntKind.i64.wrap b[at_ + i] = b[at_ + i] := wrap64 (by omega) (by omega)
    have w4 : IntKind.i64.wrap (v * 256 + b[at_ + i]) = v * 256 + b[at_ + i] := wrap64 (by omega) (by omega)
    have cs := cap_step hv hc.2
    have e1 : i - 1 + 1 = i + 1 - 1 := by omega
    rw [e1] at cs
    rw [f70_l14, lt_nat, w1, inb_nat, wrapSuc (by omega)]
    simp only [hi, hi', decide_true, cond_true, Int.toNat_natCast, getD_get hi']
    rw [w2, w3, w4, hk R _ X (by omega) (by omega) cs]
    have e2 : n - i = (n - (i + 1)) + 1 := by omega
    rw [List.drop_eq_getElem_cons hi', e2, List.take_succ_cons]
    rfl

theorem f70_v (b : List Int) (hb : okBy b) (hl : b.length ≤ reachBytes) (at_ : Nat) (hat : at_ ≤ reachBytes) : Ev fun k => ∀ (R : Type) (K : Int → Int → Bool → Int → Option R), f70 k b (at_ : Int) K = K (readV b at_).1 (readV b at_).2.1 (readV b at_).2.2.1 (readV b at_).2.2.2 := by
  have hl0 := hl
  have hat0 := hat
  rw [reachV] at hl hat
  have n0 : decide ((at_ : Int) < 0) = false := by simp
  by_cases h : at_ < b.length
  · have g0 : decide ((at_ : Int) ≥ (b.length : Int)) = false := by simp; omega
    have hc := hb _ (List.getElem_mem h)
    obtain ⟨c, hce⟩ : ∃ c : Nat, b[at_] = (c : Int) := ⟨b[at_].toNat, by omega⟩
    have hc' : c < 256 := by omega
    by_cases hz : c = 0
    · refine .all fun k R K => ?_
      have hz : b[at_] = 0 := by omega
      have e0 : ((b[at_] == 0) = true) := by simp [hz]
      simp only [f70, f70_s, n0, g0, inb_nat, h, decide_true, cond_true, cond_false, Int.toNat_natCast, getD_get h, e0]
      rw [readV_zero h hz]
    · have e0c : (((c : Nat) : Int) == 0) = false := by simp; exact hz
      obtain ⟨_, _, _, q4, _, _⟩ := chk_of (c := c) (by omega) hc'
      have hv := vsz_range c
      obtain ⟨t1, _⟩ := chkN_of (c := c) (by omega) hc' hv.1 hv.2
      have hsz := f70_size b at_ c h hce (by omega) hc' hat0 1 hv.1
      by_cases hs : b.length - at_ < vsz c
      · refine hsz.imp fun k hk R K => ?_
        have t2 : decide ((at_ : Int) > IntKind.i64.wrap ((b.length : Int) - (vsz c : Int))) = true := by
          rw [wrap64 (by omega) (by omega)]; simp; omega
        have hk := fun X => hk R X (by omega)
        simp only [Int.natCast_one] at hk
        simp only [f70, f70_s, n0, g0, inb_nat, h, decide_true, cond_true, cond_false, Int.toNat_natCast, getD_get h, hce, e0c]
        rw [hk, t2, readV_short h hce hz hs]; rfl
      · have cp := cap_first (c := c) (by omega) hc'
        have hcap : (c : Int) - 2 ^ (8 - vsz c) < capN (vsz c - 1) (1 - 1) := cp.2
        refine hsz.imp2 (f70_fold b hb hl0 at_ (vsz c) hv.1 hv.2 (by omega) 1 hv.1) fun k hk hf R K => ?_
        have t2 : decide ((at_ : Int) > IntKind.i64.wrap ((b.length : Int) - (vsz c : Int))) = false := by
          rw [wrap64 (by omega) (by omega)]; simp; omega
        have hk := fun X => hk R X (by omega)
        simp only [Int.natCast_one] at hk hf
        simp only [f70, f70_s, n0, g0, inb_nat, h, decide_true, cond_true, cond_false, Int.toNat_natCast, getD_get h, hce, e0c]
        rw [hk, t2, cond_false, inb_nat]
        simp only [h, decide_true, cond_true, Int.toNat_natCast, getD_get h, hce]
        rw [t1, cond_false, q4, hf R _ _ (by omega) cp.1 hcap, mostN _ hv.1 hv.2, beq_dec, readV_val h hce hz hs]
        by_cases hu : valF ((b.drop (at_ + 1)).take (vsz c - 1)) ((c : Int) - 2 ^ (8 - vsz c)) = 2 ^ (7 * vsz c) - 1
        · rw [if_pos hu, decide_eq_true hu]; rfl
        · rw [if_neg hu, decide_eq_false hu]; rfl
  · refine .all fun k R K => ?_
    have g0 : decide ((at_ : Int) ≥ (b.length : Int)) = true := by simp; omega
    simp only [f70, f70_s, n0, g0, cond_true, cond_false]
    rw [readV_end h]
end Go.Proofs.Ytnmoccdnkpkhhaa

/-! What stands before the frames of a block, read. -/
namespace Go.Proofs.Ytnmoccdnkpkhhaa
open Go Go.Am

theorem hal1 (k : Nat) (R : Type) (K : Int → Option R) : f62 k ((1 : Nat) : Int) K = K (2 ^ 6 - 1) := by kernel_rfl
theorem hal2 (k : Nat) (R : Type) (K : Int → Option R) : f62 k ((2 : Nat) : Int) K = K (2 ^ 13 - 1) := by kernel_rfl
theorem hal3 (k : Nat) (R : Type) (K : Int → Option R) : f62 k ((3 : Nat) : Int) K = K (2 ^ 20 - 1) := by kernel_rfl
theorem hal4 (k : Nat) (R : Type) (K : Int → Option R) : f62 k ((4 : Nat) : Int) K = K (2 ^ 27 - 1) := by kernel_rfl
theorem hal5 (k : Nat) (R : Type) (K : Int → Option R) : f62 k ((5 : Nat) : Int) K = K (2 ^ 34 - 1) := by kernel_rfl
theorem hal6 (k : Nat) (R : Type) (K : Int → Option R) : f62 k ((6 : Nat) : Int) K = K (2 ^ 41 - 1) := by kernel_rfl
theorem hal7 (k : Nat) (R : Type) (K : Int → Option R) : f62 k ((7 : Nat) : Int) K = K (2 ^ 48 - 1) := by kernel_rfl
theorem hal8 (k : Nat) (R : Type) (K : Int → Option R) : f62 k ((8 : Nat) : Int) K = K (2 ^ 55 - 1) := by kernel_rfl
theorem hbl1 (k : Nat) (R : Type) (K : Int → Option R) : f63 k ((1 : Nat) : Int) K = K (2 ^ 6 - 1) := by kernel_rfl
theorem hbl2 (k : Nat) (R : Type) (K : Int → Option R) : f63 k ((2 : Nat) : Int) K = K (2 ^ 13 - 1) := by kernel_rfl
theorem hbl3 (k : Nat) (R : Type) (K : Int → Option R) : f63 k ((3 : Nat) : Int) K = K (2 ^ 20 - 1) := by kernel_rfl
theorem hbl4 (k : Nat) (R : Type) (K : Int → Option R) : f63 k ((4 : Nat) : Int) K = K (2 ^ 27 - 1) := by kernel_rfl
theorem hbl5 (k : Nat) (R : Type) (K : Int → Option R) : f63 k ((5 : Nat) : Int) K = K (2 ^ 34 - 1) := by kernel_rfl
theorem hbl6 (k : Nat) (R : Type) (K : Int → Option R) : f63 k ((6 : Nat) : Int) K = K (2 ^ 41 - 1) := by kernel_rfl
theorem hbl7 (k : Nat) (R : Type) (K : Int → Option R) : f63 k ((7 : Nat) : Int) K = K (2 ^ 48 - 1) := by kernel_rfl
theorem hbl8 (k : Nat) (R : Type) (K : Int → Option R) : f63 k ((8 : Nat) : Int) K = K (2 ^ 55 - 1) := by kernel_rfl
def halfZ (n : Nat) : Int := if n = 1 then 63 else if n = 2 then 8191 else if n = 3 then 1048575 else if n = 4 then 134217727 else if n = 5 then 17179869183 else if n = 6 then 2199023255551 else if n = 7 then 281474976710655 else 36028797018963967
theorem halfN (n : Nat) (h : 1 ≤ n) (h' : n ≤ 8) (k : Nat) (R : Type) (K : Int → Option R) : f62 k (n : Int) K = K (halfZ n) ∧ f63 k (n : Int) K = K (halfZ n) := by
  have : n = 1 ∨ n = 2 ∨ n = 3 ∨ n = 4 ∨ n = 5 ∨ n = 6 ∨ n = 7 ∨ n = 8 := by omega
  rcases this with rfl | rfl | rfl | rfl | rfl | rfl | rfl | rfl
  · exact ⟨hal1 k R K, hbl1 k R K⟩
  · exact ⟨hal2 k R K, hbl2 k R K⟩
  · exact ⟨hal3 k R K, hbl3 k R K⟩
  · exact ⟨hal4 k R K, hbl4 k R K⟩
  · exact ⟨hal5 k R K, hbl5 k R K⟩
  · exact ⟨hal6 k R K, hbl6 k R K⟩
  · exact ⟨hal7 k R K, hbl7 k R K⟩
  · exact ⟨hal8 k R K, hbl8 k R K⟩
theorem halfZ_range (n : Nat) : 0 ≤ halfZ n ∧ halfZ n ≤ 36028797018963967 := by
  unfold halfZ
  repeat' split
  all_goals omega

theorem valF_nn {l : List Int} (hl : okBy l) : ∀ {v : Int}, 0 ≤ v → 0 ≤ valF l v := by
  induction l with
  | nil => exact fun h => h
  | cons c l ih =>
    intro v h
    have := hl c (by simp)
    exact ih (fun n hn => hl n (by simp [hn])) (v := v * 256 + c) (by omega)
theorem valF_lt {m : Nat} : ∀ {l : List Int}, okBy l → ∀ {i : Nat} {v : Int}, v < capN m i → valF l v < capN m (i + l.length)
  | [], _, i, v, h => h
  | c :: l, hl, i, v, h => by
    have := cap_step h (hl c (by simp)).2
    have := valF_lt (l := l) (fun n hn => hl n (by simp [hn])) this
    have e : i + 1 + l.length = i + (c :: l).length := by simp; omega
    rw [e] at this
    exact this
theorem cap_end : ∀ m, m < 8 → capN m m = 2 ^ (7 * (m + 1)) := by decide
theorem cap_big : ∀ m, m < 8 → capN m m ≤ 72057594037927936 := by decide

/-- What is known of a number that has been read. -/
theorem readV_ok {b : List Int} (hb : okBy b) {at_ : Nat} : 0 ≤ (readV b at_).1 ∧ (readV b at_).1 < 72057594037927936 ∧
    ((readV b at_).2.2.2 = 0 → ∃ n : Nat, (readV b at_).2.1 = n ∧ 1 ≤ n ∧ n ≤ 8 ∧ at_ + n ≤ b.length) ∧ ((readV b at_).2.2.2 = 0 ∨ (readV b at_).2.2.2 = 3 ∨ (readV b at_).2.2.2 = 4) := by
  by_cases h : at_ < b.length
  · have hc := hb _ (List.getElem_mem h)
    obtain ⟨c, hce⟩ : ∃ c : Nat, b[at_] = (c : Int) := ⟨b[at_].toNat, by omega⟩
    by_cases hz : c = 0
    · rw [readV_zero h (by omega)]; simp
    · by_cases hs : b.length - at_ < vsz c
      · rw [readV_short h hce hz hs]; simp
      · rw [readV_val h hce hz hs]
        have hv := vsz_range c
        have cp := cap_first (c := c) (by omega) (by omega)
        have n1 := valF_nn (((hb.drop (at_ + 1)).take (vsz c - 1))) cp.1
        have n2 := valF_lt (((hb.drop (at_ + 1)).take (vsz c - 1))) cp.2
        have hl : ((b.drop (at_ + 1)).take (vsz c - 1)).length = vsz c - 1 := by simp; omega
        rw [hl, Nat.zero_add] at n2
        have n3 := cap_big (vsz c - 1) (by omega)
        split
        · exact ⟨by simp, by simp, fun _ => ⟨vsz c, rfl, hv.1, hv.2, by omega⟩, .inl rfl⟩
        · exact ⟨n1, by simp only; omega, fun _ => ⟨vsz c, rfl, hv.1, hv.2, by omega⟩, .inl rfl⟩
  · rw [readV_end h]; simp

/-- A signed number that is read. -/
def readS (b : List Int) (at_ : Nat) : Int × Int × Int :=
  if (readV b at_).2.2.2 ≠ 0 then (0, 0, (readV b at_).2.2.2) else if (readV b at_).2.2.1 = true then (0, 0, 4) else ((readV b at_).1 - halfZ (readV b at_).2.1.toNat, (readV b at_).2.1, 0)
/-- A number that is read and known. -/
def readF (b : List Int) (at_ : Nat) : Int × Int × Int :=
  if (readV b at_).2.2.2 ≠ 0 then (0, 0, (readV b at_).2.2.2) else if (readV b at_).2.2.1 = true then (0, 0, 4) else ((readV b at_).1, (readV b at_).2.1, 0)

theorem f66_v (b : List Int) (hb : okBy b) (hl : b.length ≤ reachBytes) (at_ : Nat) (hat : at_ ≤ reachBytes) : Ev fun k => ∀ (R : Type) (K : Int → Int → Int → Option R), f66 k b (at_ : Int) K = K (readS b at_).1 (readS b at_).2.1 (readS b at_).2.2 ∧ f71 k b (at_ : Int) K = K (readS b at_).1 (readS b at_).2.1 (readS b at_).2.2 := by
  refine (f54_v b hb hl at_ hat).imp2 (f70_v b hb hl at_ hat) fun k h54 h70 R K => ?_
  obtain ⟨p1, p2, p3, p4⟩ := readV_ok hb (at_ := at_)
  simp only [f66, f66_s, f71, f71_s, h54, h70, bne_dec, readS]
  by_cases he : (readV b at_).2.2.2 = 0
  · obtain ⟨n, hn, n1, n8, _⟩ := p3 he
    have hz := halfZ_range n
    cases hu : (readV b at_).2.2.1 with
    | true => simp [he]
    | false =>
      simp only [he, decide_true, Bool.not_true, cond_false, ne_eq, not_true_eq_false, if_false, Bool.false_eq_true, hn, Int.toNat_natCast]
      rw [(halfN n n1 n8 k R _).1, (halfN n n1 n8 k R _).2, wrap64 (by omega) (by omega)]
      exact ⟨rfl, rfl⟩
  · simp [he]
end Go.Proofs.Ytnmoccdnkpkhhaa

/-! The sizes of frames, read. -/
namespace Go.Proofs.Ytnmoccdnkpkhhaa
open Go Go.Am

/-- For each of finitely many. -/
theorem _root_.Go.Am.Ev.forall_le {p : Nat → Nat → Prop} {n : Nat} (h : ∀ i, i ≤ n → Ev (p i)) : Ev fun k => ∀ i, i ≤ n → p i k := by
  induction n with
  | zero =>
    refine (h 0 (Nat.le_refl _)).imp fun k hk i hi => ?_
    have : i = 0 := by omega
    subst this; exact hk
  | succ n ih =>
    refine (ih fun i hi => h i (by omega)).imp2 (h (n + 1) (Nat.le_refl _)) fun k h1 h2 i hi => ?_
    by_cases hq : i = n + 1
    · subst hq; exact h2
    · exact h1 i (by omega)

/-! by runs -/
def run1 : List Int → Int → Nat → Option (Int × Nat)
  | [], _, _ => none
  | c :: l, acc, p => if c = 255 then run1 l (acc + 255) (p + 1) else some (acc + c, p + 1)
def runsR (b : List Int) : Nat → Nat → Option (List Int × Nat)
  | 0, p => some ([], p)
  | m + 1, p => match run1 (b.drop p) 0 p with
    | none => none
    | some (s, q) => match runsR b m q with
      | none => none
      | some (l, r) => some (s :: l, r)

theorem run1_bound : ∀ {l : List Int}, okBy l → ∀ {acc : Int} {p q : Nat} {s : Int}, 0 ≤ acc → run1 l acc p = some (s, q) → p < q ∧ q ≤ p + l.length ∧ 0 ≤ s ∧ s ≤ acc + 255 * l.length
  | [], _, acc, p, q, s, _, h => by simp [run1] at h
  | c :: l, hl, acc, p, q, s, h0, h => by
    have hc := hl c (by simp)
    simp only [run1] at h
    split at h
    · have := run1_bound (l := l) (fun n hn => hl n (by simp [hn])) (by omega) h
      simp only [List.length_cons]; push_cast; omega
    · simp only [Option.some.injEq, Prod.mk.injEq] at h
      obtain ⟨rfl, rfl⟩ := h
      simp only [List.length_cons]; push_cast; omega

theorem runsR_bound {b : List Int} (hb : okBy b) : ∀ {m p : Nat} {l : List Int} {q : Nat}, runsR b m p = some (l, q) → p ≤ b.length → l.length = m ∧ p ≤ q ∧ q ≤ b.length ∧ ∀ s ∈ l, 0 ≤ s ∧ s ≤ 255 * b.length
  | 0, p, l, q, h, hp => by
    simp only [runsR, Option.some.injEq, Prod.mk.injEq] at h
    obtain ⟨rfl, rfl⟩ := h
    simp; exact hp
  | m + 1, p, l, q, h, hp => by
    simp only [runsR] at h
    split at h
    · simp at h
    · rename_i s q' h1
      split at h
      · simp at h
      · rename_i l' r h2
        simp only [Option.some.injEq, Prod.mk.injEq] at h
        obtain ⟨rfl, rfl⟩ := h
        have b1 := run1_bound (hb.drop p) (by omega) h1
        simp only [List.length_drop] at b1
        have b2 := runsR_bound hb h2 (by omega)
        refine ⟨by simp [b2.1], by omega, b2.2.2.1, fun x hx => ?_⟩
        rcases List.mem_cons.1 hx with rfl | hx
        · have : ((b.length - p : Nat) : Int) ≤ b.length := by omega
          omega
        · exact b2.2.2.2 x hx

theorem run1_end {b : List Int} {p : Nat} (h : b.length ≤ p) (acc : Int) : run1 (b.drop p) acc p = none := by
  rw [List.drop_eq_nil_of_le h]; rfl
theorem run1_step {b : List Int} {p : Nat} (h : p < b.length) (acc : Int) : run1 (b.drop p) acc p = if b[p] = 255 then run1 (b.drop (p + 1)) (acc + 255) (p + 1) else some (acc + b[p], p + 1) := by
  rw [List.drop_eq_getElem_cons h]; rfl

/-- The reference's. -/
theorem f58_one (b : List Int) (hl : b.length ≤ 300000) (hb : okBy b) (n i : Int) : ∀ p, p ≤ b.length → Ev fun k => ∀ (R : Type) (s : Int) (acc : List Int) (X : List Int → Int → Int → Int → Int → List Int → Option R), 0 ≤ s → s + 255 * (b.length - p : Nat) ≤ 100000000 →
    ∃ (p' : Nat) (s' : Int), f58_l6 k b n (p : Int) i s acc X = X b n (p' : Int) i s' acc ∧ (match run1 (b.drop p) s p with
      | none => p' = b.length
      | some (t, q) => ∃ h : p' < b.length, t = s' + b[p'] ∧ q = p' + 1 ∧ 0 ≤ s' ∧ s' ≤ 100000000) := by
  refine Ev.down b.length ?_ ?_
  · refine Ev.suc (.all fun k R s acc X h0 hs => ⟨b.length, s, ?_, ?_⟩)
    · simp [f58_l6]
    · rw [run1_end (Nat.le_refl _)]
  · intro p hp hh
    refine Ev.suc (hh.imp fun k hk R s acc X h0 hs => ?_)
    have hc := hb _ (List.getElem_mem hp)
    by_cases h255 : b[p] = 255
    · obtain ⟨p', s', e1, e2⟩ := hk R (s + 255) acc X (by omega) (by omega)
      refine ⟨p', s', ?_, ?_⟩
      · rw [f58_l6, lt_nat, inb_nat]
        simp only [hp, decide_true, cond_true, Int.toNat_natCast, getD_get hp, beq_dec, h255]
        rw [wrapSuc (by omega), wrap64 (by omega) (by omega), e1]
      · rw [run1_step hp, if_pos h255]; exact e2
    · refine ⟨p, s, ?_, ?_⟩
      · rw [f58_l6, lt_nat, inb_nat]
        simp only [hp, decide_true, cond_true, Int.toNat_natCast, getD_get hp, beq_dec, h255, decide_false, cond_false]
      · rw [run1_step hp, if_neg h255]
        exact ⟨hp, rfl, rfl, h0, by omega⟩

theorem f58_loop (b : List Int) (hl : b.length ≤ 300000) (hb : okBy b) (n : Nat) (hn : 1 ≤ n) (hn' : n ≤ 256) : ∀ i, i ≤ n - 1 → Ev fun k => ∀ (R : Type) (p : Nat) (acc : List Int) (X0 : Int → List Int → Option R) (X1 : Int → Int → Option R), p ≤ b.length → acc.length = i →
    f58_l3 k b (n : Int) (p : Int) (i : Int) acc X0 X1 = (match runsR b (n - 1 - i) p with
      | none => X1 0 3
      | some (l, q) => X0 (q : Int) (acc ++ l)) := by
  have wn : IntKind.i64.wrap ((n : Int) - 1) = ((n - 1 : Nat) : Int) := by rw [wrap64 (by omega) (by omega)]; omega
  refine Ev.down (n - 1) ?_ ?_
  · refine Ev.suc (.all fun k R p acc X0 X1 hp ha => ?_)
    rw [f58_l3, wn]
    simp [runsR]
  · intro i hi hh
    refine Ev.suc (hh.imp2 (Ev.forall_le (f58_one b hl hb (n : Int) (i : Int))) fun k hk h1 R p acc X0 X1 hp ha => ?_)
    rw [f58_l3, wn, lt_nat]
    simp only [hi, decide_true, cond_true]
    have hm : n - 1 - i = (n - 1 - (i + 1)) + 1 := by omega
    obtain ⟨p', s', e1, e2⟩ := h1 p hp R 0 acc _ (by omega) (by omega)
    rw [e1, hm]
    simp only [runsR]
    cases hr : run1 (b.drop p) 0 p with
    | none =>
      rw [hr] at e2
      simp only at e2
      subst e2
      simp
    | some tq =>
      obtain ⟨t, q⟩ := tq
      rw [hr] at e2
      obtain ⟨g1, g2, g3, g4, g5⟩ := e2
      have hc := hb _ (List.getElem_mem g1)
      have t1 : decide ((p' : Int) ≥ (b.length : Int)) = false := by simp; omega
      have w1 : IntKind.i64.wrap b[p'] = b[p'] := wrap64 (by omega) (by omega)
      have w2 : IntKind.i64.wrap (s' + b[p']) = t := by rw [wrap64 (by omega) (by omega)]; exact g2.symm
      rw [t1, cond_false, inb_nat]
      simp only [g1, decide_true, cond_true, Int.toNat_natCast, getD_get g1, w1, w2]
      rw [room_ok (by simp; omega), cond_true, wrapSuc (by omega), wrapSuc (by omega), hk R (p' + 1) (acc ++ [t]) X0 X1 (by omega) (by simp [ha]), ← g3]
      cases runsR b (n - 1 - (i + 1)) q with
      | none => rfl
      | some lr => simp

theorem f58_v (b : List Int) (hl : b.length ≤ 300000) (hb : okBy b) (n : Nat) (hn : 1 ≤ n) (hn' : n ≤ 256) (p : Nat) (hp : p ≤ b.length) : Ev fun k => ∀ (R : Type) (K : Int → Int → List Int → Option R), f58 k b (n : Int) (p : Int) K = (match runsR b (n - 1) p with
      | none => K 0 3 []
      | some (l, q) => K (q : Int) 0 l) := by
  refine (f58_loop b hl hb n hn hn' 0 (by omega)).imp fun k h R K => ?_
  simp only [Int.natCast_zero] at h
  simp only [f58, f58_s]
  rw [h R p [] _ _ hp rfl]
  simp only [Nat.sub_zero]
  cases runsR b (n - 1) p with
  | none => rfl
  | some lr => simp

/-- The program's: into a row of 32. -/
theorem f55_one (b : List Int) (hl : b.length ≤ 300000) (hb : okBy b) (i : Nat) (hi : i < 32) (m j c1 c2 : Int) (c3 : Bool) (c4 c5 : Int) : ∀ p, p ≤ b.length → Ev fun k => ∀ (R : Type) (s : Int) (arr : List Int) (X0 : List Int → Int → Int → Int → Int → Bool → Int → Int → Int → List Int → Option R) (X1 : Int → Int → Int → Bool → Int → Int → Int → Option R), arr.length = 32 → arr.getD i 0 = s → 0 ≤ s → s + 255 * (b.length - p : Nat) ≤ 100000000 →
    f55_l8 f54 f68_2 f67 f66 k b (i : Int) m j c1 c2 c3 c4 c5 (p : Int) arr X0 X1 = (match run1 (b.drop p) s p with
      | none => X1 3 c1 c2 c3 c4 c5 (b.length : Int)
      | some (t, q) => X0 b m j c1 c2 c3 c4 c5 (q : Int) (arr.set i t)) := by
  refine Ev.down b.length ?_ ?_
  · refine Ev.suc (.all fun k R s arr X0 X1 ha hs h0 hsb => ?_)
    rw [run1_end (Nat.le_refl _)]
    simp [f55_l8]
  · intro p hp hh
    refine Ev.suc (hh.imp fun k hk R s arr X0 X1 ha hs h0 hsb => ?_)
    have hc := hb _ (List.getElem_mem hp)
    have t0 : (((p : Nat) : Int) == (b.length : Int)) = false := by simp; omega
    have t1 : inb (i : Int) 32 = true := by rw [inb_nat]; simp [hi]
    have w1 : IntKind.i64.wrap b[p] = b[p] := wrap64 (by omega) (by omega)
    have w2 : IntKind.i64.wrap (s + b[p]) = s + b[p] := wrap64 (by omega) (by omega)
    rw [f55_l8, t0, cond_false, inb_nat]
    simp only [hp, decide_true, cond_true, t1, ha, Bool.and_self, Int.toNat_natCast, getD_get hp, w1]
    rw [hs, w2, run1_step hp, wrapSuc (by omega)]
    by_cases h255 : b[p] = 255
    · have t2 : decide (b[p] < 255) = false := by simp; omega
      rw [t2, cond_false, if_pos h255, hk R (s + b[p]) (arr.set i (s + b[p])) X0 X1 (by simp [ha]) (by rw [getD_get (by simp [ha]; omega)]; simp) (by omega) (by omega), h255]
      cases run1 (b.drop (p + 1)) (s + 255) (p + 1) with
      | none => rfl
      | some tq => simp
    · have t2 : decide (b[p] < 255) = true := by simp; omega
      rw [t2, cond_true, if_neg h255]

theorem f55_runs (b : List Int) (hl : b.length ≤ 300000) (hb : okBy b) (m : Nat) (hm : m ≤ 31) (c1 c2 : Int) (c3 : Bool) (c4 c5 : Int) : ∀ i, i ≤ m → Ev fun k => ∀ (R : Type) (p : Nat) (acc : List Int) (X0 : Int → Int → Bool → Int → Int → Int → List Int → Option R) (X1 : Int → Int → Int → Bool → Int → Int → Int → Option R), p ≤ b.length → acc.length = i →
    f55_l6 f54 f68_2 f67 f66 k b (m : Int) (i : Int) c1 c2 c3 c4 c5 (p : Int) (acc ++ List.replicate (32 - i) 0) X0 X1 = (match runsR b (m - i) p with
      | none => X1 3 c1 c2 c3 c4 c5 (b.length : Int)
      | some (l, q) => X0 c1 c2 c3 c4 c5 (q : Int) (acc ++ l ++ List.replicate (32 - m) 0)) := by
  refine Ev.down m ?_ ?_
  · refine Ev.suc (.all fun k R p acc X0 X1 hp ha => ?_)
    have : decide ((m : Int) < (m : Int)) = false := by simp
    rw [f55_l6, this]
    simp [runsR]
  · intro i hi hh
    refine Ev.suc (hh.imp2 (Ev.forall_le (f55_one b hl hb i (by omega) (m : Int) (i : Int) c1 c2 c3 c4 c5)) fun k hk h1 R p acc X0 X1 hp ha => ?_)
    rw [f55_l6, lt_nat]
    simp only [hi, decide_true, cond_true]
    have hmi : m - i = (m - (i + 1)) + 1 := by omega
    have h32 : 32 - i = (32 - (i + 1)) + 1 := by omega
    have hg : (acc ++ List.replicate (32 - i) (0 : Int)).getD i 0 = 0 := by
      rw [getD_get (by simp; omega), List.getElem_append_right (by omega)]; simp
    rw [h1 p hp R 0 _ _ _ (by simp; omega) hg (by omega) (by omega), hmi]
    simp only [runsR]
    cases hr : run1 (b.drop p) 0 p with
    | none => rfl
    | some tq =>
      obtain ⟨t, q⟩ := tq
      have bd := run1_bound (hb.drop p) (by omega) hr
      simp only [List.length_drop] at bd
      have hset : (acc ++ List.replicate (32 - i) (0 : Int)).set i t = (acc ++ [t]) ++ List.replicate (32 - (i + 1)) 0 := by
        rw [List.set_append_right _ _ (by omega), ha, Nat.sub_self, h32, List.replicate_succ]; simp
      simp only
      rw [hset, wrapSuc (by omega), hk R q (acc ++ [t]) X0 X1 (by omega) (by simp [ha])]
      cases runsR b (m - (i + 1)) q with
      | none => rfl
      | some lr => simp
end Go.Proofs.Ytnmoccdnkpkhhaa

/-! The sizes of frames, read: by differences, equal ones; whether they fit. -/
namespace Go.Proofs.Ytnmoccdnkpkhhaa
open Go Go.Am

def clampZ (x : Int) : Int := if x < -1152921504606846976 then -1152921504606846976 else if 1152921504606846976 < x then 1152921504606846976 else x
def diffR (cl : Int → Int) (b : List Int) : Nat → Bool → Int → Nat → Int × List Int × Nat
  | 0, _, _, p => (0, [], p)
  | m + 1, first, last, p =>
    let r := if first then readF b p else readS b p
    if r.2.2 ≠ 0 then (r.2.2, [], p) else
      let q := diffR cl b m false (cl (last + r.1)) (p + r.2.1.toNat)
      if q.1 ≠ 0 then (q.1, [], q.2.2) else (0, cl (last + r.1) :: q.2.1, q.2.2)

/-- What is known of a number that is read, signed or not. -/
theorem readFS_ok {b : List Int} (hb : okBy b) (first : Bool) {p : Nat} (h : (if first then readF b p else readS b p).2.2 = 0) :
    -72057594037927936 < (if first then readF b p else readS b p).1 ∧ (if first then readF b p else readS b p).1 < 72057594037927936 ∧ ∃ n : Nat, (if first then readF b p else readS b p).2.1 = n ∧ 1 ≤ n ∧ n ≤ 8 ∧ p + n ≤ b.length := by
  obtain ⟨p1, p2, p3, p4⟩ := readV_ok hb (at_ := p)
  cases first with
  | true =>
    simp only [if_true] at *
    unfold readF at *
    split at h
    · rename_i he; simp at h; exact absurd h he
    · rename_i he
      split at h
      · simp at h
      · rename_i hu
        rw [if_neg he, if_neg hu]
        exact ⟨by simp only; omega, by simp only; omega, p3 (by omega)⟩
  | false =>
    simp only [Bool.false_eq_true, if_false] at *
    unfold readS at *
    split at h
    · rename_i he; simp at h; exact absurd h he
    · rename_i he
      split at h
      · simp at h
      · rename_i hu
        rw [if_neg he, if_neg hu]
        have := halfZ_range (readV b p).2.1.toNat
        exact ⟨by simp only; omega, by simp only; omega, p3 (by omega)⟩

theorem f67_v {last v : Int} (h1 : -1152921504606846976 ≤ last) (h2 : last ≤ 1152921504606846976) (h3 : -72057594037927936 < v) (h4 : v < 72057594037927936) (k : Nat) (R : Type) (K : Int → Option R) : f67 k last v K = K (clampZ (last + v)) := by
  have w : IntKind.i64.wrap (last + v) = last + v := wrap64 (by omega) (by omega)
  simp only [f67, f67_s, w, clampZ]
  by_cases a : last + v < -1152921504606846976
  · have a1 : last + v < 1152921504606846976 := by omega
    have a2 : ¬ (-1152921504606846976 < last + v) := by omega
    rw [if_pos a1, if_neg a2, if_pos a]
  · by_cases c : 1152921504606846976 < last + v
    · have a1 : ¬ last + v < 1152921504606846976 := by omega
      rw [if_neg a1, if_pos (by decide), if_neg a, if_pos c]
    · rw [if_neg a, if_neg c]
      by_cases d : last + v < 1152921504606846976
      · rw [if_pos d]
        by_cases e : -1152921504606846976 < last + v
        · rw [if_pos e]
        · have : last + v = -1152921504606846976 := by omega
          rw [if_neg e, this]
      · have : last + v = 1152921504606846976 := by omega
        rw [if_neg d, if_pos (by decide), this]
theorem clampZ_range (x : Int) : -1152921504606846976 ≤ clampZ x ∧ clampZ x ≤ 1152921504606846976 := by
  unfold clampZ
  split
  · omega
  · split <;> omega

theorem f55_diffs (b : List Int) (hl : b.length ≤ 300000) (hb : okBy b) (m : Nat) (hm : m ≤ 31) (c1 c2 : Int) (c3 : Bool) (c4 c5 : Int) : ∀ i, i ≤ m → Ev fun k => ∀ (R : Type) (last : Int) (p : Nat) (acc : List Int) (X0 : Int → Int → Bool → Int → Int → Int → List Int → Option R) (X1 : Int → Int → Int → Bool → Int → Int → Int → Option R), -1152921504606846976 ≤ last → last ≤ 1152921504606846976 → p ≤ b.length → acc.length = i →
    f55_l17 f54 f68_2 f67 f66 k b last (m : Int) (i : Int) c1 c2 c3 c4 c5 (p : Int) (acc ++ List.replicate (32 - i) 0) X0 X1 =
      if (diffR clampZ b (m - i) (decide (i = 0)) last p).1 ≠ 0 then X1 (diffR clampZ b (m - i) (decide (i = 0)) last p).1 c1 c2 c3 c4 c5 ((diffR clampZ b (m - i) (decide (i = 0)) last p).2.2 : Int)
      else X0 c1 c2 c3 c4 c5 ((diffR clampZ b (m - i) (decide (i = 0)) last p).2.2 : Int) (acc ++ (diffR clampZ b (m - i) (decide (i = 0)) last p).2.1 ++ List.replicate (32 - m) 0) := by
  have hrl : b.length ≤ reachBytes := by rw [reachV]; omega
  refine Ev.down m ?_ ?_
  · refine Ev.suc (.all fun k R last p acc X0 X1 _ _ hp ha => ?_)
    have : decide ((m : Int) < (m : Int)) = false := by simp
    rw [f55_l17, this]
    simp [diffR]
  · intro i hi hh
    have h54 : Ev fun k => ∀ p, p ≤ b.length → ∀ (R : Type) (K : Int → Int → Bool → Int → Option R), f54 k b (p : Int) K = K (readV b p).1 (readV b p).2.1 (readV b p).2.2.1 (readV b p).2.2.2 :=
      Ev.forall_le fun p hp => f54_v b hb hrl p (by rw [reachV] at *; omega)
    have h66 : Ev fun k => ∀ p, p ≤ b.length → ∀ (R : Type) (K : Int → Int → Int → Option R), f66 k b (p : Int) K = K (readS b p).1 (readS b p).2.1 (readS b p).2.2 ∧ f71 k b (p : Int) K = K (readS b p).1 (readS b p).2.1 (readS b p).2.2 :=
      Ev.forall_le fun p hp => f66_v b hb hrl p (by rw [reachV] at *; omega)
    refine Ev.suc (hh.imp3 h54 h66 fun k hk h54 h66 R last p acc X0 X1 hl1 hl2 hp ha => ?_)
    have hmi : m - i = (m - (i + 1)) + 1 := by omega
    have h32 : 32 - i = (32 - (i + 1)) + 1 := by omega
    have t1 : inb (i : Int) 32 = true := by rw [inb_nat]; simp; omega
    have hlen : (acc ++ List.replicate (32 - i) (0 : Int)).length = 32 := by simp; omega
    have hset : ∀ t : Int, (acc ++ List.replicate (32 - i) (0 : Int)).set i t = (acc ++ [t]) ++ List.replicate (32 - (i + 1)) 0 := by
      intro t
      rw [List.set_append_right _ _ (by omega), ha, Nat.sub_self, h32, List.replicate_succ]; simp
    have hz1 : decide (i + 1 = 0) = false := by simp
    -- what comes behind a number that is read
    have fin : ∀ (v : Int) (n : Nat), -72057594037927936 < v → v < 72057594037927936 → p + n ≤ b.length →
        f55_l17 f54 f68_2 f67 f66 k b (clampZ (last + v)) (m : Int) (IntKind.i64.wrap ((i : Int) + 1)) c1 c2 c3 c4 c5 (IntKind.i64.wrap ((p : Int) + (n : Int))) ((acc ++ List.replicate (32 - i) (0 : Int)).set i (clampZ (last + v))) X0 X1 =
        if (diffR clampZ b (m - (i + 1)) false (clampZ (last + v)) (p + n)).1 ≠ 0 then X1 (diffR clampZ b (m - (i + 1)) false (clampZ (last + v)) (p + n)).1 c1 c2 c3 c4 c5 ((diffR clampZ b (m - (i + 1)) false (clampZ (last + v)) (p + n)).2.2 : Int)
        else X0 c1 c2 c3 c4 c5 ((diffR clampZ b (m - (i + 1)) false (clampZ (last + v)) (p + n)).2.2 : Int) (acc ++ [clampZ (last + v)] ++ (diffR clampZ b (m - (i + 1)) false (clampZ (last + v)) (p + n)).2.1 ++ List.replicate (32 - m) 0) := by
      intro v n hv1 hv2 hpn
      have cr := clampZ_range (last + v)
      rw [hset, wrapSuc (by omega), wrapAdd (by omega), hk R _ (p + n) (acc ++ [clampZ (last + v)]) X0 X1 cr.1 cr.2 hpn (by simp [ha]), hz1]
    rw [f55_l17, lt_nat]
    simp only [hi, decide_true, cond_true, t1, hlen, Bool.and_self, Int.toNat_natCast]
    rw [hmi]
    by_cases hz : i = 0
    · have e0 : ((i : Int) == 0) = true := by simp [hz]
      have d0 : decide (i = 0) = true := by simp [hz]
      rw [e0, cond_true, h54 p hp, d0, bne_dec]
      simp only [diffR, if_true]
      have ok := readFS_ok hb true (p := p)
      simp only [if_true] at ok
      unfold readF at ok ⊢
      have e4 : (readV b p).2.2.1 = true → (readV b p).2.2.2 = 0 := by
        intro hu
        by_cases h : p < b.length
        · have hc := hb _ (List.getElem_mem h)
          obtain ⟨c, hce⟩ : ∃ c : Nat, b[p] = (c : Int) := ⟨b[p].toNat, by omega⟩
          by_cases hcz : c = 0
          · rw [readV_zero h (by omega)] at hu; simp at hu
          · by_cases hs : b.length - p < vsz c
            · rw [readV_short h hce hcz hs] at hu; simp at hu
            · rw [readV_val h hce hcz hs] at hu ⊢
              split <;> rfl
        · rw [readV_end h] at hu; simp at hu
      cases hu : (readV b p).2.2.1 with
      | true =>
        have := e4 hu
        simp [this]
      | false =>
        by_cases he : (readV b p).2.2.2 = 0
        · simp only [he, hu, ne_eq, not_true_eq_false, if_false, Bool.false_eq_true] at ok ⊢
          obtain ⟨o1, o2, n, o3, _, _, o4⟩ := ok trivial
          simp only [decide_true, Bool.not_true, cond_false, o3, Int.toNat_natCast]
          rw [f67_v hl1 hl2 o1 o2, fin _ n o1 o2 o4]
          by_cases hq : (diffR clampZ b (m - (i + 1)) false (clampZ (last + (readV b p).1)) (p + n)).1 = 0
          · simp [hq]
          · simp [hq]
        · simp [he]
    · have e0 : ((i : Int) == 0) = false := by simp; exact hz
      have d0 : decide (i = 0) = false := by simp [hz]
      rw [e0, cond_false, (h66 p hp R _).1, d0, bne_dec]
      simp only [diffR, Bool.false_eq_true, if_false]
      have ok := readFS_ok hb false (p := p)
      simp only [Bool.false_eq_true, if_false] at ok
      by_cases he : (readS b p).2.2 = 0
      · obtain ⟨o1, o2, n, o3, _, _, o4⟩ := ok he
        simp only [he, ne_eq, not_true_eq_false, if_false, decide_true, Bool.not_true, cond_false, o3, Int.toNat_natCast]
        rw [f67_v hl1 hl2 o1 o2, fin _ n o1 o2 o4]
        by_cases hq : (diffR clampZ b (m - (i + 1)) false (clampZ (last + (readS b p).1)) (p + n)).1 = 0
        · simp [hq]
        · simp [hq]
      · simp [he]

/-- The last of a list of i. -/
def lastOf (acc : List Int) (i : Nat) : Int := if i = 0 then 0 else acc.getD (i - 1) 0

theorem f59_loop (b : List Int) (hl : b.length ≤ 300000) (hb : okBy b) (n : Nat) (hn : 1 ≤ n) (hn' : n ≤ 32) : ∀ i, i ≤ n - 1 → Ev fun k => ∀ (R : Type) (p : Nat) (acc : List Int) (X0 : Int → List Int → Option R) (X1 : Int → Int → Option R), p ≤ b.length → acc.length = i →
    -72057594037927936 * i ≤ lastOf acc i → lastOf acc i ≤ 72057594037927936 * i →
    f59_l3 f70 f71 k b (n : Int) (p : Int) (i : Int) acc X0 X1 =
      if (diffR id b (n - 1 - i) (decide (i = 0)) (lastOf acc i) p).1 ≠ 0 then X1 0 (diffR id b (n - 1 - i) (decide (i = 0)) (lastOf acc i) p).1
      else X0 ((diffR id b (n - 1 - i) (decide (i = 0)) (lastOf acc i) p).2.2 : Int) (acc ++ (diffR id b (n - 1 - i) (decide (i = 0)) (lastOf acc i) p).2.1) := by
  have hrl : b.length ≤ reachBytes := by rw [reachV]; omega
  have wn : IntKind.i64.wrap ((n : Int) - 1) = ((n - 1 : Nat) : Int) := by rw [wrap64 (by omega) (by omega)]; omega
  refine Ev.down (n - 1) ?_ ?_
  · refine Ev.suc (.all fun k R p acc X0 X1 hp ha _ _ => ?_)
    rw [f59_l3, wn]
    simp [diffR]
  · intro i hi hh
    have h70 : Ev fun k => ∀ p, p ≤ b.length → ∀ (R : Type) (K : Int → Int → Bool → Int → Option R), f70 k b (p : Int) K = K (readV b p).1 (readV b p).2.1 (readV b p).2.2.1 (readV b p).2.2.2 :=
      Ev.forall_le fun p hp => f70_v b hb hrl p (by rw [reachV] at *; omega)
    have h66 : Ev fun k => ∀ p, p ≤ b.length → ∀ (R : Type) (K : Int → Int → Int → Option R), f66 k b (p : Int) K = K (readS b p).1 (readS b p).2.1 (readS b p).2.2 ∧ f71 k b (p : Int) K = K (readS b p).1 (readS b p).2.1 (readS b p).2.2 :=
      Ev.forall_le fun p hp => f66_v b hb hrl p (by rw [reachV] at *; omega)
    refine Ev.suc (hh.imp3 h70 h66 fun k hk h70 h66 R p acc X0 X1 hp ha hl1 hl2 => ?_)
    have hmi : n - 1 - i = (n - 1 - (i + 1)) + 1 := by omega
    have hz1 : decide (i + 1 = 0) = false := by simp
    have fin : ∀ (v : Int) (m : Nat), -72057594037927936 < v → v < 72057594037927936 → p + m ≤ b.length →
        f59_l3 f70 f71 k b (n : Int) (IntKind.i64.wrap ((p : Int) + (m : Int))) (IntKind.i64.wrap ((i : Int) + 1)) (acc ++ [lastOf acc i + v]) X0 X1 =
        if (diffR id b (n - 1 - (i + 1)) false (lastOf acc i + v) (p + m)).1 ≠ 0 then X1 0 (diffR id b (n - 1 - (i + 1)) false (lastOf acc i + v) (p + m)).1
        else X0 ((diffR id b (n - 1 - (i + 1)) false (lastOf acc i + v) (p + m)).2.2 : Int) (acc ++ [lastOf acc i + v] ++ (diffR id b (n - 1 - (i + 1)) false (lastOf acc i + v) (p + m)).2.1) := by
      intro v m hv1 hv2 hpn
      have hlast : lastOf (acc ++ [lastOf acc i + v]) (i + 1) = lastOf acc i + v := by
        have e : (acc ++ [lastOf acc i + v]).getD i 0 = lastOf acc i + v := by
          rw [getD_get (by simp [ha]), List.getElem_append_right (by omega)]; simp
        have : lastOf (acc ++ [lastOf acc i + v]) (i + 1) = (acc ++ [lastOf acc i + v]).getD i 0 := by simp [lastOf]
        rw [this, e]
      rw [wrapSuc (by omega), wrapAdd (by omega), hk R (p + m) (acc ++ [lastOf acc i + v]) X0 X1 hpn (by simp [ha]) (by rw [hlast]; push_cast; omega) (by rw [hlast]; push_cast; omega), hz1, hlast]
    rw [f59_l3, wn, lt_nat]
    simp only [hi, decide_true, cond_true]
    rw [hmi]
    by_cases hz : i = 0
    · have e0 : ((i : Int) == 0) = true := by simp [hz]
      have d0 : decide (i = 0) = true := by simp [hz]
      have l0 : lastOf acc i = 0 := by simp [lastOf, hz]
      have g0 : decide ((i : Int) > 0) = false := by simp [hz]
      rw [e0, cond_true, h70 p hp, d0, bne_dec, l0]
      rw [l0] at fin
      simp only [diffR, if_true, g0]
      have ok := readFS_ok hb true (p := p)
      simp only [if_true] at ok
      unfold readF at ok ⊢
      by_cases he : (readV b p).2.2.2 = 0
      · cases hu : (readV b p).2.2.1 with
        | true => simp [he]
        | false =>
          simp only [he, hu, ne_eq, not_true_eq_false, if_false, Bool.false_eq_true] at ok ⊢
          obtain ⟨o1, o2, m, o3, _, _, o4⟩ := ok trivial
          simp only [decide_true, Bool.not_true, cond_false, o3, Int.toNat_natCast]
          have := fin (readV b p).1 m o1 o2 o4
          simp only [Int.zero_add] at this ⊢
          rw [room_ok (by simp; omega), cond_true, this]
          by_cases hq : (diffR id b (n - 1 - (i + 1)) false (readV b p).1 (p + m)).1 = 0
          · simp [hq]
          · simp [hq]
      · simp [he]
    · have e0 : ((i : Int) == 0) = false := by simp; exact hz
      have d0 : decide (i = 0) = false := by simp [hz]
      have g0 : decide ((i : Int) > 0) = true := by simp; omega
      have w1 : IntKind.i64.wrap ((i : Int) - 1) = ((i - 1 : Nat) : Int) := by rw [wrap64 (by omega) (by omega)]; omega
      have l0 : acc.getD (i - 1) 0 = lastOf acc i := by simp [lastOf, hz]
      rw [e0, cond_false, (h66 p hp R _).2, d0, bne_dec]
      simp only [diffR, Bool.false_eq_true, if_false, g0, cond_true, w1, inb_nat, ha, show i - 1 < i by omega, decide_true, Int.toNat_natCast]
      have ok := readFS_ok hb false (p := p)
      simp only [Bool.false_eq_true, if_false] at ok
      rw [l0]
      by_cases he : (readS b p).2.2 = 0
      · obtain ⟨o1, o2, m, o3, _, _, o4⟩ := ok he
        have hi32 : (i : Int) ≤ 31 := by omega
        have w2 : IntKind.i64.wrap ((readS b p).1 + lastOf acc i) = lastOf acc i + (readS b p).1 := by rw [wrap64 (by omega) (by omega)]; omega
        simp only [he, ne_eq, not_true_eq_false, if_false, decide_true, Bool.not_true, cond_false, o3, Int.toNat_natCast, w2]
        rw [room_ok (by simp; omega), cond_true, fin _ m o1 o2 o4]
        by_cases hq : (diffR id b (n - 1 - (i + 1)) false (lastOf acc i + (readS b p).1) (p + m)).1 = 0
        · simp [hq]
        · simp [hq]
      · simp [he]

theorem f59_v (b : List Int) (hl : b.length ≤ 300000) (hb : okBy b) (n : Nat) (hn : 1 ≤ n) (hn' : n ≤ 32) (p : Nat) (hp : p ≤ b.length) : Ev fun k => ∀ (R : Type) (K : Int → Int → List Int → Option R), f59 k b (n : Int) (p : Int) K =
    if (diffR id b (n - 1) true 0 p).1 ≠ 0 then K 0 (diffR id b (n - 1) true 0 p).1 [] else K ((diffR id b (n - 1) true 0 p).2.2 : Int) 0 (diffR id b (n - 1) true 0 p).2.1 := by
  refine (f59_loop b hl hb n hn hn' 0 (by omega)).imp fun k h R K => ?_
  simp only [Int.natCast_zero] at h
  simp only [f59, f59_s]
  rw [h R p [] _ _ hp rfl (by simp [lastOf]) (by simp [lastOf])]
  simp [lastOf]

/-! whether sizes fit -/
def fitR : List Int → Int → Int × Int
  | [], left => (if left > 65536 then 2 else 0, left)
  | s :: l, left => if s < 0 then (50, left) else if s > left then (3, left) else if s > 65536 then (2, left) else fitR l (left - s)

theorem fit_left : ∀ {l : List Int} {left : Int}, 0 ≤ left → 0 ≤ (fitR l left).2 ∧ (fitR l left).2 ≤ left
  | [], left, h => by simp [fitR, h]
  | s :: l, left, h => by
    simp only [fitR]
    split
    · simp [h]
    · split
      · simp [h]
      · split
        · simp [h]
        · have := fit_left (l := l) (left := left - s) (by omega)
          omega

/-- Errors and places do not depend on the sums. -/
theorem diffR_err (cl cl' : Int → Int) (b : List Int) : ∀ (m : Nat) (first : Bool) (x y : Int) (p : Nat), (diffR cl b m first x p).1 = (diffR cl' b m first y p).1 ∧ (diffR cl b m first x p).2.2 = (diffR cl' b m first y p).2.2
  | 0, _, _, _, _ => ⟨rfl, rfl⟩
  | m + 1, first, x, y, p => by
    simp only [diffR]
    have ih := diffR_err cl cl' b m false (cl (x + (if first = true then readF b p else readS b p).1)) (cl' (y + (if first = true then readF b p else readS b p).1)) (p + (if first = true then readF b p else readS b p).2.1.toNat)
    generalize (if first = true then readF b p else readS b p) = r at *
    by_cases h : r.2.2 ≠ 0
    · rw [if_pos h, if_pos h]; exact ⟨rfl, rfl⟩
    · rw [if_neg h, if_neg h, ih.1, ih.2]
      split <;> exact ⟨rfl, rfl⟩

theorem fit_diff (b : List Int) (left : Int) (hleft : left < 1000000000) : ∀ (m : Nat) (first : Bool) (x : Int) (p : Nat) (lf : Int), lf ≤ left → (diffR id b m first x p).1 = 0 →
    (fitR (diffR clampZ b m first x p).2.1 lf).1 = (fitR (diffR id b m first x p).2.1 lf).1 ∧ ((fitR (diffR id b m first x p).2.1 lf).1 = 0 → (diffR clampZ b m first x p).2.1 = (diffR id b m first x p).2.1)
  | 0, first, x, p, lf, _, _ => ⟨rfl, fun _ => rfl⟩
  | m + 1, first, x, p, lf, hlf, h => by
    have he := (diffR_err clampZ id b (m + 1) first x x p).1
    rw [h] at he
    simp only [diffR] at h he ⊢
    generalize (if first = true then readF b p else readS b p) = r at *
    by_cases hr : r.2.2 ≠ 0
    · rw [if_pos hr] at h; simp at h; exact absurd h hr
    · rw [if_neg hr] at h he ⊢
      rw [if_neg hr]
      by_cases h1 : (diffR id b m false (id (x + r.1)) (p + r.2.1.toNat)).1 ≠ 0
      · rw [if_pos h1] at h; simp at h; exact absurd h h1
      · by_cases h2 : (diffR clampZ b m false (clampZ (x + r.1)) (p + r.2.1.toNat)).1 ≠ 0
        · rw [if_pos h2] at he; simp at he; exact absurd he h2
        · rw [if_neg h1, if_neg h2]
          simp only [id, fitR]
          by_cases hlow : x + r.1 < -1152921504606846976
          · have e : clampZ (x + r.1) = -1152921504606846976 := by unfold clampZ; rw [if_pos hlow]
            have a : x + r.1 < 0 := by omega
            rw [e, if_pos (by decide), if_pos a]
            simp
          · by_cases hhi : 1152921504606846976 < x + r.1
            · have e : clampZ (x + r.1) = 1152921504606846976 := by unfold clampZ; rw [if_neg hlow, if_pos hhi]
              have a1 : ¬ x + r.1 < 0 := by omega
              have a2 : x + r.1 > lf := by omega
              have a3 : (1152921504606846976 : Int) > lf := by omega
              rw [e, if_neg (by decide), if_pos a3, if_neg a1, if_pos a2]
              simp
            · have e : clampZ (x + r.1) = x + r.1 := by unfold clampZ; rw [if_neg hlow, if_neg hhi]
              rw [e] at h2 ⊢
              have h1' : (diffR id b m false (x + r.1) (p + r.2.1.toNat)).1 = 0 := by simpa using h1
              by_cases c1 : x + r.1 < 0
              · rw [if_pos c1, if_pos c1]; simp
              · by_cases c2 : x + r.1 > lf
                · rw [if_neg c1, if_pos c2, if_neg c1, if_pos c2]; simp
                · by_cases c3 : x + r.1 > 65536
                  · rw [if_neg c1, if_neg c2, if_pos c3, if_neg c1, if_neg c2, if_pos c3]; simp
                  · rw [if_neg c1, if_neg c2, if_neg c3, if_neg c1, if_neg c2, if_neg c3]
                    have ih := fit_diff b left hleft m false (x + r.1) (p + r.2.1.toNat) (lf - (x + r.1)) (by omega) h1'
                    exact ⟨ih.1, fun hz => by rw [ih.2 hz]⟩
end Go.Proofs.Ytnmoccdnkpkhhaa

/-! All sizes of a block's frames, read. -/
namespace Go.Proofs.Ytnmoccdnkpkhhaa
open Go Go.Am

def fitL : List Int → Int → Int × Int
  | [], left => (0, left)
  | s :: l, left => if s < 0 then (50, left) else if s > left then (3, left) else if s > 65536 then (2, left) else fitL l (left - s)
theorem fitR_L : ∀ (l : List Int) (left : Int), fitR l left = if (fitL l left).1 ≠ 0 then fitL l left else (if (fitL l left).2 > 65536 then 2 else 0, (fitL l left).2)
  | [], left => by simp [fitR, fitL]
  | s :: l, left => by
    simp only [fitR, fitL]
    split
    · simp
    · split
      · simp
      · split
        · simp
        · exact fitR_L l (left - s)
theorem fitL_left : ∀ {l : List Int} {left : Int}, 0 ≤ left → 0 ≤ (fitL l left).2 ∧ (fitL l left).2 ≤ left
  | [], left, h => by simp [fitL, h]
  | s :: l, left, h => by
    simp only [fitL]
    split
    · simp [h]
    · split
      · simp [h]
      · split
        · simp [h]
        · have := fitL_left (l := l) (left := left - s) (by omega)
          omega

theorem f39_loop (l : List Int) (hl : l.length ≤ 1000) (c1 c2 : Int) (c3 : Bool) (c4 c5 c6 : Int) : ∀ i, i ≤ l.length → Ev fun k => ∀ (R : Type) (left : Int) (X0 : Int → Int → Int → Bool → Int → Int → Int → List Int → Option R) (X1 : Int → Option R), 0 ≤ left → left ≤ 1000000000 →
    f39_l7 f56 k left (l.length : Int) (i : Int) c1 c2 c3 c4 c5 c6 l X0 X1 = if (fitL (l.drop i) left).1 = 0 then X0 (fitL (l.drop i) left).2 c1 c2 c3 c4 c5 c6 l else X1 (fitL (l.drop i) left).1 := by
  refine Ev.down l.length ?_ ?_
  · exact Ev.suc (.all fun k R left X0 X1 _ _ => by simp [f39_l7, fitL])
  · intro i hi hh
    refine Ev.suc (hh.imp fun k hk R left X0 X1 h0 h1 => ?_)
    rw [f39_l7, lt_nat, inb_nat, wrapSuc (by omega)]
    simp only [hi, decide_true, cond_true, Int.toNat_natCast, getD_get hi]
    have step : fitL (l.drop i) left = if l[i] < 0 then (50, left) else if l[i] > left then (3, left) else if l[i] > 65536 then (2, left) else fitL (l.drop (i + 1)) (left - l[i]) := by
      rw [List.drop_eq_getElem_cons hi]; rfl
    by_cases a : l[i] < 0
    · rw [if_pos a] at step
      simp [step, a]
    · rw [if_neg a] at step
      by_cases c : l[i] > left
      · rw [if_pos c] at step
        have c' : left < l[i] := c
        simp [step, a, c']
      · rw [if_neg c] at step
        by_cases d : l[i] > 65536
        · rw [if_pos d] at step
          have e : ¬ left < l[i] := c
          have e2 : 65536 < l[i] := d
          simp [step, a, e, e2]
        · rw [if_neg d] at step
          have w : IntKind.i64.wrap (left - l[i]) = left - l[i] := wrap64 (by omega) (by omega)
          rw [decide_eq_false a, decide_eq_false c, decide_eq_false d, w]
          simp only [cond_false, step]
          exact hk R (left - l[i]) X0 X1 (by omega) (by omega)

theorem f60_loop (l : List Int) (hl : l.length ≤ 1000) : ∀ i, i ≤ l.length → Ev fun k => ∀ (R : Type) (left : Int) (X0 X1 : Int → List Int → Option R), 0 ≤ left → left ≤ 1000000000 →
    f60_l2 k left (i : Int) l X0 X1 = if (fitL (l.drop i) left).1 = 0 then X0 (fitL (l.drop i) left).2 l else X1 (fitL (l.drop i) left).1 l := by
  refine Ev.down l.length ?_ ?_
  · exact Ev.suc (.all fun k R left X0 X1 _ _ => by simp [f60_l2, fitL])
  · intro i hi hh
    refine Ev.suc (hh.imp fun k hk R left X0 X1 h0 h1 => ?_)
    rw [f60_l2, lt_nat, inb_nat, wrapSuc (by omega)]
    simp only [hi, decide_true, cond_true, Int.toNat_natCast, getD_get hi]
    have step : fitL (l.drop i) left = if l[i] < 0 then (50, left) else if l[i] > left then (3, left) else if l[i] > 65536 then (2, left) else fitL (l.drop (i + 1)) (left - l[i]) := by
      rw [List.drop_eq_getElem_cons hi]; rfl
    by_cases a : l[i] < 0
    · rw [if_pos a] at step
      simp [step, a]
    · rw [if_neg a] at step
      by_cases c : l[i] > left
      · rw [if_pos c] at step
        have c' : left < l[i] := c
        simp [step, a, c']
      · rw [if_neg c] at step
        by_cases d : l[i] > 65536
        · rw [if_pos d] at step
          have e : ¬ left < l[i] := c
          have e2 : 65536 < l[i] := d
          simp [step, a, e, e2]
        · rw [if_neg d] at step
          have w : IntKind.i64.wrap (left - l[i]) = left - l[i] := wrap64 (by omega) (by omega)
          rw [decide_eq_false a, decide_eq_false c, decide_eq_false d, w]
          simp only [cond_false, step]
          exact hk R (left - l[i]) X0 X1 (by omega) (by omega)

/-- The sizes with the last one, or the error. -/
def fitS (l : List Int) (left : Int) : Int × List Int := if (fitR l left).1 ≠ 0 then ((fitR l left).1, []) else (0, l ++ [(fitR l left).2])

theorem f60_v (l : List Int) (hl : l.length ≤ 1000) {left : Int} (h0 : 0 ≤ left) (h1 : left ≤ 1000000000) : Ev fun k => ∀ (R : Type) (K : Int → List Int → Option R), f60 k left l K = K (fitS l left).1 (fitS l left).2 := by
  refine (f60_loop l hl 0 (by omega)).imp fun k h R K => ?_
  simp only [Int.natCast_zero, List.drop_zero] at h
  simp only [f60, f60_s, h R left _ _ h0 h1, fitS, fitR_L]
  by_cases e : (fitL l left).1 = 0
  · by_cases d : (fitL l left).2 > 65536
    · have d' : 65536 < (fitL l left).2 := d
      simp [e, d']
    · have d' : ¬ 65536 < (fitL l left).2 := d
      simp [e, d', room_ok (b := 8) (n := l.length + 1) (by omega)]
  · simp [e]

theorem f60_2_v {left : Int} : Ev fun k => ∀ (R : Type) (K : Int → List Int → Option R), f60_2 k left K = K (fitS [] left).1 (fitS [] left).2 := by
  refine .suc (.all fun k R K => ?_)
  simp only [f60_2, f60_2_s, f60_2_l2, fitS, fitR]
  by_cases d : left > 65536
  · have d' : 65536 < left := d
    simp [d']
  · have d' : ¬ 65536 < left := d
    simp [d', room]

/-! equal sizes -/
def mulH (a0 a1 : Int) : Int := IntKind.u64.wrap ((IntKind.u64.wrap ((IntKind.u64.wrap ((shrI .u64 a0 32) * (shrI .u64 a1 32))) + (shrI .u64 (IntKind.u64.wrap ((IntKind.u64.wrap ((shrI .u64 a0 32) * (andI .u64 a1 4294967295))) + (shrI .u64 (IntKind.u64.wrap ((andI .u64 a0 4294967295) * (andI .u64 a1 4294967295))) 32))) 32))) + (shrI .u64 (IntKind.u64.wrap ((andI .u64 (IntKind.u64.wrap ((IntKind.u64.wrap ((shrI .u64 a0 32) * (andI .u64 a1 4294967295))) + (shrI .u64 (IntKind.u64.wrap ((andI .u64 a0 4294967295) * (andI .u64 a1 4294967295))) 32))) 4294967295) + (IntKind.u64.wrap ((andI .u64 a0 4294967295) * (shrI .u64 a1 32))))) 32))
theorem mul_all : (List.range 32).all (fun m => decide (mulH 1 (IntKind.u64.wrap (m : Int)) = 0)) = true := by kernel_rfl

theorem f56_loop (x : Int) (n : Nat) (hn : n ≤ 31) : ∀ (d c : Nat), n - c = d → 1 ≤ c → c ≤ n → Ev fun k => ∀ (R : Type) (X : List Int → Option R), f56_l8 f69 k (c : Int) (List.replicate c x ++ List.replicate (n - c) 0) X = X (List.replicate n x) := by
  intro d
  induction d using Nat.strongRecOn with
  | _ d rec =>
    intro c hd h1 h2
    by_cases hq : c = n
    · subst hq
      exact .suc (.all fun k R X => by simp [f56_l8])
    · have hlt : c < n := by omega
      have ih := rec (n - (c + min c (n - c))) (by omega) (c + min c (n - c)) rfl (by omega) (by omega)
      refine .suc (ih.imp fun k hk R X => ?_)
      have hlen : (List.replicate c x ++ List.replicate (n - c) (0 : Int)).length = n := by simp; omega
      have e1 : (List.replicate c x ++ List.replicate (n - c) (0 : Int)).take c = List.replicate c x := by
        rw [List.take_append_of_le_length (by simp)]; simp
      have e2 : (List.replicate c x ++ List.replicate (n - c) (0 : Int)).drop (c + min c (n - c)) = List.replicate (n - (c + min c (n - c))) 0 := by
        rw [List.drop_append, List.drop_eq_nil_of_le (by simp)]
        simp; omega
      have e3 : (List.replicate c x).length = c := by simp
      have e4 : (List.replicate c x).take (min c (n - c)) = List.replicate (min c (n - c)) x := by rw [List.take_replicate]; congr 1; omega
      rw [f56_l8, hlen, lt_nat, upto_nat]
      simp only [hlt, decide_true, cond_true, Int.toNat_natCast, show c ≤ n by omega, e1, e3, e2, e4]
      rw [wrapAdd (by omega), List.replicate_append_replicate]
      exact hk R X

theorem f56_v (x : Int) (n : Nat) (hn : n ≤ 31) : Ev fun k => ∀ (R : Type) (K : List Int → Option R), f56 k [x] (n : Int) K = K (List.replicate n x) := by
  have hm := List.all_eq_true.1 mul_all n (by simp; omega)
  have hm : mulH 1 (IntKind.u64.wrap (n : Int)) = 0 := of_decide_eq_true hm
  have u1 : IntKind.u64.wrap ((([x] : List Int).length : Int)) = 1 := by
    have : ([x] : List Int).length = 1 := rfl
    rw [this]; decide
  have u2 : IntKind.u64.wrap (n : Int) = n := wrapU64 (by omega) (by omega)
  have u3 : IntKind.u64.wrap (1 * (n : Int)) = n := by rw [Int.one_mul]; exact u2
  have w : IntKind.i64.wrap (n : Int) = n := wrap64 (by omega) (by omega)
  have main : Ev fun k => ∀ (R : Type) (X : List Int → Option R), f56_l8 f69 k ((min [x].length (List.replicate n (0 : Int)).length : Nat) : Int) ([x].take (min [x].length (List.replicate n (0 : Int)).length) ++ (List.replicate n (0 : Int)).drop (min [x].length (List.replicate n (0 : Int)).length)) X = X (List.replicate n x) := by
    by_cases h0 : n = 0
    · subst h0
      exact .suc (.all fun k R X => by simp [f56_l8])
    · have e0 : min [x].length (List.replicate n (0 : Int)).length = 1 := by simp; omega
      have := f56_loop x n hn (n - 1) 1 rfl (by omega) (by omega)
      rw [e0]
      simpa using this
  refine main.imp fun k hk R K => ?_
  have n0 : decide ((n : Int) < 0) = false := by simp
  have g0 : decide (mulH 1 (n : Int) > 0) = false := by rw [u2] at hm; rw [hm]; decide
  have g1 : decide ((n : Int) > 9223372036854775807) = false := by simp; omega
  have t1 : decide ((0 : Int) ≤ (n : Int)) = true := by simp
  have t2 : decide ((n : Int) ≤ (n : Int)) = true := by simp
  have t3 : decide ((n : Int) * ((8 : Nat) : Int) ≤ 140737488355328) = true := by simp; omega
  simp only [f56, f56_s, f69, f69_s, f74, f74_s, n0, cond_false, u1, u2, u3]
  have g0' := g0
  unfold mulH at g0'
  rw [g0', g1, w, t1, t2, t3]
  simp only [Bool.and_self, cond_true, cond_false, Int.toNat_natCast]
  exact hk R K
end Go.Proofs.Ytnmoccdnkpkhhaa

/-! The head of a block, read by the program and by the chapter. -/
namespace Go.Proofs.Ytnmoccdnkpkhhaa
open Go Go.Am

/-! flags -/
def lacC (c : Int) : Int := andI .i64 (shrI .i64 c 1) 3
def flagC (c : Nat) : Bool := decide (((andNotI .u8 (c : Int) 134) != 0) = ((andI .i64 (c : Int) 121) != 0) ∧ ((andI .u8 (c : Int) 128) != 0) = decide ((c : Int) ≥ 128) ∧
  IntKind.i64.wrap (andI .u8 (shrI .u8 (c : Int) 1) 3) = lacC (c : Int) ∧ 0 ≤ lacC (c : Int) ∧ lacC (c : Int) ≤ 3 ∧ IntKind.i64.wrap (c : Int) = (c : Int))
theorem flag_all : (List.range 256).all flagC = true := by kernel_rfl
theorem flag_of {c : Int} (h : 0 ≤ c) (h' : c < 256) : ((andNotI .u8 c 134) != 0) = ((andI .i64 c 121) != 0) ∧ ((andI .u8 c 128) != 0) = decide (c ≥ 128) ∧
    IntKind.i64.wrap (andI .u8 (shrI .u8 c 1) 3) = lacC c ∧ 0 ≤ lacC c ∧ lacC c ≤ 3 ∧ IntKind.i64.wrap c = c := by
  obtain ⟨n, rfl⟩ : ∃ n : Nat, c = n := ⟨c.toNat, by omega⟩
  have := List.all_eq_true.1 flag_all n (by simp; omega)
  exact of_decide_eq_true this

/-! time -/
def timeC (a c : Int) : Int := if 32768 ≤ a * 256 + c then a * 256 + c - 65536 else a * 256 + c
theorem wrapU16 {x : Int} (h : 0 ≤ x) (h' : x < 65536) : IntKind.u16.wrap x = x := by
  simp [IntKind.wrap, IntKind.signed, IntKind.bits]; omega
theorem ofInt16 {n : Nat} (h : n < 65536) : (BitVec.ofInt 16 (n : Int)).toNat = n := by
  rw [BitVec.toNat_ofInt]
  have e : (2 ^ 16 : Nat) = 65536 := by decide
  rw [e, Int.emod_eq_of_lt (by omega) (by omega)]
  omega
theorem time_of {a c : Int} (h : 0 ≤ a) (h' : a < 256) (hc : 0 ≤ c) (hc' : c < 256) : IntKind.i64.wrap (IntKind.i16.wrap (orI .u16 (shlI .u16 (IntKind.u16.wrap a) 8) (IntKind.u16.wrap c))) = timeC a c := by
  obtain ⟨n, rfl⟩ : ∃ n : Nat, a = n := ⟨a.toNat, by omega⟩
  obtain ⟨m, rfl⟩ : ∃ n : Nat, c = n := ⟨c.toNat, by omega⟩
  rw [wrapU16 h (by omega), wrapU16 hc (by omega)]
  have s : shlI .u16 (n : Int) 8 = ((256 * n : Nat) : Int) := by
    have : (min (8 : Int).toNat IntKind.u16.bits) = 8 := rfl
    unfold shlI
    rw [this]
    have e : (n : Int) * 2 ^ 8 = ((256 * n : Nat) : Int) := by
      have : (2 : Int) ^ 8 = 256 := by decide
      rw [this]; omega
    rw [e, wrapU16 (by omega) (by omega)]
  rw [s]
  have e1 : (BitVec.ofInt IntKind.u16.bits ((256 * n : Nat) : Int)).toNat = 256 * n := ofInt16 (by omega)
  have e2 : (BitVec.ofInt IntKind.u16.bits (m : Int)).toNat = m := ofInt16 (by omega)
  have o : orI .u16 ((256 * n : Nat) : Int) (m : Int) = ((256 * n + m : Nat) : Int) := by
    unfold orI
    rw [BitVec.toNat_or, e1, e2]
    have e3 : 256 * n = 2 ^ 8 * n := rfl
    rw [e3, ← Nat.two_pow_add_eq_or_of_lt (i := 8) (by omega) n, wrapU16 (by omega) (by omega)]
  rw [o]
  have w : IntKind.i16.wrap ((256 * n + m : Nat) : Int) = timeC n m := by
    unfold timeC
    simp [IntKind.wrap, IntKind.signed, IntKind.bits]
    split <;> split <;> omega
  rw [w]
  apply wrap64
  · unfold timeC; split <;> omega
  · unfold timeC; split <;> omega

/-- The head of a block: the error, and track, time, key, lacing, number of frames, place. -/
structure HeadR where
  err : Int
  track : Int
  time : Int
  key : Bool
  lacing : Int
  n : Nat
  at_ : Nat

def headR (b : List Int) : HeadR :=
  let r := readV b 0
  let n := r.2.1.toNat
  let bad (e : Int) : HeadR := ⟨e, 0, 0, false, 0, 0, 0⟩
  if r.2.2.2 ≠ 0 then bad r.2.2.2 else if r.2.2.1 = true then bad 4 else if r.1 < 1 then bad 1 else if 1000 < r.1 then bad 1 else if b.length < n + 3 then bad 3
  else
    let c := b.getD (n + 2) 0
    if (andI .i64 c 121 != 0) = true then bad 4
    else if lacC c = 0 then ⟨0, r.1, timeC (b.getD n 0) (b.getD (n + 1) 0), decide (c ≥ 128), lacC c, 1, n + 3⟩
    else if b.length = n + 3 then bad 3
    else if 31 < b.getD (n + 3) 0 then bad 2
    else ⟨0, r.1, timeC (b.getD n 0) (b.getD (n + 1) 0), decide (c ≥ 128), lacC c, (b.getD (n + 3) 0 + 1).toNat, n + 4⟩

theorem headR_ok {b : List Int} (hb : okBy b) (h : (headR b).err = 0) : 1 ≤ (headR b).n ∧ (headR b).n ≤ 32 ∧ (headR b).at_ ≤ b.length ∧ 0 ≤ (headR b).lacing ∧ (headR b).lacing ≤ 3 ∧ 1 ≤ (headR b).track ∧ (headR b).track ≤ 1000 := by
  obtain ⟨p1, p2, p3, p4⟩ := readV_ok hb (at_ := 0)
  unfold headR at *
  simp only at *
  split at h
  · rename_i he; simp at h; exact absurd h he
  rename_i he
  split at h
  · simp at h
  rename_i hu
  split at h
  · simp at h
  rename_i h1
  split at h
  · simp at h
  rename_i h2
  split at h
  · simp at h
  rename_i h3
  split at h
  · simp at h
  rename_i h4
  rw [if_neg he, if_neg hu, if_neg h1, if_neg h2, if_neg h3, if_neg h4]
  have hi : (readV b 0).2.1.toNat + 2 < b.length := by omega
  have hc := hb _ (List.getElem_mem hi)
  have hg : b.getD ((readV b 0).2.1.toNat + 2) 0 = b[(readV b 0).2.1.toNat + 2] := getD_get hi
  obtain ⟨_, _, _, f4, f5, _⟩ := flag_of hc.1 hc.2
  rw [← hg] at f4 f5
  by_cases h5 : lacC (b.getD ((readV b 0).2.1.toNat + 2) 0) = 0
  · rw [if_pos h5]
    exact ⟨by simp, by simp, by simp only; omega, f4, f5, by simp only; omega, by simp only; omega⟩
  · rw [if_neg h5] at h ⊢
    by_cases h6 : b.length = (readV b 0).2.1.toNat + 3
    · rw [if_pos h6] at h; simp at h
    · rw [if_neg h6] at h ⊢
      have hi3 : (readV b 0).2.1.toNat + 3 < b.length := by omega
      have hc3 := hb _ (List.getElem_mem hi3)
      have hg3 : b.getD ((readV b 0).2.1.toNat + 3) 0 = b[(readV b 0).2.1.toNat + 3] := getD_get hi3
      by_cases h7 : 31 < b.getD ((readV b 0).2.1.toNat + 3) 0
      · rw [if_pos h7] at h; simp at h
      · rw [if_neg h7]
        exact ⟨by simp only; omega, by simp only; omega, by simp only; omega, f4, f5, by simp only; omega, by simp only; omega⟩
end Go.Proofs.Ytnmoccdnkpkhhaa
