/- Proved: what is written is read again, and what the beginnings of it are read as. Conditions: the bytes of the frames are bytes, of at most 200,000 together. -/
import Derived.Test.YtnmoccdnkpkhhaaLcLaws4

/-! What is written is read again. -/
namespace Go.Proofs.Ytnmoccdnkpkhhaa
open Go Go.Am

theorem readV_drop (b : List Int) (p : Nat) : readV b p = readV (b.drop p) 0 := by
  unfold readV
  by_cases h : p < b.length
  · have h' : 0 < (b.drop p).length := by simp; omega
    have e : (b.drop p)[0] = b[p] := by simp
    rw [dif_pos h, dif_pos h', e]
    have el : (b.drop p).length - 0 = b.length - p := by simp
    have ed : (b.drop p).drop (0 + 1) = b.drop (p + 1) := by rw [List.drop_drop]
    rw [el, ed]
  · have h' : ¬ 0 < (b.drop p).length := by simp; omega
    rw [dif_neg h, dif_neg h']

/-- A first byte and what is behind it. -/
theorem readV_cons {c : Nat} {l : List Int} (hz : c ≠ 0) (hs : ¬ l.length + 1 < vsz c) : readV ((c : Int) :: l) 0 = if valF (l.take (vsz c - 1)) ((c : Int) - 2 ^ (8 - vsz c)) = 2 ^ (7 * vsz c) - 1 then (0, (vsz c : Int), true, 0) else (valF (l.take (vsz c - 1)) ((c : Int) - 2 ^ (8 - vsz c)), (vsz c : Int), false, 0) := by
  have := readV_val (b := (c : Int) :: l) (at_ := 0) (c := c) (by simp) rfl hz (by simpa using hs)
  simpa using this

theorem enc1 {v : Int} (h : 0 ≤ v) (h' : v < 127) (r : List Int) : readV (c1 (v + 128) ++ r) 0 = (v, 1, false, 0) := by
  obtain ⟨n, rfl⟩ : ∃ n : Nat, v = n := ⟨v.toNat, by omega⟩
  have e : c1 ((n : Int) + 128) ++ r = ((n + 128 : Nat) : Int) :: r := by simp [c1]; omega
  have v1 : vsz (n + 128) = 1 := by unfold vsz; rw [if_pos (by omega)]
  rw [e, readV_cons (by omega) (by rw [v1]; omega), v1]
  have : ((n + 128 : Nat) : Int) - 2 ^ (8 - 1) = n := by
    have : (2 : Int) ^ (8 - 1) = 128 := by decide
    rw [this]; omega
  rw [this]
  have q : (2 : Int) ^ (7 * 1) - 1 = 127 := by decide
  rw [q]
  simp only [Nat.sub_self, List.take_zero, valF, List.foldl_nil]
  rw [if_neg (by omega)]; rfl
theorem enc2 {v : Int} (h : 0 ≤ v) (h' : v < 16383) (r : List Int) : readV (c2 (v + 16384) ++ r) 0 = (v, 2, false, 0) := by
  obtain ⟨n, rfl⟩ : ∃ n : Nat, v = n := ⟨v.toNat, by omega⟩
  have e : c2 ((n : Int) + 16384) ++ r = ((n / 256 + 64 : Nat) : Int) :: ((n % 256 : Nat) : Int) :: r := by simp [c2]; omega
  have v1 : vsz (n / 256 + 64) = 2 := by unfold vsz; rw [if_neg (by omega), if_pos (by omega)]
  rw [e, readV_cons (by omega) (by rw [v1]; simp), v1]
  have : ((n / 256 + 64 : Nat) : Int) - 2 ^ (8 - 2) = ((n / 256 : Nat) : Int) := by
    have : (2 : Int) ^ (8 - 2) = 64 := by decide
    rw [this]; omega
  rw [this]
  have q : (2 : Int) ^ (7 * 2) - 1 = 16383 := by decide
  rw [q]
  have w : valF ((((n % 256 : Nat) : Int) :: r).take (2 - 1)) ((n / 256 : Nat) : Int) = n := by
    simp only [valF, Nat.reduceSub, List.take_succ_cons, List.take_zero, List.foldl_cons, List.foldl_nil]; omega
  rw [w, if_neg (by omega)]; rfl
theorem enc3 {v : Int} (h : 0 ≤ v) (h' : v < 2097151) (r : List Int) : readV (c3 (v + 2097152) ++ r) 0 = (v, 3, false, 0) := by
  obtain ⟨n, rfl⟩ : ∃ n : Nat, v = n := ⟨v.toNat, by omega⟩
  have e : c3 ((n : Int) + 2097152) ++ r = ((n / 256 / 256 + 32 : Nat) : Int) :: ((n / 256 % 256 : Nat) : Int) :: ((n % 256 : Nat) : Int) :: r := by simp [c3]; omega
  have v1 : vsz (n / 256 / 256 + 32) = 3 := by unfold vsz; rw [if_neg (by omega), if_neg (by omega), if_pos (by omega)]
  rw [e, readV_cons (by omega) (by rw [v1]; simp), v1]
  have : ((n / 256 / 256 + 32 : Nat) : Int) - 2 ^ (8 - 3) = ((n / 256 / 256 : Nat) : Int) := by
    have : (2 : Int) ^ (8 - 3) = 32 := by decide
    rw [this]; omega
  rw [this]
  have q : (2 : Int) ^ (7 * 3) - 1 = 2097151 := by decide
  rw [q]
  have w : valF ((((n / 256 % 256 : Nat) : Int) :: ((n % 256 : Nat) : Int) :: r).take (3 - 1)) ((n / 256 / 256 : Nat) : Int) = n := by
    simp only [valF, Nat.reduceSub, List.take_succ_cons, List.take_zero, List.foldl_cons, List.foldl_nil]; omega
  rw [w, if_neg (by omega)]; rfl

theorem readV_vint {v : Int} (h : 0 ≤ v) (h' : v < 2097151) (r : List Int) : readV (vintB v ++ r) 0 = (v, ((vintB v).length : Int), false, 0) := by
  unfold vintB
  split
  · rw [enc1 h (by omega)]; rfl
  · split
    · rw [enc2 h (by omega)]; rfl
    · rw [enc3 h h']; rfl
theorem readF_vint {v : Int} (h : 0 ≤ v) (h' : v < 2097151) {b r : List Int} {p : Nat} (hb : b.drop p = vintB v ++ r) : readF b p = (v, ((vintB v).length : Int), 0) := by
  have e : readV b p = (v, ((vintB v).length : Int), false, 0) := by rw [readV_drop, hb, readV_vint h h']
  unfold readF; rw [e]; simp
theorem readS_sgn {d : Int} (h : -1048575 ≤ d) (h' : d ≤ 1048575) {b r : List Int} {p : Nat} (hb : b.drop p = sgnB d ++ r) : readS b p = (d, ((sgnB d).length : Int), 0) := by
  have key : ∃ n : Nat, readV b p = (d + halfZ n, (n : Int), false, 0) ∧ n = (sgnB d).length := by
    rw [readV_drop, hb]
    unfold sgnB
    split
    · exact ⟨1, by rw [enc1 (v := d + 63) (by omega) (by omega)]; rfl, rfl⟩
    · split
      · exact ⟨2, by rw [enc2 (v := d + 8191) (by omega) (by omega)]; rfl, rfl⟩
      · exact ⟨3, by rw [enc3 (v := d + 1048575) (by omega) (by omega)]; rfl, rfl⟩
  obtain ⟨n, e, hn⟩ := key
  unfold readS; rw [e, ← hn]
  simp

/-! sizes by runs -/
theorem run1_rep (r : Int) (hr : r ≠ 255) (rest : List Int) : ∀ (q : Nat) (acc : Int) (p : Nat), run1 (List.replicate q 255 ++ r :: rest) acc p = some (acc + 255 * q + r, p + q + 1)
  | 0, acc, p => by simp [run1, hr]
  | q + 1, acc, p => by
    rw [List.replicate_succ, List.cons_append, run1, if_pos rfl, run1_rep r hr rest q]
    simp only [Option.some.injEq, Prod.mk.injEq]
    constructor
    · push_cast; omega
    · omega
theorem run1_runB (n : Nat) (rest : List Int) (p : Nat) : run1 (runB n ++ rest) 0 p = some ((n : Int), p + (runB n).length) := by
  have e : runB n ++ rest = List.replicate (n / 255) 255 ++ ((n % 255 : Nat) : Int) :: rest := by simp [runB]
  rw [e, run1_rep _ (by omega)]
  simp only [Option.some.injEq, Prod.mk.injEq]
  constructor
  · omega
  · simp [runB]; omega

def lensB (l : List (List Int)) : List Int := l.map fun f => (f.length : Int)
/-- The sizes of the frames from i on, but for the last one. -/
def midB (l : List (List Int)) (i : Nat) : List Int := (List.range' i (l.length - 1 - i)).map fun j => ((l.getD j []).length : Int)
theorem midB_step {l : List (List Int)} {i : Nat} (h : i < l.length - 1) : midB l i = ((l.getD i []).length : Int) :: midB l (i + 1) := by
  unfold midB
  have : l.length - 1 - i = (l.length - 1 - (i + 1)) + 1 := by omega
  rw [this, List.range'_succ]; rfl
theorem midB_end {l : List (List Int)} {i : Nat} (h : l.length - 1 ≤ i) : midB l i = [] := by
  unfold midB
  have : l.length - 1 - i = 0 := by omega
  rw [this]; rfl

theorem runs_back {l : List (List Int)} {b tail : List Int} : ∀ (d i p : Nat), l.length - 1 - i = d → i ≤ l.length - 1 → b.drop p = restB 1 l i ++ tail → runsR b d p = some (midB l i, p + (restB 1 l i).length)
  | 0, i, p, hd, hi, hb => by
    rw [midB_end (by omega), restB_end (by omega)]; rfl
  | d + 1, i, p, hd, hi, hb => by
    have hlt : i < l.length - 1 := by omega
    rw [restB_step hlt] at hb ⊢
    have hp : part 1 l i = runB (l.getD i []).length := by unfold part; rw [if_pos rfl]
    rw [hp] at hb ⊢
    rw [List.append_assoc] at hb
    have hb2 : b.drop (p + (runB (l.getD i []).length).length) = restB 1 l (i + 1) ++ tail := by
      rw [← List.drop_drop, hb, List.drop_left]
    simp only [runsR]
    rw [hb, run1_runB, midB_step hlt]
    simp only
    rw [runs_back d (i + 1) _ (by omega) (by omega) hb2]
    simp only [Option.some.injEq, Prod.mk.injEq, true_and, List.length_append]
    omega

/-! by differences -/
def prevB (l : List (List Int)) (i : Nat) : Int := if i = 0 then 0 else ((l.getD (i - 1) []).length : Int)
theorem diffs_back {l : List (List Int)} (h65 : ∀ f ∈ l, f.length ≤ 65536) {b tail : List Int} : ∀ (d i p : Nat), l.length - 1 - i = d → i ≤ l.length - 1 → b.drop p = restB 3 l i ++ tail → diffR id b d (decide (i = 0)) (prevB l i) p = (0, midB l i, p + (restB 3 l i).length)
  | 0, i, p, hd, hi, hb => by
    rw [midB_end (by omega), restB_end (by omega)]; rfl
  | d + 1, i, p, hd, hi, hb => by
    have hlt : i < l.length - 1 := by omega
    rw [restB_step hlt] at hb ⊢
    rw [List.append_assoc] at hb
    have hb2 : b.drop (p + (part 3 l i).length) = restB 3 l (i + 1) ++ tail := by
      rw [← List.drop_drop, hb, List.drop_left]
    have hgl : ∀ j, (l.getD j []).length ≤ 65536 := by
      intro j
      by_cases hj : j < l.length
      · rw [getD_get hj]; exact h65 _ (List.getElem_mem hj)
      · simp [List.getD, List.getElem?_eq_none (Nat.le_of_not_lt hj)]
    have l1 := hgl i
    have l2 := hgl (i - 1)
    have hr : (if decide (i = 0) = true then readF b p else readS b p) = (((l.getD i []).length : Int) - prevB l i, ((part 3 l i).length : Int), 0) := by
      by_cases hz : i = 0
      · have hp : part 3 l i = vintB ((l.getD i []).length : Int) := by unfold part; rw [if_neg (by decide), if_pos rfl, if_pos hz]
        rw [if_pos (by simp [hz]), hp]
        rw [hp] at hb
        rw [readF_vint (by omega) (by omega) hb]
        simp [prevB, hz]
      · have hp : part 3 l i = sgnB (((l.getD i []).length : Int) - ((l.getD (i - 1) []).length : Int)) := by unfold part; rw [if_neg (by decide), if_pos rfl, if_neg hz]
        rw [if_neg (by simp [hz]), hp]
        rw [hp] at hb
        rw [readS_sgn (by omega) (by omega) hb]
        simp [prevB, hz]
    have ih := diffs_back h65 d (i + 1) (p + (part 3 l i).length) (by omega) (by omega) hb2
    have hpv : prevB l (i + 1) = ((l.getD i []).length : Int) := by simp [prevB]
    have hz1 : decide (i + 1 = 0) = false := by simp
    rw [hpv, hz1] at ih
    simp only [diffR, hr, id, Int.toNat_natCast]
    have e : prevB l i + (((l.getD i []).length : Int) - prevB l i) = ((l.getD i []).length : Int) := by omega
    rw [e, ih, midB_step hlt]
    simp only [ne_eq, not_true_eq_false, if_false, List.length_append, Prod.mk.injEq, true_and]
    omega
end Go.Proofs.Ytnmoccdnkpkhhaa

/-! The head of what is written; beginnings of bytes. -/
namespace Go.Proofs.Ytnmoccdnkpkhhaa
open Go Go.Am

theorem getD_of_drop {l : List Int} {n j : Nat} {d : Int} : l.getD (n + j) d = (l.drop n).getD j d := by
  simp [List.getD, List.getElem?_drop]

theorem flag_back {lacing : Int} (h : 0 ≤ lacing) (h' : lacing ≤ 3) (key : Bool) : (andI .i64 (2 * lacing + if key then 128 else 0) 121 != 0) = false ∧ lacC (2 * lacing + if key then 128 else 0) = lacing ∧ decide ((2 * lacing + if key then 128 else 0) ≥ 128) = key := by
  have : lacing = 0 ∨ lacing = 1 ∨ lacing = 2 ∨ lacing = 3 := by omega
  rcases this with rfl | rfl | rfl | rfl <;> cases key <;> decide
theorem time_back {t : Int} (h : -32768 ≤ t) (h' : t ≤ 32767) : timeC (t / 256 % 256) (t % 256) = t := by
  unfold timeC; split <;> omega

theorem one_frame {l : List (List Int)} (h : framesE 0 l = 0) : l.length = 1 := by
  have hf := fine_of h
  unfold framesE at h
  split at h
  · simp at h
  · split at h
    · simp at h
    · split at h
      · simp at h
      · rename_i hc
        have := hf.pos
        omega

/-- Where what is behind the number of frames begins. -/
def at0 (x : D0) : Nat := (vintB x.1).length + 3 + if x.2.2.2.1 = 0 then 0 else 1

theorem write_split (x : D0) : writeB x = vintB x.1 ++ (x.2.1 / 256 % 256 :: x.2.1 % 256 :: flagB x :: (codedB x.2.2.2.1 x.2.2.2.2 ++ x.2.2.2.2.flatten)) := by
  simp [writeB, headB]

theorem head_back {x : D0} (hf : FineB x) : headR (writeB x) = ⟨0, x.1, x.2.1, x.2.2.1, x.2.2.2.1, x.2.2.2.2.length, at0 x⟩ := by
  have hr : readV (writeB x) 0 = (x.1, ((vintB x.1).length : Int), false, 0) := by
    rw [write_split]
    exact readV_vint (by have := hf.track; omega) (by have := hf.track; omega) _
  have hd : (writeB x).drop (vintB x.1).length = x.2.1 / 256 % 256 :: x.2.1 % 256 :: flagB x :: (codedB x.2.2.2.1 x.2.2.2.2 ++ x.2.2.2.2.flatten) := by
    rw [write_split, List.drop_left]
  have hlen : (writeB x).length = (vintB x.1).length + 3 + (codedB x.2.2.2.1 x.2.2.2.2 ++ x.2.2.2.2.flatten).length := by
    rw [write_split]; simp; omega
  have g0 : (writeB x).getD (vintB x.1).length 0 = x.2.1 / 256 % 256 := by
    have := getD_of_drop (l := writeB x) (n := (vintB x.1).length) (j := 0) (d := 0)
    rw [Nat.add_zero] at this
    rw [this, hd]; rfl
  have g1 : (writeB x).getD ((vintB x.1).length + 1) 0 = x.2.1 % 256 := by rw [getD_of_drop, hd]; rfl
  have g2 : (writeB x).getD ((vintB x.1).length + 2) 0 = flagB x := by rw [getD_of_drop, hd]; rfl
  have g3 : (writeB x).getD ((vintB x.1).length + 3) 0 = (codedB x.2.2.2.1 x.2.2.2.2 ++ x.2.2.2.2.flatten).getD 0 0 := by rw [getD_of_drop, hd]; rfl
  obtain ⟨f1, f2, f3⟩ := flag_back hf.lacing.1 hf.lacing.2 x.2.2.1
  have htr := hf.track
  have tb := time_back hf.time.1 hf.time.2
  unfold headR
  simp only [hr, Int.toNat_natCast, ne_eq, not_true_eq_false, if_false, Bool.false_eq_true]
  rw [if_neg (by omega), if_neg (by omega), if_neg (by omega), g0, g1, g2]
  unfold flagB
  simp only [f1, f2, f3, Bool.false_eq_true, if_false, tb]
  by_cases hz : x.2.2.2.1 = 0
  · rw [if_pos hz]
    have hfr := hf.frames
    rw [hz] at hfr
    have := one_frame hfr
    simp only [at0, hz, if_true, this, Nat.add_zero]
  · rw [if_neg hz]
    have hc : codedB x.2.2.2.1 x.2.2.2.2 = (((x.2.2.2.2.length - 1 : Nat) : Int) % 256) :: restB x.2.2.2.1 x.2.2.2.2 0 := by unfold codedB; rw [if_neg hz]
    rw [hc] at hlen g3
    have hne : ¬ (writeB x).length = (vintB x.1).length + 3 := by rw [hlen]; simp
    have hp := hf.fine.pos
    have hle := hf.fine.le
    rw [if_neg hne, g3]
    simp only [List.cons_append, List.getD_cons_zero]
    rw [if_neg (by omega)]
    have e1 : (((x.2.2.2.2.length - 1 : Nat) : Int) % 256 + 1).toNat = x.2.2.2.2.length := by omega
    rw [e1]
    simp only [at0, hz, if_false]

/-! beginnings -/
theorem readV_pre {b w : List Int} (h : b <+: w) (p : Nat) : readV b p = readV w p ∨ (readV b p).2.2.2 = 3 := by
  obtain ⟨t, rfl⟩ := h
  by_cases hp : p < b.length
  · have hp' : p < (b ++ t).length := by simp; omega
    have hg : (b ++ t)[p] = b[p] := List.getElem_append_left hp
    unfold readV
    rw [dif_pos hp, dif_pos hp', hg]
    by_cases hz : b[p] = 0
    · rw [if_pos hz, if_pos hz]; exact .inl rfl
    · rw [if_neg hz, if_neg hz]
      by_cases hs : b.length - p < vsz b[p].toNat
      · rw [if_pos hs]; exact .inr rfl
      · have hs' : ¬ (b ++ t).length - p < vsz b[p].toNat := by simp; omega
        have hv := vsz_range b[p].toNat
        rw [if_neg hs, if_neg hs']
        have e : ((b ++ t).drop (p + 1)).take (vsz b[p].toNat - 1) = (b.drop (p + 1)).take (vsz b[p].toNat - 1) := by
          rw [List.drop_append_of_le_length (by omega), List.take_append_of_le_length (by simp; omega)]
        rw [e]; exact .inl rfl
  · right; rw [readV_end hp]
theorem readFS_pre {b w : List Int} (h : b <+: w) (first : Bool) (p : Nat) : (if first = true then readF b p else readS b p) = (if first = true then readF w p else readS w p) ∨ (if first = true then readF b p else readS b p).2.2 = 3 := by
  rcases readV_pre h p with e | e
  · left; unfold readF readS; rw [e]
  · right
    cases first with
    | true => simp only [if_true]; unfold readF; rw [if_pos (by omega)]; exact e
    | false => simp only [Bool.false_eq_true, if_false]; unfold readS; rw [if_pos (by omega)]; exact e
theorem run1_pre : ∀ {b w : List Int}, b <+: w → ∀ (acc : Int) (p : Nat), run1 b acc p = run1 w acc p ∨ run1 b acc p = none
  | [], _, _, acc, p => .inr rfl
  | c :: b, w, h, acc, p => by
    obtain ⟨t, rfl⟩ := h
    simp only [List.cons_append, run1]
    split
    · exact run1_pre ⟨t, rfl⟩ _ _
    · exact .inl rfl
theorem drop_pre {b w : List Int} (h : b <+: w) {p : Nat} (hp : p ≤ b.length) : b.drop p <+: w.drop p := by
  obtain ⟨t, rfl⟩ := h
  rw [List.drop_append_of_le_length hp]
  exact ⟨t, rfl⟩
theorem runsR_pre {b w : List Int} (h : b <+: w) : ∀ (m p : Nat), runsR b m p = runsR w m p ∨ runsR b m p = none
  | 0, p => .inl rfl
  | m + 1, p => by
    simp only [runsR]
    by_cases hp : p ≤ b.length
    · rcases run1_pre (drop_pre h hp) 0 p with e | e
      · rw [e]
        cases run1 (w.drop p) 0 p with
        | none => exact .inl rfl
        | some sq =>
          obtain ⟨s, q⟩ := sq
          simp only
          rcases runsR_pre h m q with e2 | e2
          · rw [e2]; exact .inl rfl
          · rw [e2]; exact .inr rfl
      · rw [e]; exact .inr rfl
    · right
      rw [List.drop_eq_nil_of_le (by omega)]; rfl
theorem diffR_pre {cl : Int → Int} {b w : List Int} (h : b <+: w) : ∀ (m : Nat) (first : Bool) (x : Int) (p : Nat), diffR cl b m first x p = diffR cl w m first x p ∨ (diffR cl b m first x p).1 = 3
  | 0, first, x, p => .inl rfl
  | m + 1, first, x, p => by
    simp only [diffR]
    rcases readFS_pre h first p with e | e
    · rw [e]
      generalize (if first = true then readF w p else readS w p) = r at *
      by_cases hr : r.2.2 ≠ 0
      · rw [if_pos hr, if_pos hr]; exact .inl rfl
      · rw [if_neg hr, if_neg hr]
        rcases diffR_pre h m false (cl (x + r.1)) (p + r.2.1.toNat) with e2 | e2
        · rw [e2]; exact .inl rfl
        · right
          rw [if_pos (by omega)]; exact e2
    · right
      rw [if_pos (by omega)]; exact e

theorem getD_pre {b w : List Int} (h : b <+: w) {i : Nat} (hi : i < b.length) (d : Int) : b.getD i d = w.getD i d := by
  obtain ⟨t, rfl⟩ := h
  rw [getD_get hi, getD_get (by simp; omega), List.getElem_append_left hi]

theorem headR_pre {b w : List Int} (h : b <+: w) : headR b = headR w ∨ (headR b).err = 3 := by
  rcases readV_pre h 0 with e | e
  · have hl : b.length ≤ w.length := h.length_le
    unfold headR
    simp only [e]
    generalize readV w 0 = r at *
    by_cases h1 : r.2.2.2 ≠ 0
    · rw [if_pos h1, if_pos h1]; exact .inl rfl
    rw [if_neg h1, if_neg h1]
    by_cases h2 : r.2.2.1 = true
    · rw [if_pos h2, if_pos h2]; exact .inl rfl
    rw [if_neg h2, if_neg h2]
    by_cases h3 : r.1 < 1
    · rw [if_pos h3, if_pos h3]; exact .inl rfl
    rw [if_neg h3, if_neg h3]
    by_cases h4 : 1000 < r.1
    · rw [if_pos h4, if_pos h4]; exact .inl rfl
    rw [if_neg h4, if_neg h4]
    by_cases h5 : b.length < r.2.1.toNat + 3
    · rw [if_pos h5]; exact .inr rfl
    have h5' : ¬ w.length < r.2.1.toNat + 3 := by omega
    rw [if_neg h5, if_neg h5', getD_pre h (by omega), getD_pre h (by omega), getD_pre h (by omega)]
    split
    · exact .inl rfl
    · split
      · exact .inl rfl
      · by_cases h6 : b.length = r.2.1.toNat + 3
        · rw [if_pos h6]; exact .inr rfl
        · have h6' : ¬ w.length = r.2.1.toNat + 3 := by omega
          rw [if_neg h6, if_neg h6', getD_pre h (by omega)]
          exact .inl rfl
  · right
    unfold headR
    simp only [e]
    rfl
end Go.Proofs.Ytnmoccdnkpkhhaa

/-! The frames of what is written, and of its beginnings. -/
namespace Go.Proofs.Ytnmoccdnkpkhhaa
open Go Go.Am

/-! bytes -/
theorem okBy.append {a b : List Int} (ha : okBy a) (hb : okBy b) : okBy (a ++ b) := fun n hn => by
  rcases List.mem_append.1 hn with h | h
  · exact ha n h
  · exact hb n h
theorem c1_by (w : Int) : okBy (c1 w) := fun n hn => by simp only [c1, List.mem_singleton] at hn; omega
theorem c2_by (w : Int) : okBy (c2 w) := fun n hn => by simp only [c2, List.mem_cons, List.not_mem_nil, or_false] at hn; omega
theorem c3_by (w : Int) : okBy (c3 w) := fun n hn => by simp only [c3, List.mem_cons, List.not_mem_nil, or_false] at hn; omega
theorem vint_by (v : Int) : okBy (vintB v) := by
  unfold vintB; split
  · exact c1_by _
  · split
    · exact c2_by _
    · exact c3_by _
theorem sgn_by (v : Int) : okBy (sgnB v) := by
  unfold sgnB; split
  · exact c1_by _
  · split
    · exact c2_by _
    · exact c3_by _
theorem run_by (n : Nat) : okBy (runB n) := by
  refine okBy.append (fun m hm => ?_) (fun m hm => ?_)
  · have := (List.mem_replicate.1 hm).2; omega
  · simp only [List.mem_singleton] at hm; omega
theorem part_by (lacing : Int) (l : List (List Int)) (j : Nat) : okBy (part lacing l j) := by
  unfold part; split
  · exact run_by _
  · split
    · split
      · exact vint_by _
      · exact sgn_by _
    · intro n hn; simp at hn
theorem rest_by (lacing : Int) (l : List (List Int)) (i : Nat) : okBy (restB lacing l i) := fun n hn => by
  unfold restB at hn
  obtain ⟨j, _, hj⟩ := List.mem_flatMap.1 hn
  exact part_by lacing l j n hj
theorem write_by {x : D0} (hf : FineB x) (hb : ∀ f ∈ x.2.2.2.2, ∀ n ∈ f, 0 ≤ n ∧ n < 256) : okBy (writeB x) := by
  have hl := hf.lacing
  refine okBy.append (okBy.append (okBy.append (vint_by _) fun n hn => ?_) ?_) fun n hn => ?_
  · simp only [List.mem_cons, List.not_mem_nil, or_false] at hn
    rcases hn with rfl | rfl | rfl
    · omega
    · omega
    · unfold flagB; split <;> omega
  · unfold codedB; split
    · intro n hn; simp at hn
    · intro n hn
      rcases List.mem_cons.1 hn with rfl | hn
      · omega
      · exact rest_by _ _ _ n hn
  · obtain ⟨f, hfm, hn⟩ := List.mem_flatten.1 hn
    exact hb f hfm n hn
theorem write_len {x : D0} (hf : FineB x) (hs : sumL x.2.2.2.2 ≤ 200000) : (writeB x).length ≤ 300000 := by
  have := headLen x
  have := codedLen (lacing := x.2.2.2.1) hf.fine
  simp only [writeB, List.length_append, flat_len]
  omega

/-! places -/
def placeB (x : D0) : Nat := at0 x + (restB x.2.2.2.1 x.2.2.2.2 0).length
theorem rest0 (l : List (List Int)) (i : Nat) : restB 0 l i = [] := by
  unfold restB
  simp [part]
theorem write_drop (x : D0) : (writeB x).drop (at0 x) = restB x.2.2.2.1 x.2.2.2.2 0 ++ x.2.2.2.2.flatten := by
  rw [write_split]
  unfold at0 codedB
  by_cases hz : x.2.2.2.1 = 0
  · rw [if_pos hz, if_pos hz, hz, rest0, Nat.add_zero, ← List.drop_drop, List.drop_left]; rfl
  · rw [if_neg hz, if_neg hz, Nat.add_assoc, ← List.drop_drop, List.drop_left]; rfl
theorem write_drop2 (x : D0) : (writeB x).drop (placeB x) = x.2.2.2.2.flatten := by
  unfold placeB
  rw [← List.drop_drop, write_drop, List.drop_left]
theorem write_length (x : D0) : (writeB x).length = placeB x + sumL x.2.2.2.2 := by
  rw [write_split]
  unfold placeB at0 codedB
  by_cases hz : x.2.2.2.1 = 0
  · rw [if_pos hz, if_pos hz, hz, rest0]; simp [sumL, List.length_flatten]; omega
  · rw [if_neg hz, if_neg hz]; simp [sumL, List.length_flatten]; omega

/-! frames -/
theorem mid_all {fs : List (List Int)} {z : List Int} : midB (fs ++ [z]) 0 = fs.map fun f => (f.length : Int) := by
  apply List.ext_getElem
  · simp [midB]
  · intro i h1 h2
    have h3 : i < fs.length := by simpa using h2
    simp [midB, List.getD, List.getElem?_append_left h3, h3]
theorem sumI_app (a : List Int) (s : Int) : sumI (a ++ [s]) = sumI a + s := by
  induction a with
  | nil => simp [sumI]
  | cons c a ih => simp only [List.cons_append, sumI, ih]; omega
theorem sumI_lens (fs : List (List Int)) : sumI (fs.map fun f => (f.length : Int)) = (sumL fs : Int) := by
  induction fs with
  | nil => simp [sumI, sumL]
  | cons c a ih => simp only [List.map_cons, sumI, ih, sumL_cons]; push_cast; omega
theorem sumL_app (fs : List (List Int)) (z : List Int) : sumL (fs ++ [z]) = sumL fs + z.length := by
  simp [sumL]

theorem frames_pre {b z : List Int} {s : Nat} : ∀ (fs : List (List Int)) (p : Nat), b.drop p <+: fs.flatten ++ z → b.length = p + sumL fs + s → framesB b ((fs.map fun f => (f.length : Int)) ++ [(s : Int)]) p = fs ++ [z.take s]
  | [], p, h, hl => by
    simp only [sumL, List.map_nil, List.sum_nil, Nat.add_zero] at hl
    simp only [List.map_nil, List.nil_append, framesB, Int.toNat_natCast, List.flatten_nil] at h ⊢
    have e : b.drop p = z.take s := by
      rw [List.prefix_iff_eq_take] at h
      have : (b.drop p).length = s := by simp; omega
      rw [this] at h; exact h
    rw [e, List.take_take, Nat.min_self]
  | f :: fs, p, h, hl => by
    rw [sumL_cons] at hl
    have hk : f.length ≤ (b.drop p).length := by simp; omega
    have e1 : (b.drop p).take f.length = f := by
      rw [List.prefix_iff_eq_take] at h
      rw [h, List.take_take, Nat.min_eq_left hk]
      simp
    have e2 : b.drop (p + f.length) <+: fs.flatten ++ z := by
      have := drop_pre h hk
      rw [List.drop_drop, List.flatten_cons, List.append_assoc, List.drop_left] at this
      exact this
    simp only [List.map_cons, List.cons_append, framesB, Int.toNat_natCast]
    rw [e1, frames_pre fs (p + f.length) e2 (by omega)]

/-- What the sizes of a beginning of a written block are, if there are any: lacings but the equal one. -/
theorem sizes_pre {x : D0} (hf : FineB x) {fs : List (List Int)} {z : List Int} (hx : x.2.2.2.2 = fs ++ [z]) (h2 : x.2.2.2.1 ≠ 2) {b : List Int} (hb : b <+: writeB x) (h : (allR b).1 = 0) :
    headR b = headR (writeB x) ∧ placeR b = placeB x ∧ ∃ s, (allR b).2 = (fs.map fun f => (f.length : Int)) ++ [s] := by
  have he : headR b = headR (writeB x) := by
    rcases headR_pre hb with e | e
    · exact e
    · unfold allR at h
      rw [e] at h; simp at h
  have hh := head_back hf
  have hN : x.2.2.2.2.length - 1 = fs.length := by rw [hx]; simp
  have hl := hf.lacing
  have ha : (headR b).lacing = x.2.2.2.1 := by rw [he, hh]
  have hn : (headR b).n - 1 = fs.length := by rw [he, hh]; exact hN
  have hat : (headR b).at_ = at0 x := by rw [he, hh]
  have hee : (headR b).err = 0 := by rw [he, hh]
  have hd := write_drop x
  have fit : ∀ (l : List Int) (left : Int), (fitS l left).1 = 0 → ∃ s, (fitS l left).2 = l ++ [s] := by
    intro l left hq
    unfold fitS at hq ⊢
    by_cases e : (fitR l left).1 = 0
    · rw [if_neg (fun hh => hh e)]; exact ⟨_, rfl⟩
    · rw [if_pos e] at hq; exact absurd hq e
  refine ⟨he, ?_⟩
  unfold allR at h ⊢
  unfold placeR
  rw [hee] at h ⊢
  simp only [ne_eq, not_true_eq_false, if_false] at h ⊢
  rw [ha, hn, hat] at h ⊢
  by_cases h1 : x.2.2.2.1 = 1
  · simp only [h1, if_true] at h ⊢
    have rb := runs_back (l := x.2.2.2.2) (b := writeB x) (tail := x.2.2.2.2.flatten) fs.length 0 (at0 x) (by omega) (by omega) (by rw [hd, h1])
    rcases runsR_pre hb fs.length (at0 x) with e | e
    · rw [e, rb] at h ⊢
      simp only at h ⊢
      refine ⟨by unfold placeB; rw [h1], ?_⟩
      obtain ⟨s, hs⟩ := fit _ _ h
      exact ⟨s, by rw [hs, hx, mid_all]⟩
    · rw [e] at h; simp at h
  · rw [if_neg h1] at h ⊢
    by_cases h3 : x.2.2.2.1 = 3
    · rw [if_pos h3] at h ⊢
      have db := diffs_back (l := x.2.2.2.2) hf.fine.each (b := writeB x) (tail := x.2.2.2.2.flatten) fs.length 0 (at0 x) (by omega) (by omega) (by rw [hd, h3])
      simp only [decide_true, prevB, if_true] at db
      rcases diffR_pre (cl := id) hb fs.length true 0 (at0 x) with e | e
      · rw [e, db] at h ⊢
        simp only [ne_eq, not_true_eq_false, if_false] at h ⊢
        rw [if_neg h1, if_pos h3]
        refine ⟨by unfold placeB; rw [h3], ?_⟩
        obtain ⟨s, hs⟩ := fit _ _ h
        exact ⟨s, by rw [hs, hx, mid_all]⟩
      · rw [if_pos (by rw [e]; decide), e] at h
        simp at h
    · have h0 : x.2.2.2.1 = 0 := by omega
      rw [if_neg h3, if_neg h2] at h ⊢
      rw [if_neg h1, if_neg h3]
      refine ⟨by unfold placeB; rw [h0, rest0]; simp, ?_⟩
      have hfr := hf.frames
      rw [h0] at hfr
      have h1l := one_frame hfr
      have hnil : fs = [] := by
        rw [hx] at h1l
        cases fs with
        | nil => rfl
        | cons a u => simp at h1l
      obtain ⟨s, hs⟩ := fit _ _ h
      exact ⟨s, by rw [hs, hnil]; rfl⟩
end Go.Proofs.Ytnmoccdnkpkhhaa

/-! What is written is read again; the beginnings of it; the laws LaceBack and LaceCut. -/
namespace Go.Proofs.Ytnmoccdnkpkhhaa
open Go Go.Am

theorem fitR_ok : ∀ (fs : List (List Int)) (s : Nat), (∀ f ∈ fs, f.length ≤ 65536) → s ≤ 65536 → fitR (fs.map fun f => (f.length : Int)) ((sumL fs + s : Nat) : Int) = (0, (s : Int))
  | [], s, h, hs => by
    have e : ((sumL [] + s : Nat) : Int) = s := by simp [sumL]
    simp only [List.map_nil, fitR, e]
    rw [if_neg (by omega)]
  | f :: fs, s, h, hs => by
    have hf := h f (by simp)
    rw [sumL_cons]
    simp only [List.map_cons, fitR]
    rw [if_neg (by omega), if_neg (by omega), if_neg (by omega)]
    have e : ((f.length + sumL fs + s : Nat) : Int) - (f.length : Int) = ((sumL fs + s : Nat) : Int) := by omega
    rw [e, fitR_ok fs s (fun g hg => h g (by simp [hg])) hs]
theorem fitS_ok (fs : List (List Int)) (s : Nat) (h : ∀ f ∈ fs, f.length ≤ 65536) (hs : s ≤ 65536) : fitS (fs.map fun f => (f.length : Int)) ((sumL fs + s : Nat) : Int) = (0, (fs.map fun f => (f.length : Int)) ++ [(s : Int)]) := by
  unfold fitS
  rw [fitR_ok fs s h hs]
  simp

theorem rest2 (l : List (List Int)) (i : Nat) : restB 2 l i = [] := by
  unfold restB
  simp [part]
theorem like_all {l : List (List Int)} (h : framesE 2 l = 0) : ∃ c, ∀ f ∈ l, f.length = c := by
  unfold framesE at h
  split at h
  · simp at h
  · rename_i hc
    split at h
    · simp at h
    · split at h
      · simp at h
      · split at h
        · simp at h
        · rename_i h4
          refine ⟨(l[0]'(by omega)).length, fun f hf => ?_⟩
          · have h5 : l.any (notLike (l[0]'(by omega)).length) = false := by
              cases e : l.any (notLike (l[0]'(by omega)).length) with
              | false => rfl
              | true => exact absurd ⟨rfl, e⟩ h4
            have := List.any_eq_false.1 h5 f hf
            simpa [notLike] using this
theorem sumL_like {c : Nat} : ∀ {l : List (List Int)}, (∀ f ∈ l, f.length = c) → sumL l = l.length * c
  | [], _ => by simp [sumL]
  | f :: l, h => by
    rw [sumL_cons, sumL_like (l := l) fun g hg => h g (by simp [hg]), h f (by simp), List.length_cons, Nat.add_mul]; omega
theorem map_like {c : Nat} : ∀ {l : List (List Int)}, (∀ f ∈ l, f.length = c) → (l.map fun f => (f.length : Int)) = List.replicate l.length (c : Int)
  | [], _ => rfl
  | f :: l, h => by
    rw [List.map_cons, map_like (l := l) fun g hg => h g (by simp [hg]), h f (by simp)]; rfl
theorem sumI_rep (n c : Nat) : sumI (List.replicate n (c : Int)) = ((n * c : Nat) : Int) := by
  induction n with
  | zero => simp [sumI]
  | succ n ih => rw [List.replicate_succ, sumI, ih, Nat.add_mul]; omega

/-- By equal sizes. -/
theorem equal_pre {x : D0} (hf : FineB x) (h2 : x.2.2.2.1 = 2) {b : List Int} (hb : b <+: writeB x) (h : (allR b).1 = 0) :
    headR b = headR (writeB x) ∧ placeR b = placeB x ∧ (b.length - placeB x) % x.2.2.2.2.length = 0 ∧ ∃ s, (allR b).2 = List.replicate (x.2.2.2.2.length - 1) (((b.length - placeB x) / x.2.2.2.2.length : Nat) : Int) ++ [s] := by
  have he : headR b = headR (writeB x) := by
    rcases headR_pre hb with e | e
    · exact e
    · unfold allR at h
      rw [e] at h; simp at h
  have hh := head_back hf
  have ha : (headR b).lacing = 2 := by rw [he, hh, ← h2]
  have hn : (headR b).n = x.2.2.2.2.length := by rw [he, hh]
  have hat : (headR b).at_ = placeB x := by rw [he, hh]; unfold placeB; rw [h2, rest2]; rfl
  have hee : (headR b).err = 0 := by rw [he, hh]
  refine ⟨he, by unfold placeR; rw [ha, hat]; rfl, ?_⟩
  unfold allR at h ⊢
  rw [hee, ha, hn, hat] at h ⊢
  simp only [ne_eq, not_true_eq_false, if_false, show ¬ (2 : Int) = 1 from by decide, show ¬ (2 : Int) = 3 from by decide, if_true] at h ⊢
  unfold equalS at h ⊢
  by_cases hm : (b.length - placeB x) % x.2.2.2.2.length = 0
  · rw [if_neg (fun q => q hm)] at h ⊢
    refine ⟨hm, ?_⟩
    unfold fitS at h ⊢
    split at h
    · rename_i e; exact absurd h e
    · rename_i e; rw [if_neg e]; exact ⟨_, rfl⟩
  · rw [if_pos hm] at h; simp at h

theorem all_back {x : D0} (hf : FineB x) {fs : List (List Int)} {z : List Int} (hx : x.2.2.2.2 = fs ++ [z]) : allR (writeB x) = (0, (fs.map fun f => (f.length : Int)) ++ [(z.length : Int)]) ∧ placeR (writeB x) = placeB x := by
  have hh := head_back hf
  have hN : x.2.2.2.2.length - 1 = fs.length := by rw [hx]; simp
  have hl := hf.lacing
  have hd := write_drop x
  have hlen := write_length x
  have e65 := hf.fine.each
  have hsum : sumL x.2.2.2.2 = sumL fs + z.length := by rw [hx, sumL_app]
  have fz := fitS_ok fs z.length (fun f hq => e65 f (by rw [hx]; simp [hq])) (e65 z (by rw [hx]; simp))
  have hleft : (writeB x).length - placeB x = sumL fs + z.length := by omega
  unfold allR placeR
  rw [hh]
  simp only [ne_eq, not_true_eq_false, if_false]
  rw [hN]
  by_cases h1 : x.2.2.2.1 = 1
  · have rb := runs_back (l := x.2.2.2.2) (b := writeB x) (tail := x.2.2.2.2.flatten) fs.length 0 (at0 x) (by omega) (by omega) (by rw [hd, h1])
    have ep : at0 x + (restB 1 x.2.2.2.2 0).length = placeB x := by unfold placeB; rw [h1]
    rw [if_pos h1, if_pos h1, rb]
    simp only
    rw [ep, hleft, hx, mid_all, fz]
    exact ⟨rfl, rfl⟩
  · rw [if_neg h1, if_neg h1]
    by_cases h3 : x.2.2.2.1 = 3
    · have db := diffs_back (l := x.2.2.2.2) hf.fine.each (b := writeB x) (tail := x.2.2.2.2.flatten) fs.length 0 (at0 x) (by omega) (by omega) (by rw [hd, h3])
      simp only [decide_true, prevB, if_true] at db
      have ep : at0 x + (restB 3 x.2.2.2.2 0).length = placeB x := by unfold placeB; rw [h3]
      rw [if_pos h3, if_pos h3, db]
      simp only [not_true_eq_false, if_false]
      rw [ep, hleft, hx, mid_all, fz]
      exact ⟨rfl, rfl⟩
    · rw [if_neg h3, if_neg h3]
      by_cases h2 : x.2.2.2.1 = 2
      · have ep : placeB x = at0 x := by unfold placeB; rw [h2, rest2]; rfl
        have hfr := hf.frames
        rw [h2] at hfr
        obtain ⟨c, hc⟩ := like_all hfr
        have hp := hf.fine.pos
        have hNc : (writeB x).length - at0 x = x.2.2.2.2.length * c := by rw [← ep, hleft, ← hsum, sumL_like hc]
        rw [if_pos h2, ep]
        unfold equalS
        rw [hNc, Nat.mul_mod_right, Nat.mul_div_right c hp, hN]
        have hcf : ∀ f ∈ fs, f.length = c := fun f hq => hc f (by rw [hx]; simp [hq])
        rw [← map_like hcf, ← sumL_like hc, hsum, fz]
        exact ⟨rfl, rfl⟩
      · have h0 : x.2.2.2.1 = 0 := by omega
        have ep : placeB x = at0 x := by unfold placeB; rw [h0, rest0]; rfl
        have hfr := hf.frames
        rw [h0] at hfr
        have h1l := one_frame hfr
        have hnil : fs = [] := by
          rw [hx] at h1l
          cases fs with
          | nil => rfl
          | cons a u => simp at h1l
        subst hnil
        rw [if_neg h2, ← ep, hleft]
        exact ⟨fz, rfl⟩

theorem last_of {l : List (List Int)} (h : 1 ≤ l.length) : ∃ fs z, l = fs ++ [z] := by
  have hne : l ≠ [] := by intro e; rw [e] at h; simp at h
  exact ⟨l.dropLast, l.getLast hne, (List.dropLast_concat_getLast hne).symm⟩

theorem read_back {x : D0} (hf : FineB x) : readB (writeB x) = (0, x) := by
  obtain ⟨fs, z, hx⟩ := last_of hf.fine.pos
  obtain ⟨ha, hp⟩ := all_back hf hx
  have hh := head_back hf
  have hd := write_drop2 x
  have hlen := write_length x
  have hsum : sumL x.2.2.2.2 = sumL fs + z.length := by rw [hx, sumL_app]
  unfold readB
  rw [ha, hp, hh]
  simp only [ne_eq, not_true_eq_false, if_false]
  rw [frames_pre (z := z) fs (placeB x) (by rw [hd, hx]; simp) (by omega), List.take_length, ← hx]

/-- A beginning, by any other lacing. -/
theorem read_pre {x : D0} (hf : FineB x) {fs : List (List Int)} {z : List Int} (hx : x.2.2.2.2 = fs ++ [z]) (h2 : x.2.2.2.1 ≠ 2) {b : List Int} (hb : b <+: writeB x) (hby : okBy b) (hl : b.length ≤ 300000) (h : (allR b).1 = 0) :
    ∃ s : Nat, b.length = placeB x + sumL fs + s ∧ readB b = (0, (x.1, x.2.1, x.2.2.1, x.2.2.2.1, fs ++ [z.take s])) := by
  obtain ⟨e1, e2, s, hs⟩ := sizes_pre hf hx h2 hb h
  obtain ⟨a1, ⟨a2, a3⟩, _, _⟩ := allR_ok hby hl h
  rw [hs] at a2 a3
  rw [sumI_app, sumI_lens, e2] at a3
  rw [e2] at a1
  have s0 := a2 s (by simp)
  obtain ⟨n, rfl⟩ : ∃ n : Nat, s = n := ⟨s.toNat, by omega⟩
  have hbl : b.length = placeB x + sumL fs + n := by omega
  refine ⟨n, hbl, ?_⟩
  have hd := write_drop2 x
  have hp := drop_pre hb a1
  rw [hd, hx] at hp
  unfold readB
  rw [h, hs, e1, e2, head_back hf]
  simp only [ne_eq, not_true_eq_false, if_false]
  rw [frames_pre (z := z) fs (placeB x) (by simpa using hp) hbl]

theorem frames_eq (b : List Int) (c : Nat) : ∀ (n p : Nat), p + n * c ≤ b.length → ∀ f ∈ framesB b (List.replicate n (c : Int)) p, f.length = c
  | 0, p, _, f, hf => by simp [framesB] at hf
  | n + 1, p, h, f, hf => by
    rw [Nat.add_mul] at h
    rw [List.replicate_succ, framesB] at hf
    rcases List.mem_cons.1 hf with rfl | hf
    · simp; omega
    · refine frames_eq b c n _ ?_ f hf
      simp only [Int.toNat_natCast]; omega

/-- A beginning, by equal sizes. -/
theorem read_eq {x : D0} (hf : FineB x) (h2 : x.2.2.2.1 = 2) {b : List Int} (hb : b <+: writeB x) (hby : okBy b) (hl : b.length ≤ 300000) (h : (allR b).1 = 0) :
    ∃ (c : Nat) (l : List (List Int)), b.length = placeB x + x.2.2.2.2.length * c ∧ l.length = x.2.2.2.2.length ∧ (∀ f ∈ l, f.length = c) ∧ readB b = (0, (x.1, x.2.1, x.2.2.1, x.2.2.2.1, l)) := by
  obtain ⟨e1, e2, hm, s, hs⟩ := equal_pre hf h2 hb h
  obtain ⟨a1, ⟨a2, a3⟩, _, _⟩ := allR_ok hby hl h
  have hp := hf.fine.pos
  rw [hs] at a2 a3
  rw [sumI_app, sumI_rep, e2] at a3
  rw [e2] at a1
  generalize hc : (b.length - placeB x) / x.2.2.2.2.length = c at *
  have hdm := Nat.div_add_mod (b.length - placeB x) x.2.2.2.2.length
  rw [hm, hc, Nat.add_zero] at hdm
  have hsc : s = (c : Int) := by
    obtain ⟨n, hn⟩ : ∃ n, x.2.2.2.2.length = n + 1 := ⟨x.2.2.2.2.length - 1, by omega⟩
    rw [hn] at hdm a3
    rw [Nat.add_mul] at hdm
    simp only [Nat.add_sub_cancel] at a3
    omega
  have hrep : List.replicate (x.2.2.2.2.length - 1) (c : Int) ++ [s] = List.replicate x.2.2.2.2.length (c : Int) := by
    rw [hsc, ← List.replicate_succ']
    congr 1; omega
  rw [hrep] at hs
  refine ⟨c, framesB b (List.replicate x.2.2.2.2.length (c : Int)) (placeB x), by omega, by rw [(framesB_len b _ _).1]; simp, frames_eq b c _ _ (by omega), ?_⟩
  unfold readB
  rw [h, hs, e1, e2, head_back hf]
  simp only [ne_eq, not_true_eq_false, if_false]
end Go.Proofs.Ytnmoccdnkpkhhaa

/-! The laws LaceBack and LaceCut, in plain functions. -/
namespace Go.Proofs.Ytnmoccdnkpkhhaa
open Go Go.Am

theorem f4_loop (a0 a1 : Int) (a2 : Bool) (l : List (List Int)) (hl : okL l) (hs : sumL l ≤ 200000) (hby : ∀ f ∈ l, ∀ n ∈ f, 0 ≤ n ∧ n < 256) : ∀ i : Nat, i ≤ 4 → Ev fun k => ∀ (R : Type) (c : Int) (X0 : Option R) (X1 : Bool → Option R),
    f4_l4 f9 f10 f13 f16 f17 f15 k (i : Int) a0 a1 a2 c l X0 X1 = X0 := by
  refine Ev.down 4 ?_ ?_
  · exact Ev.suc (.all fun k R c X0 X1 => by rw [f4_l4]; simp)
  · intro i hi h
    have t : decide ((i : Int) ≤ 3) = true := by simp; omega
    have w : IntKind.i64.wrap ((i : Int) + 1) = ((i + 1 : Nat) : Int) := wrapSuc (by omega)
    have h13 := f13_v (a0, a1, a2, (i : Int), l) hl
    have h10 := f10_v (a0, a1, a2, (i : Int), l) hl hs
    by_cases hc : chkE (a0, a1, a2, (i : Int), l) = 0
    · have hf := fineB_of hc
      have hwb := write_by hf hby
      have hwl := write_len hf hs
      have h16 := f16_v (writeB (a0, a1, a2, (i : Int), l)) hwb hwl
      have h17 := f17_v (a0, a1, a2, (i : Int), l) (a0, a1, a2, (i : Int), l) hl
      have hr := read_back hf
      refine Ev.suc ((h.and h17).imp4 h13 h10 h16 ?_)
      rintro k ⟨hk, h17⟩ h13 h10 h16 R c X0 X1
      rw [hr] at h16
      simp only at h13 h10 h16 h17
      simp only [f4_l4, t, cond_true, h13, hc, bne_dec, decide_true, Bool.not_true, cond_false, h10, if_true, h16, h17, eqB_self, w, hk]
    · refine Ev.suc (h.imp2 h13 fun k hk h13 R c X0 X1 => ?_)
      simp only at h13
      simp only [f4_l4, t, cond_true, h13, bne_dec, decide_eq_false hc, Bool.not_false, w, hk]

theorem laceBack_plain (x : D0) (hx : okB x) : ∃ k, f4 (R := Bool) k x.1 x.2.1 x.2.2.1 x.2.2.2.1 x.2.2.2.2 some = some true := by
  refine Ev.some ?_
  cases hsm : smallB x.2.2.2.2 with
  | false =>
    refine (f9_v _ hx.lens).imp fun k h9 => ?_
    simp [f4, f4_s, h9, hsm]
  | true =>
    obtain ⟨_, hs⟩ := smallB_of hsm
    refine (f9_v _ hx.lens).imp3 awake_v (f4_loop x.1 x.2.1 x.2.2.1 x.2.2.2.2 hx.lens hs hx.bytes 0 (by omega)) fun k h9 h15 hlp => ?_
    simp only [Int.natCast_zero] at hlp
    simp only [f4, f4_s, h9, hsm, Bool.not_true, cond_false, hlp, h15]

/-- The place of a cut. -/
def withinI (a : Int) (n : Nat) : Nat := (IntKind.u64.wrap a).toNat % n
theorem u64_nn (a : Int) : 0 ≤ IntKind.u64.wrap a := by
  simp [IntKind.wrap, IntKind.signed, IntKind.bits]; omega
theorem f18_v (a : Int) {n : Nat} (h : 0 < n) (h' : n ≤ 4000) (k : Nat) (R : Type) (K : Int → Option R) : f18 k a (n : Int) K = K ((withinI a n : Nat) : Int) := by
  have e1 : IntKind.u64.wrap (n : Int) = n := wrapU64 (by omega) (by omega)
  have nz : ¬ ((n : Int) = 0) := by omega
  have hp := u64_nn a
  obtain ⟨m, hm⟩ : ∃ m : Nat, IntKind.u64.wrap a = m := ⟨(IntKind.u64.wrap a).toNat, by omega⟩
  have hmod := Nat.mod_lt m h
  have e2 : (m : Int).tmod (n : Int) = ((m % n : Nat) : Int) := by rw [Int.tmod_eq_emod_of_nonneg (by omega)]; simp
  simp only [f18, f18_s, e1, decide_eq_false nz, cond_false, hm, e2, withinI, Int.toNat_natCast]
  rw [wrapNat (by omega)]

theorem f5_loop (x : D0) (y : List (List Int)) (hx : x.2.2.2.2.length ≤ 1000) (hy : y.length = x.2.2.2.2.length) (c : Nat) (hc : ∀ f ∈ y, f.length = c) (hlt : ∀ f ∈ x.2.2.2.2, c < f.length) (b1 b2 : Int) (b3 : Bool) (b4 : Int) : ∀ i, i ≤ y.length → Ev fun k => ∀ (R : Type) (X0 : Option R) (X1 : Bool → Option R),
    f5_l15 f9 f10 f13 f14 f16 f19 f15 f18 k (i : Int) x.1 x.2.1 x.2.2.1 x.2.2.2.1 x.2.2.2.2 b1 b2 b3 b4 y X0 X1 = X0 := by
  refine Ev.down y.length ?_ ?_
  · exact Ev.suc (.all fun k R X0 X1 => by rw [f5_l15]; simp)
  · intro i hi h
    refine Ev.suc (h.imp fun k hk R X0 X1 => ?_)
    have h0 : 0 < y.length := by omega
    have hi2 : i < x.2.2.2.2.length := by omega
    have hz : inb 0 y.length = true := inb_int (by omega) (by omega)
    have e1 := hc _ (List.getElem_mem hi)
    have e0 := hc _ (List.getElem_mem h0)
    have e2 := hlt _ (List.getElem_mem hi2)
    have t : decide ((c : Int) ≥ (x.2.2.2.2[i].length : Int)) = false := by simp; omega
    have hz' : y.getD 0 [] = y[0] := getD_get h0
    rw [f5_l15, lt_nat, inb_nat, inb_nat, wrapSuc (by omega)]
    simp only [hi, hi2, decide_true, cond_true, hz, Int.toNat_natCast, getD_get hi, getD_get hi2, hz', e1, e0, bne_dec, Bool.not_true, cond_false, t, hk]

theorem laceCut_plain (x : D0) (hx : okB x) (at_ : Int) : ∃ k, f5 (R := Bool) k x.1 x.2.1 x.2.2.1 x.2.2.2.1 x.2.2.2.2 at_ some = some true := by
  refine Ev.some ?_
  cases hsm : smallB x.2.2.2.2 with
  | false =>
    refine (f9_v _ hx.lens).imp2 awake_v fun k h9 h15 => ?_
    simp [f5, f5_s, h9, hsm, h15]
  | true =>
    obtain ⟨_, hs⟩ := smallB_of hsm
    have h9 := f9_v _ hx.lens
    have h13 := f13_v x hx.lens
    by_cases hc : chkE x = 0
    · have hf := fineB_of hc
      have h10 := f10_v x hx.lens hs
      have hlen := write_length x
      have hp := hf.fine.pos
      have hle := hf.fine.le
      have hpos : 0 < (writeB x).length := by rw [write_split]; simp; omega
      have n0 : ¬ ((writeB x).length : Int) = 0 := by omega
      by_cases h4 : (writeB x).length ≤ 4000
      · have t4 : decide (((writeB x).length : Int) > 4000) = false := by simp; omega
        have h18 := f18_v at_ hpos h4
        generalize hm : withinI at_ (writeB x).length = m at h18
        have hml : m < (writeB x).length := by rw [← hm]; exact Nat.mod_lt _ hpos
        have hup : upto (m : Int) (writeB x).length = true := by rw [upto_nat]; simp; omega
        have hb : (writeB x).take m <+: writeB x := List.take_prefix _ _
        have hby : okBy ((writeB x).take m) := (write_by hf hx.bytes).take m
        have hbl : ((writeB x).take m).length = m := by simp; omega
        have h16 := f16_v ((writeB x).take m) hby (by omega)
        by_cases ha : (allR ((writeB x).take m)).1 = 0
        · obtain ⟨fs, z, hz⟩ := last_of hf.fine.pos
          by_cases h2 : x.2.2.2.1 = 2
          · obtain ⟨c, l, e1, e2, e3, e4⟩ := read_eq hf h2 hb hby (by omega) ha
            have hfr := hf.frames
            rw [h2] at hfr
            obtain ⟨c', hc'⟩ := like_all hfr
            have hsl := sumL_like hc'
            have hcc : c < c' := by
              have : x.2.2.2.2.length * c < x.2.2.2.2.length * c' := by omega
              exact Nat.lt_of_mul_lt_mul_left this
            have hlp := f5_loop x l (by omega) e2 c e3 (fun f hq => by rw [hc' f hq]; exact hcc) x.1 x.2.1 x.2.2.1 x.2.2.2.1 0 (by omega)
            refine (h9.and h13).imp4 (h10.and h16) awake_v hlp ?_
            rintro k ⟨h9, h13⟩ ⟨h10, h16⟩ h15 hlp
            rw [e4] at h16
            simp only [Int.natCast_zero] at hlp
            simp only [f5, f5_s, h9, hsm, Bool.not_true, cond_false, h13, hc, bne_dec, decide_true, h10, if_true, beq_dec, decide_eq_false n0, t4, h18, hup, cond_true, Int.toNat_natCast, h16, e2, hlp, h15, beq_self_eq_true]
            simp only [h2]; rfl
          · obtain ⟨s, e1, e4⟩ := read_pre hf hz h2 hb hby (by omega) ha
            have hsum : sumL x.2.2.2.2 = sumL fs + z.length := by rw [hz, sumL_app]
            have hsz : s < z.length := by omega
            have hzl : (fs ++ [z.take s]).length = x.2.2.2.2.length := by rw [hz]; simp
            have hN : x.2.2.2.2.length = fs.length + 1 := by rw [hz]; simp
            have w1 : IntKind.i64.wrap ((x.2.2.2.2.length : Int) - 1) = (fs.length : Int) := by rw [wrap64 (by omega) (by omega)]; omega
            have g1 : (fs ++ [z.take s]).getD fs.length [] = z.take s := by simp [List.getD]
            have g2 : x.2.2.2.2.getD fs.length [] = z := by rw [hz]; simp [List.getD]
            have k1 : (fs ++ [z.take s]).take fs.length = fs := by simp
            have k2 : x.2.2.2.2.take fs.length = fs := by rw [hz]; simp
            have zl : (z.take s).length = s := by simp; omega
            have u2 : upto (fs.length : Int) x.2.2.2.2.length = true := by rw [upto_nat, hN]; simp
            have i2 : inb (fs.length : Int) x.2.2.2.2.length = true := by rw [inb_nat, hN]; simp
            have u3 : upto (s : Int) z.length = true := by rw [upto_nat]; simp; omega
            have t3 : decide ((s : Int) ≥ (z.length : Int)) = false := by simp; omega
            have hzle : z.length ≤ 65536 := hf.fine.each z (by rw [hz]; simp)
            have hfs : okL fs := ⟨by rw [reachV]; omega, fun f hq => hx.lens.2 f (by rw [hz]; simp [hq])⟩
            refine (h9.and h13).imp4 (h10.and h16) awake_v ((f19_v fs fs hfs).and (f14_v (z.take s) (z.take s) (by rw [reachV]; omega))) ?_
            rintro k ⟨h9, h13⟩ ⟨h10, h16⟩ h15 ⟨h19, h14⟩
            rw [e4] at h16
            simp only [f5, f5_s, h9, hsm, Bool.not_true, cond_false, h13, hc, bne_dec, decide_true, h10, if_true, beq_dec, decide_eq_false n0, t4, h18, hup, cond_true, Int.toNat_natCast, h16, hzl, decide_eq_false h2, beq_self_eq_true, w1, g1, g2, k1, k2, h19]
            simp only [zl, u2, i2, u3, t3, cond_true, cond_false, h14, h15, decide_true]
        · refine (h9.and h13).imp4 h10 h16 awake_v ?_
          rintro k ⟨h9, h13⟩ h10 h16 h15
          have e4 : (readB ((writeB x).take m)).1 = (allR ((writeB x).take m)).1 := by unfold readB; rw [if_pos ha]
          simp only [f5, f5_s, h9, hsm, Bool.not_true, cond_false, h13, hc, bne_dec, decide_true, h10, if_true, beq_dec, decide_eq_false n0, t4, h18, hup, cond_true, Int.toNat_natCast, h16, e4, decide_eq_false ha, Bool.not_false, h15]
      · have t4 : decide (((writeB x).length : Int) > 4000) = true := by simp; omega
        refine (h9.and h13).imp3 h10 awake_v ?_
        rintro k ⟨h9, h13⟩ h10 h15
        simp only [f5, f5_s, h9, hsm, Bool.not_true, cond_false, h13, hc, bne_dec, decide_true, h10, if_true, beq_dec, decide_eq_false n0, t4, cond_true, h15]
    · refine h9.imp3 h13 awake_v fun k h9 h13 h15 => ?_
      simp only [f5, f5_s, h9, hsm, Bool.not_true, cond_false, h13, bne_dec, decide_eq_false hc, Bool.not_false, cond_true, h15]
end Go.Proofs.Ytnmoccdnkpkhhaa
