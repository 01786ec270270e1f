/- Proved: what the head, the sizes and the block of any bytes are. Conditions: at most 200,000 bytes. -/
import Derived.Test.YtnmoccdnkpkhhaaLcLaws3

/-! The head of a block, and the sizes behind it. -/
namespace Go.Proofs.Ytnmoccdnkpkhhaa
open Go Go.Am

theorem headR_bad {b : List Int} {e : Int} (h : headR b = ⟨e, 0, 0, false, 0, 0, 0⟩) : (headR b).err = e := by rw [h]

theorem f57_v (b : List Int) (hb : okBy b) (hl : b.length ≤ 300000) : ∃ (t tm : Int) (ky : Bool) (lc n at_ : Int), (Ev fun k => ∀ (R : Type) (K : Int → Int → Bool → Int → Int → Int → Int → Option R), f57 k b K = K t tm ky lc n at_ (headR b).err) ∧
    ((headR b).err = 0 → t = (headR b).track ∧ tm = (headR b).time ∧ ky = (headR b).key ∧ lc = (headR b).lacing ∧ n = (headR b).n ∧ at_ = (headR b).at_) := by
  have hrl : b.length ≤ reachBytes := by rw [reachV]; omega
  have h70 := f70_v b hb hrl 0 (by rw [reachV]; omega)
  obtain ⟨p1, p2, p3, p4⟩ := readV_ok hb (at_ := 0)
  simp only [Int.natCast_zero] at h70
  by_cases he : (readV b 0).2.2.2 = 0
  · obtain ⟨n, hn, n1, n8, nl⟩ := p3 he
    have hnt : (readV b 0).2.1.toNat = n := by rw [hn]; simp
    cases hu : (readV b 0).2.2.1 with
    | true =>
      have e : headR b = ⟨4, 0, 0, false, 0, 0, 0⟩ := by unfold headR; simp [he, hu]
      rw [e]
      exact ⟨0, 0, false, 0, 0, 0, h70.imp fun k h R K => by simp [f57, f57_s, h, he, hu], fun h => by simp at h⟩
    | false =>
      by_cases h1 : (readV b 0).1 < 1
      · have e : headR b = ⟨1, 0, 0, false, 0, 0, 0⟩ := by unfold headR; simp [he, hu, h1]
        rw [e]
        exact ⟨0, 0, false, 0, 0, 0, h70.imp fun k h R K => by simp [f57, f57_s, h, he, hu, h1], fun h => by simp at h⟩
      by_cases h2 : 1000 < (readV b 0).1
      · have e : headR b = ⟨1, 0, 0, false, 0, 0, 0⟩ := by unfold headR; simp [he, hu, h1, h2]
        rw [e]
        exact ⟨0, 0, false, 0, 0, 0, h70.imp fun k h R K => by simp [f57, f57_s, h, he, hu, h1, h2], fun h => by simp at h⟩
      have w3 : IntKind.i64.wrap ((n : Int) + 3) = ((n + 3 : Nat) : Int) := by rw [wrap64 (by omega) (by omega)]; omega
      have w2 : IntKind.i64.wrap ((n : Int) + 2) = ((n + 2 : Nat) : Int) := by rw [wrap64 (by omega) (by omega)]; omega
      have w1 : IntKind.i64.wrap ((n : Int) + 1) = ((n + 1 : Nat) : Int) := by rw [wrap64 (by omega) (by omega)]; omega
      by_cases h3 : b.length < n + 3
      · have e : headR b = ⟨3, 0, 0, false, 0, 0, 0⟩ := by unfold headR; simp [he, hu, h1, h2, hnt, h3]
        rw [e]
        have t3 : decide (((n + 3 : Nat) : Int) > (b.length : Int)) = true := by simp; omega
        exact ⟨0, 0, false, 0, 0, 0, h70.imp fun k h R K => by
          simp only [f57, f57_s, h, he, hu, hn, w3, t3, bne_dec, decide_true, Bool.not_true, cond_false, cond_true, decide_eq_false h1, show decide ((readV b 0).1 > 1000) = false from decide_eq_false h2], fun h => by simp at h⟩
      have t3 : decide (((n + 3 : Nat) : Int) > (b.length : Int)) = false := by simp; omega
      have hi : n < b.length := by omega
      have hi1 : n + 1 < b.length := by omega
      have hi2 : n + 2 < b.length := by omega
      have c0 := hb _ (List.getElem_mem hi)
      have c1 := hb _ (List.getElem_mem hi1)
      have c2 := hb _ (List.getElem_mem hi2)
      have g0 : b.getD n 0 = b[n] := getD_get hi
      have g1 : b.getD (n + 1) 0 = b[n + 1] := getD_get hi1
      have g2 : b.getD (n + 2) 0 = b[n + 2] := getD_get hi2
      obtain ⟨_, q2, _, q4, q5, q6⟩ := flag_of c2.1 c2.2
      have x1 : IntKind.i64.wrap b[n] = b[n] := wrap64 (by omega) (by omega)
      have x2 : IntKind.i64.wrap b[n + 1] = b[n + 1] := wrap64 (by omega) (by omega)
      have x3 : IntKind.i64.wrap (b[n] * 256) = b[n] * 256 := wrap64 (by omega) (by omega)
      have x4 : IntKind.i64.wrap (b[n] * 256 + b[n + 1]) = b[n] * 256 + b[n + 1] := wrap64 (by omega) (by omega)
      have x5 : IntKind.i64.wrap (b[n] * 256 + b[n + 1] - 65536) = b[n] * 256 + b[n + 1] - 65536 := wrap64 (by omega) (by omega)
      -- the time, whichever way
      have core : ∀ (tmv : Int), timeC b[n] b[n + 1] = tmv → ∃ (t tm : Int) (ky : Bool) (lc n' at_ : Int), (∀ (R : Type) (K : Int → Int → Bool → Int → Int → Int → Int → Option R),
          (bif ((andI .i64 b[n + 2] 121) != 0) then K (readV b 0).1 tmv false 0 0 0 4
          else bif (lacC b[n + 2] == 0) then K (readV b 0).1 tmv (decide (b[n + 2] ≥ 128)) (lacC b[n + 2]) 1 ((n + 3 : Nat) : Int) 0
          else bif decide (((n + 3 : Nat) : Int) ≥ (b.length : Int)) then K (readV b 0).1 tmv (decide (b[n + 2] ≥ 128)) (lacC b[n + 2]) 0 0 3
          else bif decide (n + 3 < b.length) then
            (bif decide (IntKind.i64.wrap (IntKind.i64.wrap (b.getD (n + 3) 0) + 1) > 32) then K (readV b 0).1 tmv (decide (b[n + 2] ≥ 128)) (lacC b[n + 2]) 0 0 2
            else K (readV b 0).1 tmv (decide (b[n + 2] ≥ 128)) (lacC b[n + 2]) (IntKind.i64.wrap (IntKind.i64.wrap (b.getD (n + 3) 0) + 1)) (IntKind.i64.wrap (((n + 3 : Nat) : Int) + 1)) 0)
          else none) = K t tm ky lc n' at_ (headR b).err) ∧
          ((headR b).err = 0 → t = (headR b).track ∧ tm = (headR b).time ∧ ky = (headR b).key ∧ lc = (headR b).lacing ∧ n' = (headR b).n ∧ at_ = (headR b).at_) := by
        intro tmv htm
        cases h4 : ((andI .i64 b[n + 2] 121) != 0) with
        | true =>
          have e : headR b = ⟨4, 0, 0, false, 0, 0, 0⟩ := by unfold headR; simp only [he, hu, h1, h2, hnt, h3, g2, h4]; simp
          rw [e]
          exact ⟨_, _, _, _, _, _, fun R K => by simp only [cond_true]; rfl, fun h => by simp at h⟩
        | false =>
          by_cases h5 : lacC b[n + 2] = 0
          · have e : headR b = ⟨0, (readV b 0).1, timeC b[n] b[n + 1], decide (b[n + 2] ≥ 128), lacC b[n + 2], 1, n + 3⟩ := by
              unfold headR; simp only [he, hu, h1, h2, hnt, h3, g0, g1, g2, h4, h5]; simp
            rw [e, htm]
            exact ⟨_, _, _, _, _, _, fun R K => by simp only [cond_false, h5, beq_dec, decide_true, cond_true]; rfl, fun _ => ⟨rfl, rfl, rfl, h5.symm, rfl, rfl⟩⟩
          · by_cases h6 : b.length = n + 3
            · have e : headR b = ⟨3, 0, 0, false, 0, 0, 0⟩ := by unfold headR; simp only [he, hu, h1, h2, hnt, h3, g2, h4, h5, h6]; simp
              have t6 : decide (((n + 3 : Nat) : Int) ≥ (b.length : Int)) = true := by simp; omega
              rw [e]
              exact ⟨_, _, _, _, _, _, fun R K => by simp only [cond_false, h5, beq_dec, decide_false, t6, cond_true]; rfl, fun h => by simp at h⟩
            · have hi3 : n + 3 < b.length := by omega
              have c3 := hb _ (List.getElem_mem hi3)
              have g3 : b.getD (n + 3) 0 = b[n + 3] := getD_get hi3
              have x7 : IntKind.i64.wrap b[n + 3] = b[n + 3] := wrap64 (by omega) (by omega)
              have x8 : IntKind.i64.wrap (b[n + 3] + 1) = b[n + 3] + 1 := wrap64 (by omega) (by omega)
              have t6 : decide (((n + 3 : Nat) : Int) ≥ (b.length : Int)) = false := by simp; omega
              by_cases h7 : 31 < b[n + 3]
              · have e : headR b = ⟨2, 0, 0, false, 0, 0, 0⟩ := by unfold headR; simp only [he, hu, h1, h2, hnt, h3, g2, h4, h5, h6, g3, h7]; simp
                have t7 : decide (b[n + 3] + 1 > 32) = true := by simp; omega
                rw [e]
                exact ⟨_, _, _, _, _, _, fun R K => by simp only [cond_false, h5, beq_dec, decide_false, t6, hi3, decide_true, cond_true, g3, x7, x8, t7]; rfl, fun h => by simp at h⟩
              · have e : headR b = ⟨0, (readV b 0).1, timeC b[n] b[n + 1], decide (b[n + 2] ≥ 128), lacC b[n + 2], (b[n + 3] + 1).toNat, n + 4⟩ := by
                  unfold headR; simp only [he, hu, h1, h2, hnt, h3, g0, g1, g2, h4, h5, h6, g3, h7]; simp
                have t7 : decide (b[n + 3] + 1 > 32) = false := by simp; omega
                have x9 : IntKind.i64.wrap (((n + 3 : Nat) : Int) + 1) = ((n + 4 : Nat) : Int) := by rw [wrap64 (by omega) (by omega)]; omega
                rw [e, htm]
                exact ⟨_, _, _, _, _, _, fun R K => by simp only [cond_false, h5, beq_dec, decide_false, t6, hi3, decide_true, cond_true, g3, x7, x8, t7, x9]; rfl, fun _ => ⟨rfl, rfl, rfl, rfl, by simp only; omega, rfl⟩⟩
      by_cases h8 : 32768 ≤ b[n] * 256 + b[n + 1]
      · obtain ⟨t, tm, ky, lc, n', at_, hK, hz⟩ := core (b[n] * 256 + b[n + 1] - 65536) (by unfold timeC; rw [if_pos h8])
        refine ⟨t, tm, ky, lc, n', at_, h70.imp fun k h R K => ?_, hz⟩
        have t8 : decide (b[n] * 256 + b[n + 1] ≥ 32768) = true := decide_eq_true h8
        rw [← hK R K]
        simp only [f57, f57_s, h, he, hu, hn, w3, w2, w1, t3, bne_dec, decide_true, Bool.not_true, cond_false, cond_true, decide_eq_false h1, show decide ((readV b 0).1 > 1000) = false from decide_eq_false h2,
          inb_nat, hi, hi1, hi2, Int.toNat_natCast, g0, g1, g2, x1, x2, x3, x4, t8, x5, q6]
        rfl
      · obtain ⟨t, tm, ky, lc, n', at_, hK, hz⟩ := core (b[n] * 256 + b[n + 1]) (by unfold timeC; rw [if_neg h8])
        refine ⟨t, tm, ky, lc, n', at_, h70.imp fun k h R K => ?_, hz⟩
        have t8 : decide (b[n] * 256 + b[n + 1] ≥ 32768) = false := decide_eq_false h8
        rw [← hK R K]
        simp only [f57, f57_s, h, he, hu, hn, w3, w2, w1, t3, bne_dec, decide_true, Bool.not_true, cond_false, cond_true, decide_eq_false h1, show decide ((readV b 0).1 > 1000) = false from decide_eq_false h2,
          inb_nat, hi, hi1, hi2, Int.toNat_natCast, g0, g1, g2, x1, x2, x3, x4, t8, q6]
        rfl
  · have e : headR b = ⟨(readV b 0).2.2.2, 0, 0, false, 0, 0, 0⟩ := by unfold headR; simp [he]
    rw [e]
    exact ⟨0, 0, false, 0, 0, 0, h70.imp fun k h R K => by simp [f57, f57_s, h, he, bne_dec], fun h => absurd h he⟩

/-- The sizes of all frames but the last one, as the program reads them. -/
def sizesP (b : List Int) (h : HeadR) : Int × List Int × Nat :=
  if h.lacing = 1 then (match runsR b (h.n - 1) h.at_ with
    | none => (3, [], b.length)
    | some (l, q) => (0, l, q))
  else if h.lacing = 3 then diffR clampZ b (h.n - 1) true 0 h.at_
  else (0, [], h.at_)

theorem diffR_bound {cl : Int → Int} {b : List Int} (hb : okBy b) : ∀ (m : Nat) (first : Bool) (x : Int) (p : Nat), p ≤ b.length → (diffR cl b m first x p).2.2 ≤ b.length ∧ ((diffR cl b m first x p).1 = 0 → (diffR cl b m first x p).2.1.length = m) ∧ ((diffR cl b m first x p).1 ≠ 0 → (diffR cl b m first x p).2.1 = [])
  | 0, first, x, p, hp => by simp [diffR, hp]
  | m + 1, first, x, p, hp => by
    have ok := readFS_ok hb first (p := p)
    simp only [diffR]
    generalize (if first = true then readF b p else readS b p) = r at *
    by_cases hr : r.2.2 = 0
    · obtain ⟨_, _, n, hn, _, _, hnb⟩ := ok hr
      have hnt : r.2.1.toNat = n := by rw [hn]; simp
      have ih := diffR_bound (cl := cl) hb m false (cl (x + r.1)) (p + n) hnb
      rw [hnt]
      simp only [hr, ne_eq, not_true_eq_false, if_false]
      by_cases h1 : (diffR cl b m false (cl (x + r.1)) (p + n)).1 = 0
      · simp [h1, ih.1, ih.2.1 h1]
      · simp [h1, ih.1]
    · simp [hr, hp]

theorem f68_2_v (a : List Int) (h : a.length ≤ 1000) (k : Nat) (R : Type) (K : List Int → Option R) : f68_2 k a K = K a := by
  simp only [f68_2, f68_2_s]
  rw [room_ok (by simp; omega)]
  rfl

theorem f55_v (b : List Int) (hl : b.length ≤ 300000) (hb : okBy b) (t tm : Int) (ky : Bool) (lc : Int) (h1 : 1 ≤ lc) (h3 : lc ≤ 3) (n : Nat) (hn : 1 ≤ n) (hn' : n ≤ 32) (at_ : Nat) (hat : at_ ≤ b.length) :
    Ev fun k => ∀ (R : Type) (K : Int → Int → Int → Bool → Int → Int → Int → List Int → Option R), f55 k b t tm ky lc (n : Int) (at_ : Int) K =
      K (sizesP b ⟨0, t, tm, ky, lc, n, at_⟩).1 t tm ky lc (n : Int) ((sizesP b ⟨0, t, tm, ky, lc, n, at_⟩).2.2 : Int) (sizesP b ⟨0, t, tm, ky, lc, n, at_⟩).2.1 := by
  have wn : IntKind.i64.wrap ((n : Int) - 1) = ((n - 1 : Nat) : Int) := by rw [wrap64 (by omega) (by omega)]; omega
  have tn : upto ((n - 1 : Nat) : Int) 32 = true := by rw [upto_nat]; simp; omega
  by_cases e1 : lc = 1
  · subst e1
    refine (f55_runs b hl hb (n - 1) (by omega) t tm ky 1 (n : Int) 0 (by omega)).imp fun k hk R K => ?_
    have hk := hk R at_ [] (fun v39 v40 v41 v42 v43 v44 v45 => bif Nat.beq 32 v45.length then bif upto (IntKind.i64.wrap (v43 - 1)) 32 then f68_2 k (v45.take ((IntKind.i64.wrap (v43 - 1)).toNat)) (fun v46 => K 0 v39 v40 v41 v42 v43 v44 v46) else none else none) (fun v47 v48 v49 v50 v51 v52 v53 => K v47 v48 v49 v50 v51 v52 v53 ([] : List Int)) hat rfl
    simp only [Int.natCast_zero, List.nil_append, Nat.sub_zero] at hk
    simp only [f55, f55_s, beq_dec, decide_true, cond_true, wn]
    rw [wn] at hk
    rw [hk]
    unfold sizesP
    simp only [if_true]
    cases hr : runsR b (n - 1) at_ with
    | none => rfl
    | some lq =>
      obtain ⟨l, q⟩ := lq
      have bd := runsR_bound hb hr hat
      simp only
      have e : (l ++ List.replicate (32 - (n - 1)) (0 : Int)).length = 32 := by simp [bd.1]; omega
      have e2 : (l ++ List.replicate (32 - (n - 1)) (0 : Int)).take (n - 1) = l := by rw [← bd.1]; simp
      rw [e, tn]
      simp only [Int.toNat_natCast, e2]
      rw [f68_2_v l (by omega)]; rfl
  · by_cases e3 : lc = 3
    · subst e3
      refine (f55_diffs b hl hb (n - 1) (by omega) t tm ky 3 (n : Int) 0 (by omega)).imp fun k hk R K => ?_
      have hk := hk R 0 at_ [] (fun v39 v40 v41 v42 v43 v44 v45 => bif Nat.beq 32 v45.length then bif upto (IntKind.i64.wrap (v43 - 1)) 32 then f68_2 k (v45.take ((IntKind.i64.wrap (v43 - 1)).toNat)) (fun v46 => K 0 v39 v40 v41 v42 v43 v44 v46) else none else none) (fun v47 v48 v49 v50 v51 v52 v53 => K v47 v48 v49 v50 v51 v52 v53 ([] : List Int)) (by decide) (by decide) hat rfl
      simp only [Int.natCast_zero, List.nil_append, Nat.sub_zero, decide_true] at hk
      simp only [f55, f55_s, beq_dec, e1, decide_false, decide_true, cond_true, cond_false, wn]
      rw [wn] at hk
      rw [hk]
      have bd := diffR_bound (cl := clampZ) hb (n - 1) true 0 at_ hat
      unfold sizesP
      simp only [e1, if_false, if_true]
      by_cases hz : (diffR clampZ b (n - 1) true 0 at_).1 = 0
      · have hlen := bd.2.1 hz
        have e : ((diffR clampZ b (n - 1) true 0 at_).2.1 ++ List.replicate (32 - (n - 1)) (0 : Int)).length = 32 := by simp [hlen]; omega
        have e2 : ((diffR clampZ b (n - 1) true 0 at_).2.1 ++ List.replicate (32 - (n - 1)) (0 : Int)).take (n - 1) = (diffR clampZ b (n - 1) true 0 at_).2.1 := by
          rw [List.take_append_of_le_length (by omega)]
          exact List.take_of_length_le (by omega)
        rw [if_neg (by simpa using hz), e, tn]
        simp only [Int.toNat_natCast, e2, hz]
        rw [f68_2_v _ (by omega)]; rfl
      · rw [if_pos (by simpa using hz), bd.2.2 hz]
    · have e2 : lc = 2 := by omega
      subst e2
      exact .all fun k R K => by simp [f55, f55_s, sizesP]
end Go.Proofs.Ytnmoccdnkpkhhaa

/-! A block's bytes, read: sizes, frames. -/
namespace Go.Proofs.Ytnmoccdnkpkhhaa
open Go Go.Am

/-- The error that the program's head ends with. -/
def headE (b : List Int) : Int := if (headR b).err ≠ 0 then (headR b).err else if (headR b).lacing = 0 then 0 else (sizesP b ⟨0, (headR b).track, (headR b).time, (headR b).key, (headR b).lacing, (headR b).n, (headR b).at_⟩).1
def headZ (b : List Int) : HeadR := ⟨0, (headR b).track, (headR b).time, (headR b).key, (headR b).lacing, (headR b).n, (headR b).at_⟩

theorem f38_v (b : List Int) (hb : okBy b) (hl : b.length ≤ 300000) : ∃ (t tm : Int) (ky : Bool) (lc n at_ : Int) (l : List Int), (Ev fun k => ∀ (R : Type) (K : Int → Int → Bool → Int → Int → Int → Int → List Int → Option R), f38 k b K = K t tm ky lc n at_ (headE b) l) ∧
    (headE b = 0 → t = (headR b).track ∧ tm = (headR b).time ∧ ky = (headR b).key ∧ lc = (headR b).lacing ∧ n = (headR b).n ∧ at_ = ((sizesP b (headZ b)).2.2 : Int) ∧ l = (sizesP b (headZ b)).2.1) := by
  have hrl : b.length ≤ reachBytes := by rw [reachV]; omega
  have h54 := f54_v b hb hrl 0 (by rw [reachV]; omega)
  obtain ⟨p1, p2, p3, p4⟩ := readV_ok hb (at_ := 0)
  simp only [Int.natCast_zero] at h54
  have z0 : ((0 : Int) != 0) = false := by decide
  have badE : ∀ e, e ≠ 0 → headR b = ⟨e, 0, 0, false, 0, 0, 0⟩ → headE b = e := by
    intro e he h; unfold headE; rw [h]; simp [he]
  by_cases he : (readV b 0).2.2.2 = 0
  · obtain ⟨n, hn, n1, n8, nl⟩ := p3 he
    have hnt : (readV b 0).2.1.toNat = n := by rw [hn]; simp
    cases hu : (readV b 0).2.2.1 with
    | true =>
      have e : headR b = ⟨4, 0, 0, false, 0, 0, 0⟩ := by unfold headR; simp [he, hu]
      rw [badE 4 (by decide) e]
      exact ⟨0, 0, false, 0, 0, 0, [], h54.imp fun k h R K => by simp [f38, f38_s, h, he, hu], fun h => by simp at h⟩
    | false =>
      by_cases h1 : (readV b 0).1 < 1
      · have e : headR b = ⟨1, 0, 0, false, 0, 0, 0⟩ := by unfold headR; simp [he, hu, h1]
        rw [badE 1 (by decide) e]
        exact ⟨0, 0, false, 0, 0, 0, [], h54.imp fun k h R K => by simp [f38, f38_s, h, he, hu, h1], fun h => by simp at h⟩
      by_cases h2 : 1000 < (readV b 0).1
      · have e : headR b = ⟨1, 0, 0, false, 0, 0, 0⟩ := by unfold headR; simp [he, hu, h1, h2]
        rw [badE 1 (by decide) e]
        exact ⟨0, 0, false, 0, 0, 0, [], h54.imp fun k h R K => by simp [f38, f38_s, h, he, hu, h1, h2], fun h => by simp at h⟩
      have w3 : IntKind.i64.wrap ((n : Int) + 3) = ((n + 3 : Nat) : Int) := by rw [wrap64 (by omega) (by omega)]; omega
      have w2 : IntKind.i64.wrap ((n : Int) + 2) = ((n + 2 : Nat) : Int) := by rw [wrap64 (by omega) (by omega)]; omega
      have w1 : IntKind.i64.wrap ((n : Int) + 1) = ((n + 1 : Nat) : Int) := by rw [wrap64 (by omega) (by omega)]; omega
      by_cases h3 : b.length < n + 3
      · have e : headR b = ⟨3, 0, 0, false, 0, 0, 0⟩ := by unfold headR; simp [he, hu, h1, h2, hnt, h3]
        rw [badE 3 (by decide) e]
        have t3 : decide ((b.length : Int) < ((n + 3 : Nat) : Int)) = true := by simp; omega
        exact ⟨0, 0, false, 0, 0, 0, [], h54.imp fun k h R K => by
          simp only [f38, f38_s, h, he, hu, hn, w3, t3, bne_dec, decide_true, Bool.not_true, cond_false, cond_true, decide_eq_false h1, show decide ((readV b 0).1 > 1000) = false from decide_eq_false h2], fun h => by simp at h⟩
      have t3 : decide ((b.length : Int) < ((n + 3 : Nat) : Int)) = false := by simp; omega
      have hi : n < b.length := by omega
      have hi1 : n + 1 < b.length := by omega
      have hi2 : n + 2 < b.length := by omega
      have c0 := hb _ (List.getElem_mem hi)
      have c1 := hb _ (List.getElem_mem hi1)
      have c2 := hb _ (List.getElem_mem hi2)
      have g0 : b.getD n 0 = b[n] := getD_get hi
      have g1 : b.getD (n + 1) 0 = b[n + 1] := getD_get hi1
      have g2 : b.getD (n + 2) 0 = b[n + 2] := getD_get hi2
      obtain ⟨q1, q2, q3, q4, q5, q6⟩ := flag_of c2.1 c2.2
      have tmE := time_of c0.1 c0.2 c1.1 c1.2
      cases h4 : ((andI .i64 b[n + 2] 121) != 0) with
      | true =>
        have e : headR b = ⟨4, 0, 0, false, 0, 0, 0⟩ := by unfold headR; simp only [he, hu, h1, h2, hnt, h3, g2, h4]; simp
        rw [badE 4 (by decide) e]
        rw [h4] at q1
        exact ⟨0, 0, false, 0, 0, 0, [], h54.imp fun k h R K => by
          simp only [f38, f38_s, h, he, hu, hn, w3, w2, t3, z0, decide_true, Bool.not_true, cond_false, cond_true, decide_eq_false h1, show decide ((readV b 0).1 > 1000) = false from decide_eq_false h2, inb_nat, hi2, Int.toNat_natCast, g2, q1], fun h => by simp at h⟩
      | false =>
        rw [h4] at q1
        by_cases h5 : lacC b[n + 2] = 0
        · have e : headR b = ⟨0, (readV b 0).1, timeC b[n] b[n + 1], decide (b[n + 2] ≥ 128), lacC b[n + 2], 1, n + 3⟩ := by
            unfold headR; simp only [he, hu, h1, h2, hnt, h3, g0, g1, g2, h4, h5]; simp
          have e2 : headE b = 0 := by unfold headE; rw [e]; simp [h5]
          have e3 : sizesP b (headZ b) = (0, [], n + 3) := by unfold headZ; rw [e]; unfold sizesP; simp [h5]
          rw [e2, e3, e]
          refine ⟨_, _, _, _, _, _, _, h54.imp fun k h R K => ?_, fun _ => ⟨rfl, rfl, rfl, rfl, rfl, rfl, rfl⟩⟩
          simp only [f38, f38_s, h, he, hu, hn, w3, w2, w1, t3, z0, decide_true, Bool.not_true, cond_false, cond_true, decide_eq_false h1, show decide ((readV b 0).1 > 1000) = false from decide_eq_false h2, inb_nat, hi, hi1, hi2, Int.toNat_natCast, g0, g1, g2, q1, q2, q3, tmE, beq_dec, h5]
          rfl
        · by_cases h6 : b.length = n + 3
          · have e : headR b = ⟨3, 0, 0, false, 0, 0, 0⟩ := by unfold headR; simp only [he, hu, h1, h2, hnt, h3, g2, h4, h5, h6]; simp
            have t6 : decide (((n + 3 : Nat) : Int) = (b.length : Int)) = true := by simp; omega
            rw [badE 3 (by decide) e]
            refine ⟨(readV b 0).1, timeC b[n] b[n + 1], decide (b[n + 2] ≥ 128), lacC b[n + 2], 1, ((n + 3 : Nat) : Int), [], h54.imp fun k h R K => ?_, fun h => by simp at h⟩
            simp only [f38, f38_s, h, he, hu, hn, w3, w2, w1, t3, z0, decide_true, Bool.not_true, cond_false, cond_true, decide_eq_false h1, show decide ((readV b 0).1 > 1000) = false from decide_eq_false h2, inb_nat, hi, hi1, hi2, Int.toNat_natCast, g0, g1, g2, q1, q2, q3, tmE, beq_dec, h5, decide_false, t6, cond_true]
          · have hi3 : n + 3 < b.length := by omega
            have c3 := hb _ (List.getElem_mem hi3)
            have g3 : b.getD (n + 3) 0 = b[n + 3] := getD_get hi3
            have x7 : IntKind.i64.wrap b[n + 3] = b[n + 3] := wrap64 (by omega) (by omega)
            have x8 : IntKind.i64.wrap (b[n + 3] + 1) = b[n + 3] + 1 := wrap64 (by omega) (by omega)
            have t6 : decide (((n + 3 : Nat) : Int) = (b.length : Int)) = false := by simp; omega
            by_cases h7 : 31 < b[n + 3]
            · have e : headR b = ⟨2, 0, 0, false, 0, 0, 0⟩ := by unfold headR; simp only [he, hu, h1, h2, hnt, h3, g2, h4, h5, h6, g3, h7]; simp
              have x9 : IntKind.i64.wrap (((n + 3 : Nat) : Int) + 1) = ((n + 4 : Nat) : Int) := by rw [wrap64 (by omega) (by omega)]; omega
              have t7 : decide (b[n + 3] + 1 > 32) = true := by simp; omega
              rw [badE 2 (by decide) e]
              refine ⟨(readV b 0).1, timeC b[n] b[n + 1], decide (b[n + 2] ≥ 128), lacC b[n + 2], b[n + 3] + 1, ((n + 4 : Nat) : Int), [], h54.imp fun k h R K => ?_, fun h => by simp at h⟩
              simp only [f38, f38_s, h, he, hu, hn, w3, w2, w1, t3, z0, decide_true, Bool.not_true, cond_false, cond_true, decide_eq_false h1, show decide ((readV b 0).1 > 1000) = false from decide_eq_false h2, inb_nat, hi, hi1, hi2, hi3, Int.toNat_natCast, g0, g1, g2, g3, q1, q2, q3, tmE, beq_dec, h5, decide_false, t6, x7, x8, t7, x9, cond_true]
            · have e : headR b = ⟨0, (readV b 0).1, timeC b[n] b[n + 1], decide (b[n + 2] ≥ 128), lacC b[n + 2], (b[n + 3] + 1).toNat, n + 4⟩ := by
                unfold headR; simp only [he, hu, h1, h2, hnt, h3, g0, g1, g2, h4, h5, h6, g3, h7]; simp
              have t7 : decide (b[n + 3] + 1 > 32) = false := by simp; omega
              have x9 : IntKind.i64.wrap (((n + 3 : Nat) : Int) + 1) = ((n + 4 : Nat) : Int) := by rw [wrap64 (by omega) (by omega)]; omega
              have xn : b[n + 3] + 1 = ((b[n + 3] + 1).toNat : Int) := by omega
              have h55 := f55_v b hl hb (readV b 0).1 (timeC b[n] b[n + 1]) (decide (b[n + 2] ≥ 128)) (lacC b[n + 2]) (by omega) q5 (b[n + 3] + 1).toNat (by omega) (by omega) (n + 4) (by omega)
              have ez : headZ b = ⟨0, (readV b 0).1, timeC b[n] b[n + 1], decide (b[n + 2] ≥ 128), lacC b[n + 2], (b[n + 3] + 1).toNat, n + 4⟩ := by unfold headZ; rw [e]
              have e2 : headE b = (sizesP b (headZ b)).1 := by unfold headE; rw [ez, e]; simp [h5]
              rw [e2, ez, e]
              refine ⟨_, _, _, _, _, _, _, h54.imp2 h55 fun k h h55 R K => ?_, fun _ => ⟨rfl, rfl, rfl, rfl, rfl, rfl, rfl⟩⟩
              rw [← xn] at h55
              simp only [f38, f38_s, h, he, hu, hn, w3, w2, w1, t3, z0, decide_true, Bool.not_true, cond_false, cond_true, decide_eq_false h1, show decide ((readV b 0).1 > 1000) = false from decide_eq_false h2, inb_nat, hi, hi1, hi2, hi3, Int.toNat_natCast, g0, g1, g2, g3, q1, q2, q3, tmE, beq_dec, h5, decide_false, t6, x7, x8, t7, x9]
              rw [h55 R _, ← xn]
  · have e : headR b = ⟨(readV b 0).2.2.2, 0, 0, false, 0, 0, 0⟩ := by unfold headR; simp [he]
    rw [badE _ he e]
    exact ⟨0, 0, false, 0, 0, 0, [], h54.imp fun k h R K => by simp [f38, f38_s, h, he, bne_dec], fun h => absurd h he⟩
end Go.Proofs.Ytnmoccdnkpkhhaa

/-! All sizes, by the program and by the chapter. -/
namespace Go.Proofs.Ytnmoccdnkpkhhaa
open Go Go.Am

def equalS (n left : Nat) : Int × List Int := if left % n ≠ 0 then (50, []) else fitS (List.replicate (n - 1) ((left / n : Nat) : Int)) (left : Int)

/-- The sizes as the program reads them; the error. -/
def allP (b : List Int) : Int × List Int :=
  if headE b ≠ 0 then (headE b, [])
  else if (headR b).lacing = 2 then equalS (headR b).n (b.length - (sizesP b (headZ b)).2.2)
  else fitS (sizesP b (headZ b)).2.1 ((b.length - (sizesP b (headZ b)).2.2 : Nat) : Int)

theorem fitS_err {l : List Int} {left : Int} (h : (fitS l left).1 ≠ 0) : (fitS l left).2 = [] := by
  unfold fitS at *
  split
  · rfl
  · rename_i hz; rw [if_neg hz] at h; simp at h

theorem f39_v (b : List Int) (hl : b.length ≤ 300000) (t tm : Int) (ky : Bool) (lc : Int) (n : Nat) (hn : 1 ≤ n) (hn' : n ≤ 32) (at_ : Nat) (hat : at_ ≤ b.length) (l : List Int) (hll : l.length ≤ 1000) : Ev fun k => ∀ (R : Type) (K : Int → List Int → Option R),
    f39 k t tm ky lc (n : Int) (at_ : Int) b l K = if lc = 2 then K (equalS n (b.length - at_)).1 (equalS n (b.length - at_)).2 else K (fitS l ((b.length - at_ : Nat) : Int)).1 (fitS l ((b.length - at_ : Nat) : Int)).2 := by
  have wl := wrapSub (a := b.length) (b := at_) hat (by omega)
  have fin : ∀ (l : List Int), l.length ≤ 1000 → Ev fun k => ∀ (R : Type) (K : Int → List Int → Option R), f39_l7 f56 k ((b.length - at_ : Nat) : Int) (l.length : Int) 0 t tm ky lc (n : Int) (at_ : Int) l (fun v21 v22 v23 v24 v25 v26 v27 v28 => bif decide (v21 > 65536) then K 2 ([] : List Int) else bif room 8 (v28.length + ([v21]).length) then K 0 (v28 ++ ([v21])) else none) (fun v29 => K v29 ([] : List Int)) = K (fitS l ((b.length - at_ : Nat) : Int)).1 (fitS l ((b.length - at_ : Nat) : Int)).2 := by
    intro l hll
    refine (f39_loop l hll t tm ky lc (n : Int) (at_ : Int) 0 (by omega)).imp fun k h R K => ?_
    simp only [Int.natCast_zero, List.drop_zero] at h
    rw [h R _ _ _ (by omega) (by omega)]
    simp only [fitS, fitR_L]
    by_cases e : (fitL l ((b.length - at_ : Nat) : Int)).1 = 0
    · by_cases d : (fitL l ((b.length - at_ : Nat) : Int)).2 > 65536
      · have d' : 65536 < (fitL l ((b.length - at_ : Nat) : Int)).2 := d
        simp [e, d']
      · have d' : ¬ 65536 < (fitL l ((b.length - at_ : Nat) : Int)).2 := d
        simp [e, d', room_ok (b := 8) (n := l.length + 1) (by omega)]
    · simp [e]
  by_cases h2 : lc = 2
  · subst h2
    have nz : ¬ ((n : Int) = 0) := by omega
    have e0 : ((b.length - at_ : Nat) : Int).tmod (n : Int) = (((b.length - at_) % n : Nat) : Int) := by
      rw [Int.tmod_eq_emod_of_nonneg (by omega)]; simp
    have e1 : IntKind.i64.wrap (((b.length - at_ : Nat) : Int).tdiv (n : Int)) = (((b.length - at_) / n : Nat) : Int) := by
      have : (b.length - at_) / n ≤ b.length - at_ := Nat.div_le_self _ _
      have e : ((b.length - at_ : Nat) : Int).tdiv (n : Int) = (((b.length - at_) / n : Nat) : Int) := by rw [Int.tdiv_eq_ediv_of_nonneg (by omega)]; simp
      rw [e, wrapNat (by omega)]
    have wn : IntKind.i64.wrap ((n : Int) - 1) = ((n - 1 : Nat) : Int) := by rw [wrap64 (by omega) (by omega)]; omega
    by_cases h0 : (b.length - at_) % n = 0
    · refine (f56_v (((b.length - at_) / n : Nat) : Int) (n - 1) (by omega)).imp2 (fin (List.replicate (n - 1) (((b.length - at_) / n : Nat) : Int)) (by simp; omega)) fun k h56 hf R K => ?_
      have hd : equalS n (b.length - at_) = fitS (List.replicate (n - 1) (((b.length - at_) / n : Nat) : Int)) ((b.length - at_ : Nat) : Int) := by unfold equalS; rw [if_neg (by simpa using h0)]
      rw [if_pos rfl, hd]
      simp only [f39, f39_s, beq_dec, bne_dec, decide_true, cond_true, decide_eq_false nz, cond_false, wl, e0, e1, wn, h56]
      have hz : decide ((((b.length - at_) % n : Nat) : Int) = 0) = true := by rw [h0]; rfl
      rw [hz]
      simp only [Bool.not_true, cond_false]
      exact hf R K
    · refine .all fun k R K => ?_
      have hd : equalS n (b.length - at_) = (50, []) := by unfold equalS; rw [if_pos h0]
      rw [if_pos rfl, hd]
      have hz : decide ((((b.length - at_) % n : Nat) : Int) = 0) = false := by simp; omega
      simp only [f39, f39_s, beq_dec, bne_dec, decide_true, cond_true, decide_eq_false nz, cond_false, wl, e0, hz, Bool.not_false]
  · refine (fin l hll).imp fun k hf R K => ?_
    rw [if_neg h2]
    simp only [f39, f39_s, beq_dec, decide_eq_false h2, cond_false, wl]
    exact hf R K

theorem sizesP_bound {b : List Int} (hb : okBy b) {h : HeadR} (hat : h.at_ ≤ b.length) : (sizesP b h).2.2 ≤ b.length ∧ ((sizesP b h).1 = 0 → h.lacing = 1 ∨ h.lacing = 3 → (sizesP b h).2.1.length = h.n - 1) ∧ (¬ (h.lacing = 1 ∨ h.lacing = 3) → sizesP b h = (0, [], h.at_)) := by
  unfold sizesP
  split
  · rename_i h1
    cases hr : runsR b (h.n - 1) h.at_ with
    | none => simp [h1]
    | some lq =>
      obtain ⟨l, q⟩ := lq
      have bd := runsR_bound hb hr hat
      exact ⟨bd.2.2.1, fun _ _ => bd.1, fun hc => absurd (.inl h1) hc⟩
  · split
    · rename_i h3
      have bd := diffR_bound (cl := clampZ) hb (h.n - 1) true 0 h.at_ hat
      exact ⟨bd.1, fun hz _ => bd.2.1 hz, fun hc => absurd (.inr h3) hc⟩
    · rename_i h1 h3
      exact ⟨hat, fun _ hc => by rcases hc with hc | hc; exact absurd hc h1; exact absurd hc h3, fun _ => rfl⟩

theorem headE_zero {b : List Int} (h : headE b = 0) : (headR b).err = 0 ∧ ((headR b).lacing = 0 ∨ (sizesP b (headZ b)).1 = 0) := by
  unfold headE at h
  split at h
  · rename_i he; exact absurd h he
  · rename_i he
    refine ⟨by simpa using he, ?_⟩
    split at h
    · rename_i hz; exact .inl hz
    · exact .inr h

theorem f21_v (b : List Int) (hb : okBy b) (hl : b.length ≤ 300000) : Ev fun k => ∀ (R : Type) (K : Int → List Int → Option R), f21 k b K = K (allP b).1 (allP b).2 := by
  obtain ⟨t, tm, ky, lc, n, at_, l, h38, hv⟩ := f38_v b hb hl
  by_cases he : headE b = 0
  · obtain ⟨rfl, rfl, rfl, rfl, rfl, rfl, rfl⟩ := hv he
    obtain ⟨hr, hz⟩ := headE_zero he
    have ok := headR_ok hb hr
    have bd := sizesP_bound hb (h := headZ b) ok.2.2.1
    have hlen : (sizesP b (headZ b)).2.1.length ≤ 1000 := by
      by_cases hc : (headZ b).lacing = 1 ∨ (headZ b).lacing = 3
      · have : (sizesP b (headZ b)).1 = 0 := by
          rcases hz with hz | hz
          · have : (headZ b).lacing = 0 := hz
            omega
          · exact hz
        have := bd.2.1 this hc
        have : (headZ b).n = (headR b).n := rfl
        omega
      · rw [bd.2.2 hc]; simp
    refine h38.imp2 (f39_v b hl (headR b).track (headR b).time (headR b).key (headR b).lacing (headR b).n ok.1 ok.2.1 (sizesP b (headZ b)).2.2 bd.1 (sizesP b (headZ b)).2.1 hlen) fun k h h39 R K => ?_
    simp only [f21, f21_s, h, he, bne_dec, decide_true, Bool.not_true, cond_false, h39]
    have ea : allP b = if (headR b).lacing = 2 then equalS (headR b).n (b.length - (sizesP b (headZ b)).2.2) else fitS (sizesP b (headZ b)).2.1 ((b.length - (sizesP b (headZ b)).2.2 : Nat) : Int) := by
      unfold allP; rw [if_neg (fun hq => hq he)]
    rw [ea]
    by_cases h2 : (headR b).lacing = 2
    · rw [if_pos h2, if_pos h2]
    · rw [if_neg h2, if_neg h2]
  · refine h38.imp fun k h R K => ?_
    unfold allP
    simp [f21, f21_s, h, he, bne_dec]

/-! the chapter's -/
def allR (b : List Int) : Int × List Int :=
  if (headR b).err ≠ 0 then ((headR b).err, [])
  else if (headR b).lacing = 1 then (match runsR b ((headR b).n - 1) (headR b).at_ with
    | none => (3, [])
    | some (l, q) => fitS l ((b.length - q : Nat) : Int))
  else if (headR b).lacing = 3 then
    if (diffR id b ((headR b).n - 1) true 0 (headR b).at_).1 ≠ 0 then ((diffR id b ((headR b).n - 1) true 0 (headR b).at_).1, [])
    else fitS (diffR id b ((headR b).n - 1) true 0 (headR b).at_).2.1 ((b.length - (diffR id b ((headR b).n - 1) true 0 (headR b).at_).2.2 : Nat) : Int)
  else if (headR b).lacing = 2 then equalS (headR b).n (b.length - (headR b).at_)
  else fitS [] ((b.length - (headR b).at_ : Nat) : Int)

theorem allR_P {b : List Int} (hl : b.length ≤ 300000) : allR b = allP b := by
  unfold allR allP headE
  by_cases he : (headR b).err = 0
  · simp only [he, ne_eq, not_true_eq_false, if_false]
    by_cases h1 : (headR b).lacing = 1
    · have e2 : ¬ (headR b).lacing = 2 := by omega
      have e0 : ¬ (headR b).lacing = 0 := by omega
      have hs : sizesP b (headZ b) = (match runsR b ((headR b).n - 1) (headR b).at_ with
        | none => (3, [], b.length)
        | some (l, q) => (0, l, q)) := by
        unfold sizesP; rw [if_pos (show (headZ b).lacing = 1 from h1)]; rfl
      have hs' : sizesP b ⟨0, (headR b).track, (headR b).time, (headR b).key, (headR b).lacing, (headR b).n, (headR b).at_⟩ = sizesP b (headZ b) := rfl
      simp only [h1, if_true]
      simp only [h1] at hs'
      rw [hs', hs]
      cases runsR b ((headR b).n - 1) (headR b).at_ with
      | none => simp
      | some lq => simp
    · by_cases h3 : (headR b).lacing = 3
      · have e2 : ¬ (headR b).lacing = 2 := by omega
        have e0 : ¬ (headR b).lacing = 0 := by omega
        have hs : sizesP b (headZ b) = diffR clampZ b ((headR b).n - 1) true 0 (headR b).at_ := by
          unfold sizesP; rw [if_neg (show ¬ (headZ b).lacing = 1 from h1), if_pos (show (headZ b).lacing = 3 from h3)]; rfl
        have hs' : sizesP b ⟨0, (headR b).track, (headR b).time, (headR b).key, (headR b).lacing, (headR b).n, (headR b).at_⟩ = sizesP b (headZ b) := rfl
        have er := diffR_err clampZ id b ((headR b).n - 1) true 0 0 (headR b).at_
        rw [if_neg h1, if_pos h3, if_neg e0, hs', hs, er.1, er.2]
        by_cases hz : (diffR id b ((headR b).n - 1) true 0 (headR b).at_).1 = 0
        · simp only [hz, not_true_eq_false, if_false, e2]
          have fd := fit_diff b 300000 (by decide) ((headR b).n - 1) true 0 (headR b).at_ ((b.length - (diffR id b ((headR b).n - 1) true 0 (headR b).at_).2.2 : Nat) : Int) (by omega) hz
          unfold fitS
          rw [fd.1]
          by_cases hq : (fitR (diffR id b ((headR b).n - 1) true 0 (headR b).at_).2.1 ((b.length - (diffR id b ((headR b).n - 1) true 0 (headR b).at_).2.2 : Nat) : Int)).1 = 0
          · rw [fd.2 hq]
          · rw [if_pos hq, if_pos hq]
        · simp [hz]
      · have hs : sizesP b (headZ b) = (0, [], (headR b).at_) := by
          unfold sizesP; rw [if_neg (show ¬ (headZ b).lacing = 1 from h1), if_neg (show ¬ (headZ b).lacing = 3 from h3)]; rfl
        have hs' : sizesP b ⟨0, (headR b).track, (headR b).time, (headR b).key, (headR b).lacing, (headR b).n, (headR b).at_⟩ = sizesP b (headZ b) := rfl
        rw [if_neg h1, if_neg h3, hs', hs]
        by_cases h2 : (headR b).lacing = 2
        · simp [h2]
        · simp [h2]
  · simp [he]
end Go.Proofs.Ytnmoccdnkpkhhaa

/-! The block of any bytes. -/
namespace Go.Proofs.Ytnmoccdnkpkhhaa
open Go Go.Am

/-- Where the frames begin, as the chapter has it. -/
def placeR (b : List Int) : Nat :=
  if (headR b).lacing = 1 then (match runsR b ((headR b).n - 1) (headR b).at_ with
    | none => 0
    | some (_, q) => q)
  else if (headR b).lacing = 3 then (diffR id b ((headR b).n - 1) true 0 (headR b).at_).2.2
  else (headR b).at_

theorem f41_loop (b : List Int) (n left : Nat) (hn : 1 ≤ n) (hn' : n ≤ 32) (hleft : left ≤ 300000) (v20 v21 c1 c2 : Int) (c3 : Bool) (c4 d1 d2 : Int) (d3 : Bool) (d4 : Int) : ∀ i, i ≤ n - 1 → Ev fun k => ∀ (R : Type) (X : List Int → Int → Int → Int → Int → Bool → Int → Int → Int → Bool → Int → List Int → Option R),
    f41_l15 f57 f58 f60 f59 f60_2 k b (n : Int) v20 v21 (left : Int) (i : Int) c1 c2 c3 c4 d1 d2 d3 d4 (List.replicate i ((left / n : Nat) : Int)) X = X b v20 v21 c1 c2 c3 c4 d1 d2 d3 d4 (List.replicate (n - 1) ((left / n : Nat) : Int)) := by
  have wn : IntKind.i64.wrap ((n : Int) - 1) = ((n - 1 : Nat) : Int) := by rw [wrap64 (by omega) (by omega)]; omega
  have nz : ¬ ((n : Int) = 0) := by omega
  have e1 : IntKind.i64.wrap ((left : Int).tdiv (n : Int)) = ((left / n : Nat) : Int) := by
    have : left / n ≤ left := Nat.div_le_self _ _
    have e : (left : Int).tdiv (n : Int) = ((left / n : Nat) : Int) := by rw [Int.tdiv_eq_ediv_of_nonneg (by omega)]; simp
    rw [e, wrapNat (by omega)]
  refine Ev.down (n - 1) ?_ ?_
  · refine Ev.suc (.all fun k R X => ?_)
    rw [f41_l15, wn]
    simp
  · intro i hi hh
    refine Ev.suc (hh.imp fun k hk R X => ?_)
    rw [f41_l15, wn, lt_nat]
    simp only [hi, decide_true, cond_true, decide_eq_false nz, cond_false, e1]
    rw [room_ok (by simp; omega), cond_true, wrapSuc (by omega)]
    have : List.replicate i ((left / n : Nat) : Int) ++ [((left / n : Nat) : Int)] = List.replicate (i + 1) ((left / n : Nat) : Int) := by rw [List.replicate_succ']
    rw [this, hk]

theorem f41_v (b : List Int) (hb : okBy b) (hl : b.length ≤ 300000) : ∃ (t tm : Int) (ky : Bool) (lc at_ : Int) (l : List Int), (Ev fun k => ∀ (R : Type) (K : Int → Int → Bool → Int → Int → Int → List Int → Option R), f41 k b K = K t tm ky lc at_ (allR b).1 l) ∧
    ((allR b).1 = 0 → t = (headR b).track ∧ tm = (headR b).time ∧ ky = (headR b).key ∧ lc = (headR b).lacing ∧ at_ = (placeR b : Int) ∧ l = (allR b).2) := by
  obtain ⟨t, tm, ky, lc, n, at_, h57, hv⟩ := f57_v b hb hl
  by_cases he : (headR b).err = 0
  · obtain ⟨rfl, rfl, rfl, rfl, rfl, rfl⟩ := hv he
    have ok := headR_ok hb he
    rw [he] at h57
    have z0 : ((0 : Int) != 0) = false := by decide
    by_cases h1 : (headR b).lacing = 1
    · have h58 := f58_v b hl hb (headR b).n ok.1 (by have := ok.2.1; omega) (headR b).at_ ok.2.2.1
      cases hr : runsR b ((headR b).n - 1) (headR b).at_ with
      | none =>
        have e : allR b = (3, []) := by unfold allR; simp [he, h1, hr]
        rw [e]
        refine ⟨(headR b).track, (headR b).time, (headR b).key, (headR b).lacing, 0, [], h57.imp2 h58 fun k h h58 R K => ?_, fun h => by simp at h⟩
        rw [hr] at h58
        simp only [f41, f41_s, h, z0, cond_false, h1, beq_dec, decide_true, cond_true, h58]
        simp
      | some lq =>
        obtain ⟨l, q⟩ := lq
        have bd := runsR_bound hb hr ok.2.2.1
        have e : allR b = fitS l ((b.length - q : Nat) : Int) := by unfold allR; simp [he, h1, hr]
        have ep : placeR b = q := by unfold placeR; simp [h1, hr]
        have wl := wrapSub (a := b.length) (b := q) bd.2.2.1 (by omega)
        have h60 := f60_v l (by omega) (left := ((b.length - q : Nat) : Int)) (by omega) (by omega)
        rw [e, ep]
        refine ⟨_, _, _, _, _, _, (h57.and h58).imp2 h60 fun k h h60 R K => ?_, fun _ => ⟨rfl, rfl, rfl, rfl, rfl, rfl⟩⟩
        obtain ⟨h, h58⟩ := h
        rw [hr] at h58
        simp only [f41, f41_s, h, z0, cond_false, h1, beq_dec, decide_true, cond_true, h58, wl, h60]
    · by_cases h3 : (headR b).lacing = 3
      · have h59 := f59_v b hl hb (headR b).n ok.1 ok.2.1 (headR b).at_ ok.2.2.1
        have bd := diffR_bound (cl := id) hb ((headR b).n - 1) true 0 (headR b).at_ ok.2.2.1
        have ep : placeR b = (diffR id b ((headR b).n - 1) true 0 (headR b).at_).2.2 := by unfold placeR; rw [if_neg h1, if_pos h3]
        by_cases hz : (diffR id b ((headR b).n - 1) true 0 (headR b).at_).1 = 0
        · have e : allR b = fitS (diffR id b ((headR b).n - 1) true 0 (headR b).at_).2.1 ((b.length - (diffR id b ((headR b).n - 1) true 0 (headR b).at_).2.2 : Nat) : Int) := by
            unfold allR; rw [if_neg (fun hq => hq he), if_neg h1, if_pos h3, if_neg (fun hq => hq hz)]
          have wl := wrapSub (a := b.length) (b := (diffR id b ((headR b).n - 1) true 0 (headR b).at_).2.2) bd.1 (by omega)
          have h60 := f60_v (diffR id b ((headR b).n - 1) true 0 (headR b).at_).2.1 (by rw [bd.2.1 hz]; omega) (left := ((b.length - (diffR id b ((headR b).n - 1) true 0 (headR b).at_).2.2 : Nat) : Int)) (by omega) (by omega)
          rw [e, ep]
          refine ⟨_, _, _, _, _, _, (h57.and h59).imp2 h60 fun k h h60 R K => ?_, fun _ => ⟨rfl, rfl, rfl, rfl, rfl, rfl⟩⟩
          obtain ⟨h, h59⟩ := h
          simp only [f41, f41_s, h, z0, cond_false, h3, beq_dec, decide_true, cond_true, h59, hz, ne_eq, not_true_eq_false, if_false, wl, h60, show decide ((3 : Int) = 1) = false from by decide]
        · have e : allR b = ((diffR id b ((headR b).n - 1) true 0 (headR b).at_).1, []) := by
            unfold allR; rw [if_neg (fun hq => hq he), if_neg h1, if_pos h3, if_pos hz]
          rw [e]
          refine ⟨(headR b).track, (headR b).time, (headR b).key, (headR b).lacing, 0, [], h57.imp2 h59 fun k h h59 R K => ?_, fun h => absurd h hz⟩
          simp only [f41, f41_s, h, z0, cond_false, h3, beq_dec, bne_dec, decide_true, cond_true, h59, ne_eq, hz, not_false_eq_true, if_true, decide_false, Bool.not_false, Bool.not_true, show decide ((3 : Int) = 1) = false from by decide]
      · by_cases h2 : (headR b).lacing = 2
        · have ep : placeR b = (headR b).at_ := by unfold placeR; rw [if_neg h1, if_neg h3]
          have e : allR b = equalS (headR b).n (b.length - (headR b).at_) := by unfold allR; rw [if_neg (fun hq => hq he), if_neg h1, if_neg h3, if_pos h2]
          have wl := wrapSub (a := b.length) (b := (headR b).at_) ok.2.2.1 (by omega)
          have nz : ¬ (((headR b).n : Int) = 0) := by have := ok.1; omega
          have e0 : ((b.length - (headR b).at_ : Nat) : Int).tmod ((headR b).n : Int) = (((b.length - (headR b).at_) % (headR b).n : Nat) : Int) := by
            rw [Int.tmod_eq_emod_of_nonneg (by omega)]; simp
          rw [e, ep]
          by_cases h0 : (b.length - (headR b).at_) % (headR b).n = 0
          · have hd : equalS (headR b).n (b.length - (headR b).at_) = fitS (List.replicate ((headR b).n - 1) (((b.length - (headR b).at_) / (headR b).n : Nat) : Int)) ((b.length - (headR b).at_ : Nat) : Int) := by unfold equalS; rw [if_neg (by simpa using h0)]
            have hlp := f41_loop b (headR b).n (b.length - (headR b).at_) ok.1 ok.2.1 (by omega) ((headR b).at_ : Int) 0 0 0 false 0 (headR b).track (headR b).time (headR b).key (headR b).lacing 0 (by omega)
            have h60 := f60_v (List.replicate ((headR b).n - 1) (((b.length - (headR b).at_) / (headR b).n : Nat) : Int)) (by have := ok.2.1; simp; omega) (left := ((b.length - (headR b).at_ : Nat) : Int)) (by omega) (by omega)
            simp only [Int.natCast_zero, List.replicate_zero] at hlp
            have hz : decide ((((b.length - (headR b).at_) % (headR b).n : Nat) : Int) = 0) = true := by rw [h0]; rfl
            rw [hd]
            refine ⟨_, _, _, _, _, _, (h57.and hlp).imp2 h60 fun k h h60 R K => ?_, fun _ => ⟨rfl, rfl, rfl, rfl, rfl, rfl⟩⟩
            obtain ⟨h, hlp⟩ := h
            rw [h2] at h hlp
            simp only [f41, f41_s, h, z0, cond_false, beq_dec, bne_dec (((b.length - (headR b).at_) % (headR b).n : Nat) : Int), decide_true, cond_true, decide_eq_false nz, wl, e0, hz, Bool.not_true, hlp, h60, show decide ((2 : Int) = 1) = false from by decide, show decide ((2 : Int) = 3) = false from by decide, h2]
          · have hd : equalS (headR b).n (b.length - (headR b).at_) = (50, []) := by unfold equalS; rw [if_pos h0]
            have hz : decide ((((b.length - (headR b).at_) % (headR b).n : Nat) : Int) = 0) = false := by simp; omega
            rw [hd]
            refine ⟨(headR b).track, (headR b).time, (headR b).key, (headR b).lacing, 0, [], h57.imp fun k h R K => ?_, fun h => by simp at h⟩
            rw [h2] at h ⊢
            simp only [f41, f41_s, h, z0, cond_false, beq_dec, bne_dec (((b.length - (headR b).at_) % (headR b).n : Nat) : Int), decide_true, cond_true, decide_eq_false nz, wl, e0, hz, Bool.not_false, show decide ((2 : Int) = 1) = false from by decide, show decide ((2 : Int) = 3) = false from by decide]
        · have ep : placeR b = (headR b).at_ := by unfold placeR; rw [if_neg h1, if_neg h3]
          have e : allR b = fitS [] ((b.length - (headR b).at_ : Nat) : Int) := by unfold allR; rw [if_neg (fun hq => hq he), if_neg h1, if_neg h3, if_neg h2]
          have wl := wrapSub (a := b.length) (b := (headR b).at_) ok.2.2.1 (by omega)
          have h60 := f60_2_v (left := ((b.length - (headR b).at_ : Nat) : Int))
          rw [e, ep]
          refine ⟨_, _, _, _, _, _, h57.imp2 h60 fun k h h60 R K => ?_, fun _ => ⟨rfl, rfl, rfl, rfl, rfl, rfl⟩⟩
          simp only [f41, f41_s, h, z0, cond_false, beq_dec, decide_eq_false h1, decide_eq_false h2, decide_eq_false h3, wl, h60]
  · have e : allR b = ((headR b).err, []) := by unfold allR; rw [if_pos he]
    rw [e]
    refine ⟨t, tm, ky, lc, 0, [], h57.imp fun k h R K => ?_, fun h => absurd h he⟩
    simp only [f41, f41_s, h, bne_dec, decide_eq_false he, Bool.not_false, cond_true]

theorem f22_v (b : List Int) (hb : okBy b) (hl : b.length ≤ 300000) : Ev fun k => ∀ (R : Type) (K : Int → List Int → Option R), f22 k b K = K (allR b).1 (allR b).2 := by
  obtain ⟨t, tm, ky, lc, at_, l, h41, hv⟩ := f41_v b hb hl
  by_cases he : (allR b).1 = 0
  · obtain ⟨_, _, _, _, _, rfl⟩ := hv he
    refine h41.imp fun k h R K => ?_
    simp [f22, f22_s, h, he]
  · have hn : (allR b).2 = [] := by
      unfold allR at he ⊢
      split at he
      · rename_i hq; rw [if_pos hq]
      · rename_i hq
        rw [if_neg hq]
        split at he
        · rename_i h1
          rw [if_pos h1]
          cases hr : runsR b ((headR b).n - 1) (headR b).at_ with
          | none => rfl
          | some lq => rw [hr] at he; exact fitS_err he
        · rename_i h1
          rw [if_neg h1]
          split at he
          · rename_i h3
            rw [if_pos h3]
            split at he
            · rename_i hz; rw [if_pos hz]
            · rename_i hz; rw [if_neg hz]; exact fitS_err he
          · rename_i h3
            rw [if_neg h3]
            split at he
            · rename_i h2
              rw [if_pos h2]
              unfold equalS at he ⊢
              split at he
              · rename_i h0; rw [if_pos h0]
              · rename_i h0; rw [if_neg h0]; exact fitS_err he
            · rename_i h2; rw [if_neg h2]; exact fitS_err he
    refine h41.imp fun k h R K => ?_
    simp [f22, f22_s, h, he, hn, bne_dec]
end Go.Proofs.Ytnmoccdnkpkhhaa

/-! The block of any bytes: its frames; the law LaceReads. -/
namespace Go.Proofs.Ytnmoccdnkpkhhaa
open Go Go.Am

def sumI : List Int → Int
  | [] => 0
  | s :: l => s + sumI l
def framesB (b : List Int) : List Int → Nat → List (List Int)
  | [], _ => []
  | s :: l, p => (b.drop p).take s.toNat :: framesB b l (p + s.toNat)

/-- Sizes that fill what is left. -/
def FillS (l : List Int) (left : Int) : Prop := (∀ s ∈ l, 0 ≤ s) ∧ sumI l = left

theorem fill_of : ∀ {l : List Int} {left : Int}, 0 ≤ left → (fitR l left).1 = 0 → FillS (l ++ [(fitR l left).2]) left
  | [], left, h0, h => by
    simp only [fitR] at h ⊢
    exact ⟨by simp [h0], by simp [sumI]⟩
  | s :: l, left, h0, h => by
    simp only [fitR] at h ⊢
    by_cases a : s < 0
    · rw [if_pos a] at h; simp at h
    · rw [if_neg a] at h ⊢
      by_cases c : s > left
      · rw [if_pos c] at h; simp at h
      · rw [if_neg c] at h ⊢
        by_cases d : s > 65536
        · rw [if_pos d] at h; simp at h
        · rw [if_neg d] at h ⊢
          obtain ⟨i1, i2⟩ := fill_of (l := l) (left := left - s) (by omega) h
          refine ⟨fun x hx => ?_, ?_⟩
          · rcases List.mem_cons.1 hx with rfl | hx
            · omega
            · exact i1 x hx
          · simp only [List.cons_append, sumI, i2]; omega
theorem fillS_of {l : List Int} {left : Int} (h0 : 0 ≤ left) (h : (fitS l left).1 = 0) : FillS (fitS l left).2 left ∧ (fitS l left).2.length = l.length + 1 := by
  unfold fitS at *
  by_cases hz : (fitR l left).1 = 0
  · rw [if_neg (fun hq => hq hz)] at h ⊢
    exact ⟨fill_of h0 hz, by simp⟩
  · rw [if_pos hz] at h
    exact absurd h hz

theorem sumI_drop {l : List Int} {i : Nat} (hi : i < l.length) : sumI (l.drop i) = l[i] + sumI (l.drop (i + 1)) := by
  rw [List.drop_eq_getElem_cons hi]; rfl
theorem sumI_nn : ∀ {l : List Int}, (∀ s ∈ l, 0 ≤ s) → 0 ≤ sumI l
  | [], _ => by simp [sumI]
  | s :: l, h => by
    have := sumI_nn (l := l) fun x hx => h x (by simp [hx])
    have := h s (by simp)
    simp only [sumI]; omega

theorem cutE {b : List Int} {p n : Nat} (_h : p + n ≤ b.length) : (b.take (p + n)).drop p = (b.drop p).take n := by
  rw [List.drop_take]; congr 1; omega

theorem f16_loop (b : List Int) (hl : b.length ≤ 300000) (l : List Int) (hll : l.length ≤ 1000) (hnn : ∀ s ∈ l, 0 ≤ s) (c1 c2 : Int) (c3 : Bool) (c4 t tm : Int) (ky : Bool) (lc : Int) : ∀ i, i ≤ l.length → Ev fun k => ∀ (R : Type) (p : Nat) (acc : List (List Int)) (X : Int → Int → Bool → Int → Int → Int → Bool → Int → List (List Int) → Option R), (p : Int) + sumI (l.drop i) ≤ b.length → acc.length = i →
    f16_l9 f38 f39 f40_2 k b (p : Int) (l.length : Int) (i : Int) c1 c2 c3 c4 t tm ky lc acc l X = X c1 c2 c3 c4 t tm ky lc (acc ++ framesB b (l.drop i) p) := by
  have hc : Ev fun k => ∀ n, n ≤ b.length → ∀ p, p ≤ b.length → ∀ (R : Type) (K : List Int → Option R), f40_2 k ((b.drop p).take n) K = K ((b.drop p).take n) :=
    Ev.forall_le fun n _ => Ev.forall_le fun p _ => f40_2_v _ (by rw [reachV]; simp; omega)
  refine Ev.down l.length ?_ ?_
  · refine Ev.suc (.all fun k R p acc X hp ha => ?_)
    simp [f16_l9, framesB]
  · intro i hi hh
    refine Ev.suc (hh.imp2 hc fun k hk hc R p acc X hp ha => ?_)
    have h0 := hnn _ (List.getElem_mem hi)
    have hs := sumI_drop hi
    have hr := sumI_nn (l := l.drop (i + 1)) fun s hx => hnn s (List.mem_of_mem_drop hx)
    obtain ⟨n, hn⟩ : ∃ n : Nat, l[i] = n := ⟨l[i].toNat, by omega⟩
    have hnt : l[i].toNat = n := by omega
    have hpn : p + n ≤ b.length := by omega
    have t1 : decide ((0 : Int) ≤ (p : Int)) = true := by simp
    have t2 : decide ((p : Int) ≤ ((p + n : Nat) : Int)) = true := by simp; omega
    rw [f16_l9, lt_nat, inb_nat, wrapSuc (by omega)]
    simp only [hi, decide_true, cond_true, Int.toNat_natCast, getD_get hi, hn]
    rw [wrapAdd (by omega), upto_nat]
    simp only [hpn, decide_true, cond_true, t1, t2, Bool.and_self, Int.toNat_natCast]
    rw [cutE hpn, hc n (by omega) p (by omega), room_ok (by simp; omega), cond_true, hk R (p + n) _ X (by omega) (by simp [ha]), List.drop_eq_getElem_cons hi]
    simp [framesB, hnt]

theorem f20_loop (b : List Int) (hl : b.length ≤ 300000) (l : List Int) (hll : l.length ≤ 1000) (hnn : ∀ s ∈ l, 0 ≤ s) (c1 c2 : Int) (c3 : Bool) (c4 t tm : Int) (ky : Bool) (lc : Int) : ∀ i, i ≤ l.length → Ev fun k => ∀ (R : Type) (p : Nat) (acc : List (List Int)) (X : Int → Int → Bool → Int → Int → Int → Bool → Int → List (List Int) → Option R), (p : Int) + sumI (l.drop i) ≤ b.length → acc.length = i →
    f20_l5 f41 f42 k b (p : Int) (i : Int) c1 c2 c3 c4 t tm ky lc acc l X = X c1 c2 c3 c4 t tm ky lc (acc ++ framesB b (l.drop i) p) := by
  have hc : Ev fun k => ∀ n, n ≤ b.length → ∀ p, p ≤ b.length → ∀ (R : Type) (K : List Int → Option R), f42 k ((b.drop p).take n) K = K ((b.drop p).take n) :=
    Ev.forall_le fun n _ => Ev.forall_le fun p _ => f42_v _ (by rw [reachV]; simp; omega)
  refine Ev.down l.length ?_ ?_
  · refine Ev.suc (.all fun k R p acc X hp ha => ?_)
    simp [f20_l5, framesB]
  · intro i hi hh
    refine Ev.suc (hh.imp2 hc fun k hk hc R p acc X hp ha => ?_)
    have h0 := hnn _ (List.getElem_mem hi)
    have hs := sumI_drop hi
    have hr := sumI_nn (l := l.drop (i + 1)) fun s hx => hnn s (List.mem_of_mem_drop hx)
    obtain ⟨n, hn⟩ : ∃ n : Nat, l[i] = n := ⟨l[i].toNat, by omega⟩
    have hnt : l[i].toNat = n := by omega
    have hpn : p + n ≤ b.length := by omega
    have t1 : decide ((0 : Int) ≤ (p : Int)) = true := by simp
    have t2 : decide ((p : Int) ≤ ((p + n : Nat) : Int)) = true := by simp; omega
    rw [f20_l5, lt_nat, inb_nat, wrapSuc (by omega)]
    simp only [hi, decide_true, cond_true, Int.toNat_natCast, getD_get hi, hn]
    rw [wrapAdd (by omega), upto_nat]
    simp only [hpn, decide_true, cond_true, t1, t2, Bool.and_self, Int.toNat_natCast]
    rw [cutE hpn, hc n (by omega) p (by omega), room_ok (by simp; omega), cond_true, hk R (p + n) _ X (by omega) (by simp [ha]), List.drop_eq_getElem_cons hi]
    simp [framesB, hnt]

theorem headR_none {b : List Int} (h : (headR b).err = 0) (h0 : (headR b).lacing = 0) : (headR b).n = 1 := by
  unfold headR at *
  simp only at *
  split at h
  · rename_i he; simp at h; exact absurd h he
  rename_i he
  split at h
  · simp at h
  rename_i hu
  split at h
  · simp at h
  rename_i h1
  split at h
  · simp at h
  rename_i h2
  split at h
  · simp at h
  rename_i h3
  split at h
  · simp at h
  rename_i h4
  rw [if_neg he, if_neg hu, if_neg h1, if_neg h2, if_neg h3, if_neg h4] at h0 ⊢
  by_cases h5 : lacC (b.getD ((readV b 0).2.1.toNat + 2) 0) = 0
  · rw [if_pos h5]
  · rw [if_neg h5] at h h0 ⊢
    by_cases h6 : b.length = (readV b 0).2.1.toNat + 3
    · rw [if_pos h6] at h; simp at h
    · rw [if_neg h6] at h h0 ⊢
      by_cases h7 : 31 < b.getD ((readV b 0).2.1.toNat + 3) 0
      · rw [if_pos h7] at h; simp at h
      · rw [if_neg h7] at h0
        exact absurd h0 h5

/-- What is known of sizes without an error. -/
theorem allR_ok {b : List Int} (hb : okBy b) (_hl : b.length ≤ 300000) (h : (allR b).1 = 0) : placeR b ≤ b.length ∧ FillS (allR b).2 ((b.length - placeR b : Nat) : Int) ∧ (allR b).2.length = (headR b).n ∧ (headR b).err = 0 := by
  unfold allR at h ⊢
  by_cases he : (headR b).err = 0
  · have ok := headR_ok hb he
    rw [if_neg (fun hq => hq he)] at h ⊢
    by_cases h1 : (headR b).lacing = 1
    · rw [if_pos h1] at h ⊢
      have ep : placeR b = (match runsR b ((headR b).n - 1) (headR b).at_ with
        | none => 0
        | some (_, q) => q) := by unfold placeR; exact if_pos h1
      cases hr : runsR b ((headR b).n - 1) (headR b).at_ with
      | none => rw [hr] at h; simp at h
      | some lq =>
        obtain ⟨l, q⟩ := lq
        rw [hr] at h ep
        have bd := runsR_bound hb hr ok.2.2.1
        have fs := fillS_of (left := ((b.length - q : Nat) : Int)) (by omega) h
        simp only at ep
        rw [ep]
        have := ok.1
        exact ⟨bd.2.2.1, fs.1, by rw [fs.2, bd.1]; omega, he⟩
    · rw [if_neg h1] at h ⊢
      by_cases h3 : (headR b).lacing = 3
      · rw [if_pos h3] at h ⊢
        have bd := diffR_bound (cl := id) hb ((headR b).n - 1) true 0 (headR b).at_ ok.2.2.1
        have ep : placeR b = (diffR id b ((headR b).n - 1) true 0 (headR b).at_).2.2 := by unfold placeR; rw [if_neg h1, if_pos h3]
        by_cases hz : (diffR id b ((headR b).n - 1) true 0 (headR b).at_).1 = 0
        · rw [if_neg (fun hq => hq hz)] at h ⊢
          have fs := fillS_of (left := ((b.length - (diffR id b ((headR b).n - 1) true 0 (headR b).at_).2.2 : Nat) : Int)) (by omega) h
          rw [ep]
          have := ok.1
          exact ⟨bd.1, fs.1, by rw [fs.2, bd.2.1 hz]; omega, he⟩
        · rw [if_pos hz] at h; exact absurd h hz
      · rw [if_neg h3] at h ⊢
        have ep : placeR b = (headR b).at_ := by unfold placeR; rw [if_neg h1, if_neg h3]
        rw [ep]
        by_cases h2 : (headR b).lacing = 2
        · rw [if_pos h2] at h ⊢
          unfold equalS at h ⊢
          by_cases h0 : (b.length - (headR b).at_) % (headR b).n = 0
          · rw [if_neg (fun hq => hq h0)] at h ⊢
            have fs := fillS_of (left := ((b.length - (headR b).at_ : Nat) : Int)) (by omega) h
            have := ok.1
            exact ⟨ok.2.2.1, fs.1, by rw [fs.2]; simp; omega, he⟩
          · rw [if_pos h0] at h; simp at h
        · rw [if_neg h2] at h ⊢
          have fs := fillS_of (left := ((b.length - (headR b).at_ : Nat) : Int)) (by omega) h
          have hn1 : (headR b).n = 1 := by
            have l0 : (headR b).lacing = 0 := by have := ok.2.2.2.1; have := ok.2.2.2.2.1; omega
            exact headR_none he l0
          exact ⟨ok.2.2.1, fs.1, by rw [fs.2, hn1]; rfl, he⟩
  · rw [if_pos he] at h; exact absurd h he

/-- Where the frames begin, as the program has it. -/
theorem place_P {b : List Int} (h : (allR b).1 = 0) (he : (headR b).err = 0) : (sizesP b (headZ b)).2.2 = placeR b := by
  unfold placeR
  by_cases h1 : (headR b).lacing = 1
  · rw [if_pos h1]
    have hs : sizesP b (headZ b) = (match runsR b ((headR b).n - 1) (headR b).at_ with
      | none => (3, [], b.length)
      | some (l, q) => (0, l, q)) := by
      unfold sizesP; rw [if_pos (show (headZ b).lacing = 1 from h1)]; rfl
    rw [hs]
    unfold allR at h
    rw [if_neg (fun hq => hq he), if_pos h1] at h
    cases hr : runsR b ((headR b).n - 1) (headR b).at_ with
    | none => rw [hr] at h; simp at h
    | some lq => rfl
  · rw [if_neg h1]
    by_cases h3 : (headR b).lacing = 3
    · rw [if_pos h3]
      have hs : sizesP b (headZ b) = diffR clampZ b ((headR b).n - 1) true 0 (headR b).at_ := by
        unfold sizesP; rw [if_neg (show ¬ (headZ b).lacing = 1 from h1), if_pos (show (headZ b).lacing = 3 from h3)]; rfl
      rw [hs]; exact (diffR_err clampZ id b ((headR b).n - 1) true 0 0 (headR b).at_).2
    · rw [if_neg h3]
      have hs : sizesP b (headZ b) = (0, [], (headR b).at_) := by
        unfold sizesP; rw [if_neg (show ¬ (headZ b).lacing = 1 from h1), if_neg (show ¬ (headZ b).lacing = 3 from h3)]; rfl
      rw [hs]

/-- The block of bytes, and its error. -/
def readB (b : List Int) : Int × D0 := if (allR b).1 ≠ 0 then ((allR b).1, (0, 0, false, 0, [])) else (0, ((headR b).track, (headR b).time, (headR b).key, (headR b).lacing, framesB b (allR b).2 (placeR b)))

theorem f16_v (b : List Int) (hb : okBy b) (hl : b.length ≤ 300000) : Ev fun k => ∀ (R : Type) (K : Int → Int → Bool → Int → Int → List (List Int) → Option R), f16 k b K = K (readB b).2.1 (readB b).2.2.1 (readB b).2.2.2.1 (readB b).2.2.2.2.1 (readB b).1 (readB b).2.2.2.2.2 := by
  obtain ⟨t, tm, ky, lc, n, at_, l, h38, hv⟩ := f38_v b hb hl
  have hRP := allR_P (b := b) hl
  by_cases he : headE b = 0
  · obtain ⟨rfl, rfl, rfl, rfl, rfl, rfl, rfl⟩ := hv he
    obtain ⟨hr, hz⟩ := headE_zero he
    have ok := headR_ok hb hr
    have bd := sizesP_bound hb (h := headZ b) ok.2.2.1
    have hlen : (sizesP b (headZ b)).2.1.length ≤ 1000 := by
      by_cases hc : (headZ b).lacing = 1 ∨ (headZ b).lacing = 3
      · have : (sizesP b (headZ b)).1 = 0 := by
          rcases hz with hz | hz
          · have : (headZ b).lacing = 0 := hz
            omega
          · exact hz
        have := bd.2.1 this hc
        have : (headZ b).n = (headR b).n := rfl
        omega
      · rw [bd.2.2 hc]; simp
    have h39 := f39_v b hl (headR b).track (headR b).time (headR b).key (headR b).lacing (headR b).n ok.1 ok.2.1 (sizesP b (headZ b)).2.2 bd.1 (sizesP b (headZ b)).2.1 hlen
    have ea : allP b = if (headR b).lacing = 2 then equalS (headR b).n (b.length - (sizesP b (headZ b)).2.2) else fitS (sizesP b (headZ b)).2.1 ((b.length - (sizesP b (headZ b)).2.2 : Nat) : Int) := by
      unfold allP; rw [if_neg (fun hq => hq he)]
    have h39 : Ev fun k => ∀ (R : Type) (K : Int → List Int → Option R), f39 k (headR b).track (headR b).time (headR b).key (headR b).lacing ((headR b).n : Int) ((sizesP b (headZ b)).2.2 : Int) b (sizesP b (headZ b)).2.1 K = K (allR b).1 (allR b).2 := by
      refine h39.imp fun k h R K => ?_
      rw [h, hRP, ea]
      by_cases h2 : (headR b).lacing = 2
      · rw [if_pos h2, if_pos h2]
      · rw [if_neg h2, if_neg h2]
    by_cases hA : (allR b).1 = 0
    · obtain ⟨a1, a2, a3, _⟩ := allR_ok hb hl hA
      have hpl := place_P hA hr
      have hlp := f16_loop b hl (allR b).2 (by have := ok.2.1; omega) a2.1 0 0 false 0 (headR b).track (headR b).time (headR b).key (headR b).lacing 0 (by omega)
      refine h38.imp3 h39 hlp fun k h h39 hlp R K => ?_
      simp only [Int.natCast_zero, List.drop_zero] at hlp
      have hlp := hlp R (placeR b) [] (fun v26 v27 v28 v29 v30 v31 v32 v33 v34 => K v30 v31 v32 v33 0 v34) (by rw [a2.2]; omega) rfl
      rw [hpl] at h39 h
      simp only [f16, f16_s, h, he, bne_dec, decide_true, Bool.not_true, cond_false, h39, hA]
      rw [hlp]
      unfold readB
      rw [if_neg (fun hq => hq hA)]
      rfl
    · refine h38.imp2 h39 fun k h h39 R K => ?_
      unfold readB
      rw [if_pos hA]
      simp only [f16, f16_s, h, he, bne_dec, decide_true, Bool.not_true, cond_false, h39, decide_eq_false hA, Bool.not_false, cond_true]
  · have e : (allR b).1 = headE b := by rw [hRP]; unfold allP; rw [if_pos he]
    refine h38.imp fun k h R K => ?_
    unfold readB
    rw [e, if_pos he]
    simp only [f16, f16_s, h, bne_dec, decide_eq_false he, Bool.not_false, cond_true]

theorem f20_v (b : List Int) (hb : okBy b) (hl : b.length ≤ 300000) : Ev fun k => ∀ (R : Type) (K : Int → Int → Bool → Int → Int → List (List Int) → Option R), f20 k b K = K (readB b).2.1 (readB b).2.2.1 (readB b).2.2.2.1 (readB b).2.2.2.2.1 (readB b).1 (readB b).2.2.2.2.2 := by
  obtain ⟨t, tm, ky, lc, at_, l, h41, hv⟩ := f41_v b hb hl
  by_cases hA : (allR b).1 = 0
  · obtain ⟨rfl, rfl, rfl, rfl, rfl, rfl⟩ := hv hA
    obtain ⟨a1, a2, a3, he⟩ := allR_ok hb hl hA
    have ok := headR_ok hb he
    have hlp := f20_loop b hl (allR b).2 (by have := ok.2.1; omega) a2.1 0 0 false 0 (headR b).track (headR b).time (headR b).key (headR b).lacing 0 (by omega)
    refine h41.imp2 hlp fun k h hlp R K => ?_
    simp only [Int.natCast_zero, List.drop_zero] at hlp
    have hlp := hlp R (placeR b) [] (fun v26 v27 v28 v29 v30 v31 v32 v33 v34 => K v30 v31 v32 v33 0 v34) (by rw [a2.2]; omega) rfl
    simp only [f20, f20_s, h, hA, bne_dec, decide_true, Bool.not_true, cond_false]
    rw [hlp]
    unfold readB
    rw [if_neg (fun hq => hq hA)]
    rfl
  · refine h41.imp fun k h R K => ?_
    unfold readB
    rw [if_pos hA]
    simp only [f20, f20_s, h, bne_dec, decide_eq_false hA, Bool.not_false, cond_true]
end Go.Proofs.Ytnmoccdnkpkhhaa

/-! The law LaceReads. -/
namespace Go.Proofs.Ytnmoccdnkpkhhaa
open Go Go.Am

theorem f23_loop (a b : List Int) (hl : a.length ≤ reachBytes) (hab : a.length = b.length) : ∀ i, i ≤ a.length → Ev fun k => ∀ (R : Type) (X0 : Option R) (X1 : Bool → Option R), f23_l4 k a b (i : Int) X0 X1 = if a.drop i = b.drop i then X0 else X1 false := by
  rw [reachV] at hl
  refine Ev.down a.length ?_ ?_
  · exact Ev.suc (.all fun k R X0 X1 => by simp [f23_l4, hab])
  · intro i hi h
    refine Ev.suc (h.imp fun k h R X0 X1 => ?_)
    have hi' : i < b.length := by omega
    rw [f23_l4, lt_nat, inb_nat, inb_nat, wrapSuc (by omega)]
    simp only [hi, hi', decide_true, cond_true, Int.toNat_natCast, getD_get hi, getD_get hi', h]
    simp only [drop_eq_iff hi hi', bne_dec]
    by_cases he : a[i] = b[i]
    · simp [he]
    · simp [he]

theorem f23_v (a b : List Int) (hl : a.length ≤ reachBytes) : Ev fun k => ∀ (R : Type) (K : Bool → Option R), f23 k a b K = K (decide (a = b)) := by
  by_cases hab : a.length = b.length
  · refine (f23_loop a b hl hab 0 (by omega)).imp fun k h R K => ?_
    simp only [Int.natCast_zero] at h
    simp only [f23, f23_s]
    rw [bne_len, h]
    by_cases he : a = b
    · simp [he]
    · simp [hab, he]
  · refine .all fun k R K => ?_
    simp only [f23, f23_s]
    rw [bne_len]
    have : a ≠ b := by rintro rfl; simp at hab
    simp [hab, this]

theorem framesB_len (b : List Int) : ∀ (l : List Int) (p : Nat), (framesB b l p).length = l.length ∧ ∀ f ∈ framesB b l p, f.length ≤ b.length
  | [], p => by simp [framesB]
  | s :: l, p => by
    obtain ⟨h1, h2⟩ := framesB_len b l (p + s.toNat)
    refine ⟨by simp [framesB, h1], fun f hf => ?_⟩
    simp only [framesB, List.mem_cons] at hf
    rcases hf with rfl | hf
    · simp; omega
    · exact h2 f hf

theorem allR_len {b : List Int} (hb : okBy b) (hl : b.length ≤ 300000) : (allR b).2.length ≤ 32 := by
  by_cases h : (allR b).1 = 0
  · obtain ⟨_, _, h3, he⟩ := allR_ok hb hl h
    have := (headR_ok hb he).2.1
    omega
  · have e : (allR b).2 = [] := by
      unfold allR at h ⊢
      split at h
      · rename_i hq; rw [if_pos hq]
      · rename_i hq
        rw [if_neg hq]
        split at h
        · rename_i h1
          rw [if_pos h1]
          cases hr : runsR b ((headR b).n - 1) (headR b).at_ with
          | none => rfl
          | some lq => rw [hr] at h; exact fitS_err h
        · rename_i h1
          rw [if_neg h1]
          split at h
          · rename_i h3
            rw [if_pos h3]
            split at h
            · rename_i hz; rw [if_pos hz]
            · rename_i hz; rw [if_neg hz]; exact fitS_err h
          · rename_i h3
            rw [if_neg h3]
            split at h
            · rename_i h2
              rw [if_pos h2]
              unfold equalS at h ⊢
              split at h
              · rename_i h0; rw [if_pos h0]
              · rename_i h0; rw [if_neg h0]; exact fitS_err h
            · rename_i h2; rw [if_neg h2]; exact fitS_err h
    rw [e]; simp

theorem readB_ok {b : List Int} (hb : okBy b) (hl : b.length ≤ 300000) : okL (readB b).2.2.2.2.2 := by
  unfold readB
  split
  · exact ⟨by simp, by simp⟩
  · obtain ⟨h1, h2⟩ := framesB_len b (allR b).2 (placeR b)
    have := allR_len hb hl
    rw [okL, reachV]
    exact ⟨by simp only; omega, fun f hf => by have := h2 f hf; omega⟩

theorem laceReads_plain (b : List Int) (hb : okBy b) (_hlen : b.length ≤ reachBytes) : ∃ k, f6 (R := Bool) k b some = some true := by
  refine Ev.some ?_
  by_cases hl : b.length ≤ 200000
  · have t : decide ((b.length : Int) > 200000) = false := by simp; omega
    have hl : b.length ≤ 300000 := by omega
    have hR := allR_P (b := b) hl
    have hlen := allR_len hb hl
    refine ((f16_v b hb hl).and (f20_v b hb hl)).imp4 ((f21_v b hb hl).and (f22_v b hb hl)) ((f17_v (readB b).2 (readB b).2 (readB_ok hb hl)).and (f23_v (allR b).2 (allR b).2 (by rw [reachV]; omega))) awake_v ?_
    rintro k ⟨h16, h20⟩ ⟨h21, h22⟩ ⟨h17, h23⟩ h15
    rw [← hR] at h21
    simp only [f6, f6_s, t, cond_false, h16, h20, h21, h22, h17, eqB_self, cond_true, beq_dec, decide_true, h23, h15]
  · refine .all fun k => ?_
    have t : decide ((b.length : Int) > 200000) = true := by simp; omega
    simp [f6, f6_s, t]
end Go.Proofs.Ytnmoccdnkpkhhaa
