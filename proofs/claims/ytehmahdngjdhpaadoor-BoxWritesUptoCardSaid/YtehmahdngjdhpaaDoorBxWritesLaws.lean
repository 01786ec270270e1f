/- Proved: the plain laws of BoxWrites. Conditions: none. -/
import Derived.Test.YtehmahdngjdhpaaDoorBxWalk2
import Derived.Test.YtehmahdngjdhpaaDoorRows
import Derived.Test.YtehmahdngjdhpaaDoorCards
import Derived.Test.YtehmahdngjdhpaaDoorTie
import Derived.JoinedOf
import Derived.Lib.LaidTab
import Derived.LaidLaws
import Derived.LaidHandle
import Derived.Stop.Joined

set_option maxRecDepth 100000
namespace Go.Proofs.YtehmahdngjdhpaaDoor
open Go Go.Am
theorem awake_v (R : Type) : Ev fun k => ∀ (K : Bool → Option R), f20 k K = K true := by
  refine .plus 40 (.all fun k K => ?_)
  kernel_rfl
theorem D1.ind {P : D1 → Prop} (h : ∀ i d ks g, (∀ x ∈ ks, P x) → P (.mk i d ks g)) : ∀ n, P n := by
  intro n
  refine D1.rec (motive_1 := P) (motive_2 := fun l => ∀ x ∈ l, P x) (fun i d ks g ih => h i d ks g ih) (by simp) (fun a l ha hl => ?_) n
  intro x hx
  rcases List.mem_cons.1 hx with rfl | hx
  · exact ha
  · exact hl x hx
/-- A tree as it lies in memory. -/
inductive OkN : D1 → Prop
  | mk {i : Int} {d : List Int} {ks : List D1} {g : Bool} : -9223372036854775808 ≤ i ∧ i < 9223372036854775808 → okBy d → d.length ≤ reachBytes → ks.length * 64 ≤ reachBytes → (∀ x ∈ ks, OkN x) → OkN (.mk i d ks g)
def OkL (l : List D1) : Prop := l.length * 64 ≤ reachBytes ∧ ∀ x ∈ l, OkN x
theorem OkN.id {n : D1} (h : OkN n) : -9223372036854775808 ≤ n.c0 ∧ n.c0 < 9223372036854775808 := by cases h; assumption
theorem OkN.by {n : D1} (h : OkN n) : okBy n.c1 := by cases h; assumption
theorem OkN.len {n : D1} (h : OkN n) : n.c1.length ≤ reachBytes := by cases h; assumption
theorem OkN.kids {n : D1} (h : OkN n) : OkL n.c2 := by cases h; exact ⟨by assumption, by assumption⟩
mutual
def sizeN : D1 → Int
  | .mk _ d ks g => if g = true then sizeK ks 8 else IntKind.i64.wrap (8 + (d.length : Int))
def sizeK : List D1 → Int → Int
  | [], c => c
  | x :: l, c => sizeK l (IntKind.i64.wrap (c + sizeN x))
end
theorem f21_loop (R : Type) (l : List D1) (hb : l.length * 64 ≤ reachBytes) (h : ∀ i (h : i < l.length), Ev fun k => ∀ (K : Int → Option R), f21 k l[i].c0 l[i].c1 l[i].c2 l[i].c3 K = K (sizeN l[i])) :
    ∀ i, i ≤ l.length → EvB fun q j => ∀ (c : Int) (X0 : Int → Option R), f21_l5 (fun _ => f21 q) j c l (l.length : Int) (i : Int) X0 = X0 (sizeK (l.drop i) c) := by
  rw [reachV] at hb
  refine EvB.down l.length ?_ ?_
  · refine EvB.suc (.all fun q j c X0 => ?_)
    rw [List.drop_length, sizeK, f21_l5, ifF (by omega)]
  · intro i hi ih
    refine EvB.suc ((ih.and (.left (h i hi))).imp fun q j hk c X0 => ?_)
    obtain ⟨hk, h21⟩ := hk
    rw [List.drop_eq_getElem_cons hi, sizeK, f21_l5, lt_nat, inb_nat, wrapSuc (by omega)]
    simp only [hi, decide_true, cond_true, Int.toNat_natCast, getD_get hi, h21, hk]
theorem f21_v (R : Type) : ∀ n : D1, OkN n → Ev fun k => ∀ (K : Int → Option R), f21 k n.c0 n.c1 n.c2 n.c3 K = K (sizeN n) := by
  intro n
  refine D1.ind (P := fun n => OkN n → Ev fun k => ∀ (K : Int → Option R), f21 k n.c0 n.c1 n.c2 n.c3 K = K (sizeN n)) (fun i d ks g ih ho => ?_) n
  refine .suc ?_
  have hk := ho.kids
  refine (f21_loop R ks hk.1 (fun i hi => ih _ (List.getElem_mem hi) (hk.2 _ (List.getElem_mem hi))) 0 (Nat.zero_le _)).diag.imp fun k h K => ?_
  have h := h 8 K
  show f21 (k + 1) i d ks g K = _
  rw [f21_step, f21_s, sizeN]
  cases g with
  | false => rfl
  | true =>
    rw [if_pos rfl]
    exact h
theorem f79_loop (R : Type) (l : List Int) (hl : okBy l) (h8 : l.length ≤ 8) : ∀ i, i ≤ l.length → Ev fun k => ∀ (v : Int) (X : Int → Option R), 0 ≤ v → v < 256 ^ i → f79_l7 k v l (l.length : Int) (i : Int) X = X (valF (l.drop i) v) := by
  refine Ev.down l.length ?_ ?_
  · exact Ev.suc (.all fun k v X _ _ => by simp [f79_l7, valF])
  · intro i hi h
    refine Ev.suc (h.imp fun k hk v X h0 h1 => ?_)
    have hc := hl.get hi
    have hp : (256 : Int) ^ i ≤ 72057594037927936 := by
      have h2 : (256 : Nat) ^ i ≤ 72057594037927936 := Nat.le_trans (Nat.pow_le_pow_right (by decide) (show i ≤ 7 by omega)) (by decide)
      have e : ((256 ^ i : Nat) : Int) = (256 : Int) ^ i := Int.natCast_pow 256 i
      omega
    have ho := or_byteU h0 (by omega) hc.1 hc.2
    rw [f79_l7, lt_nat, inb_nat, wrapSuc (by omega)]
    simp only [hi, decide_true, cond_true, Int.toNat_natCast, getD_get hi, ho]
    have hv : v * 256 + l[i] < 256 ^ (i + 1) := by
      rw [Int.pow_succ]; omega
    rw [hk _ X (by omega) hv, List.drop_eq_getElem_cons hi, valF_cons]
/-- The number of the first bytes; one too great counts as the greatest. -/
def num (b : List Int) (n : Nat) : Int := if 9223372036854775807 < valF (b.take n) 0 then 9223372036854775807 else valF (b.take n) 0
theorem val_bound {b : List Int} (hb : okBy b) {n : Nat} (h : n ≤ b.length) : 0 ≤ valF (b.take n) 0 ∧ valF (b.take n) 0 < 256 ^ n := by
  have := valF_bound (hb.take n) 0
  have e : (b.take n).length = n := by simp; omega
  rw [e] at this
  omega
theorem num_small {b : List Int} (hb : okBy b) {n : Nat} (h : n ≤ b.length) (h7 : n ≤ 7) : num b n = valF (b.take n) 0 := by
  have := (val_bound hb h).2
  have h2 : (256 : Nat) ^ n ≤ 72057594037927936 := Nat.le_trans (Nat.pow_le_pow_right (by decide) h7) (by decide)
  have e : ((256 ^ n : Nat) : Int) = (256 : Int) ^ n := Int.natCast_pow 256 n
  unfold num
  rw [if_neg (by omega)]
theorem f54_v (R : Type) (b : List Int) (hb : okBy b) (hl : b.length ≤ 140737488355328) {n : Nat} (h1 : 1 ≤ n) (h8 : n ≤ 8) (h : n ≤ b.length) : Ev fun k => ∀ (K : Int → Option R), f54 k b (n : Int) K = K (num b n) := by
  have el : (b.take n).length = n := by simp; omega
  refine (f79_loop R (b.take n) (hb.take n) (by omega) 0 (by omega)).imp fun k hk K => ?_
  have t1 : decide ((n : Int) < 1) = false := decide_eq_false (by omega)
  have t2 : decide ((n : Int) > 8) = false := decide_eq_false (by omega)
  have t4 : decide ((0 : Int) > (b.length : Int)) = false := decide_eq_false (by omega)
  have w1 : IntKind.i64.wrap ((b.length : Int) - 0) = (b.length : Int) := by rw [wrap64 (by omega) (by omega)]; omega
  have w2 : IntKind.i64.wrap ((0 : Int) + (n : Int)) = (n : Int) := by rw [wrap64 (by omega) (by omega)]; omega
  have t5 : decide ((b.length : Int) < (n : Int)) = false := decide_eq_false (by omega)
  have t7 : decide ((0 : Int) ≤ (n : Int)) = true := decide_eq_true (by omega)
  simp only [Int.natCast_zero, List.drop_zero] at hk
  simp only [f54, f79, t1, t2, t4, w1, w2, t5, t7, cond_false, upto_nat, h, decide_true, Bool.and_self, cond_true, Int.toNat_natCast, Int.toNat_zero, List.drop_zero, Int.lt_irrefl, decide_false]
  rw [hk 0 _ (by omega) (by decide)]
  have hbd := val_bound hb h
  unfold num
  by_cases hx : 9223372036854775807 < valF (b.take n) 0
  · rw [if_pos hx, decide_eq_true (show valF (b.take n) 0 > 9223372036854775807 from hx)]; rfl
  · rw [if_neg hx, decide_eq_false (show ¬ valF (b.take n) 0 > 9223372036854775807 from hx), wrap64 (by omega) (by omega)]; rfl
theorem f96_loop (R : Type) : ∀ n, n ≤ 1000 → Ev fun k => ∀ (w : Int) (out : List Int) (X : List Int → Option R), n ≤ out.length → f96_l3 k w ((n : Int) - 1) out X = X (beB n w ++ out.drop n)
  | 0, _ => .suc (.all fun k w out X _ => by
    rw [f96_l3, deF (by omega)]; simp [beB])
  | n + 1, hn => by
    refine .suc ((f96_loop R n (by omega)).imp fun k hk w out X ho => ?_)
    have e : ((n + 1 : Nat) : Int) - 1 = (n : Int) := by omega
    rw [e, f96_l3, inb_nat, wr (by omega), wrapU8, shr8]
    simp only [deT (show (n : Int) ≥ 0 by omega), show n < out.length by omega, decide_true, cond_true, Int.toNat_natCast]
    rw [hk _ _ X (by simp; omega), set_drop (by omega), beB, List.append_assoc]; rfl
theorem f96_v (R : Type) {n : Nat} (hn : n ≤ 1000) : Ev fun k => ∀ (w : Int) (K : List Int → Option R), f96 k w (n : Int) K = K (beB n w) :=
  (f96_loop R n hn).imp fun k hk w K => by
    simp only [f96, mk_ok (show n ≤ 140737488355328 by omega), cond_true, Int.toNat_natCast]
    rw [wr (by omega), hk w _ K (by simp)]; simp
theorem f52_loop (R : Type) : ∀ n, n ≤ 1000 → Ev fun k => ∀ (w : Int) (out : List Int) (X : List Int → Option R), n ≤ out.length → f52_l3 k w ((n : Int) - 1) out X = X (beB n w ++ out.drop n)
  | 0, _ => .suc (.all fun k w out X _ => by
    rw [f52_l3, deF (by omega)]; simp [beB])
  | n + 1, hn => by
    refine .suc ((f52_loop R n (by omega)).imp fun k hk w out X ho => ?_)
    have e : ((n + 1 : Nat) : Int) - 1 = (n : Int) := by omega
    rw [e, f52_l3, inb_nat, wr (by omega), wrapU8, shr8i]
    simp only [deT (show (n : Int) ≥ 0 by omega), show n < out.length by omega, decide_true, cond_true, Int.toNat_natCast]
    rw [hk _ _ X (by simp; omega), set_drop (by omega), beB, List.append_assoc]; rfl
theorem f52_v (R : Type) {n : Nat} (hn : n ≤ 1000) : Ev fun k => ∀ (w : Int) (K : List Int → Option R), f52 k w (n : Int) K = K (beB n w) :=
  (f52_loop R n hn).imp fun k hk w K => by
    simp only [f52, mk_ok (show n ≤ 140737488355328 by omega), cond_true, Int.toNat_natCast]
    rw [wr (by omega), hk w _ K (by simp)]; simp
theorem shr_pos (v : Int) (h : 0 ≤ v) (n : Nat) (h1 : 1 ≤ n) (h7 : n ≤ 7) (hv : v < 256 ^ n) : decide (IntKind.i64.wrap (8 * (n : Int)) < 0) = false ∧ decide (shrI .i64 v (IntKind.i64.wrap (8 * (n : Int))) > 0) = false := by
  rw [wr (by omega)]
  refine ⟨decide_eq_false (by omega), decide_eq_false ?_⟩
  unfold shrI
  have e1 : min (8 * (n : Int)).toNat IntKind.i64.bits = 8 * n := by
    have : IntKind.i64.bits = 64 := rfl
    omega
  rw [e1, Int.fdiv_eq_ediv_of_nonneg _ (by exact Int.le_of_lt (Int.pow_pos (by decide)))]
  have e2 : (2 : Int) ^ (8 * n) = 256 ^ n := by rw [Int.pow_mul]; rfl
  rw [e2, Int.ediv_eq_zero_of_lt h hv]
  decide
theorem f80_v (R : Type) {n : Nat} (h1 : 1 ≤ n) (h8 : n ≤ 8) : Ev fun k => ∀ (v : Int) (K : Int → List Int → Option R), 0 ≤ v → v < 9223372036854775808 → v < 256 ^ n → f80 k v (n : Int) K = K 0 (beB n v) := by
  refine (f96_v R (show n ≤ 1000 by omega)).imp fun k hk v K h0 hv hn => ?_
  have t1 : decide ((n : Int) < 1) = false := decide_eq_false (by omega)
  have t2 : decide ((n : Int) > 8) = false := decide_eq_false (by omega)
  have t3 : decide (v < 0) = false := decide_eq_false (by omega)
  simp only [f80, t1, t2, t3, cond_false]
  by_cases h7 : n < 8
  · obtain ⟨s1, s2⟩ := shr_pos v h0 n h1 (by omega) hn
    rw [deT (show (n : Int) < 8 by omega)]
    simp only [cond_true, s1, s2, cond_false, wrapU64 h0 (show v < 18446744073709551616 by omega), hk]
  · rw [deF (show ¬ (n : Int) < 8 by omega)]
    simp only [cond_false, wrapU64 h0 (show v < 18446744073709551616 by omega), hk]
theorem f57_v (R : Type) {n : Nat} (h1 : 1 ≤ n) (h8 : n ≤ 8) : Ev fun k => ∀ (v : Int) (K : List Int → Option R), 0 ≤ v → v < 9223372036854775808 → v < 256 ^ n → f57 k v (n : Int) K = K (beB n v) :=
  (f80_v R h1 h8).imp fun k hk v K h0 hv hn => by
    rw [f57, hk v _ h0 hv hn, roT (by rw [beB_len]; omega)]; rfl
theorem f57_2_v (R : Type) {n : Nat} (h1 : 1 ≤ n) (h8 : n ≤ 8) : Ev fun k => ∀ (v : Int) (b : List Int) (K : List Int → Option R), 0 ≤ v → v < 9223372036854775808 → v < 256 ^ n → b.length ≤ 1000 → f57_2 k v (n : Int) b K = K (b ++ beB n v) :=
  (f80_v R h1 h8).imp fun k hk v b K h0 hv hn hb => by
    rw [f57_2, hk v _ h0 hv hn, roT (by rw [beB_len]; omega)]; rfl
/-- A box: its head and its content. -/
def boxB (id : Int) (d : List Int) (long : Bool) : List Int :=
  if long = true then beB 4 1 ++ beB 4 id ++ beB 8 (16 + (d.length : Int)) ++ d else beB 4 (8 + (d.length : Int)) ++ beB 4 id ++ d
theorem boxB_len (id : Int) (d : List Int) (long : Bool) : (boxB id d long).length = (if long = true then 16 else 8) + d.length := by
  unfold boxB
  split <;> simp [beB_len] <;> omega
theorem f51_v (R : Type) : Ev fun k => ∀ (id : Int) (d : List Int) (long : Bool) (K : List Int → Option R), 0 ≤ id → id < 4294967296 → d.length ≤ 4294967000 → f51 k id d long K = K (boxB id d long) := by
  refine (f57_v R (n := 4) (by decide) (by decide)).imp3 (f57_2_v R (n := 4) (by decide) (by decide)) (f57_2_v R (n := 8) (by decide) (by decide)) fun k h57 h4 h8 id d long K h0 hi hd => ?_
  have e4 : ((4 : Nat) : Int) = 4 := rfl
  have e8 : ((8 : Nat) : Int) = 8 := rfl
  rw [e4] at h57 h4
  rw [e8] at h8
  have p4 : (256 : Int) ^ 4 = 4294967296 := by decide
  have p8 : (256 : Int) ^ 8 = 18446744073709551616 := by decide
  rw [p4] at h57 h4
  rw [p8] at h8
  rw [f51]
  cases long with
  | true =>
    rw [cond_true, h57 1 _ (by decide) (by decide) (by decide), h4 id _ _ h0 (by omega) hi (by rw [beB_len]; omega), wr (by omega), h8 _ _ _ (by omega) (by omega) (by omega) (by simp [beB_len]), roT (by simp [beB_len]; omega)]
    rfl
  | false =>
    rw [cond_false, wr (by omega), h57 _ _ (by omega) (by omega) (by omega), h4 id _ _ h0 (by omega) hi (by rw [beB_len]; omega), roT (by simp [beB_len]; omega)]
    rfl
/-- Bytes compared. -/
theorem f25_loop (R : Type) (a b : List Int) (hl : a.length = b.length) (hb : a.length ≤ 140737488355328) : ∀ i, i ≤ a.length → Ev fun k => ∀ (X0 : Option R) (X1 : Bool → Option R), f25_l4 k a b (i : Int) X0 X1 = if a.drop i = b.drop i then X0 else X1 false := by
  refine Ev.down a.length ?_ ?_
  · refine Ev.suc (.all fun k X0 X1 => ?_)
    rw [f25_l4, lt_nat, List.drop_length, hl, List.drop_length, if_pos rfl]; simp
  · intro i hi h
    refine Ev.suc (h.imp fun k hk X0 X1 => ?_)
    have hi' : i < b.length := by omega
    rw [f25_l4, lt_nat, inb_nat, inb_nat, wrapSuc (by omega)]
    simp only [hi, hi', decide_true, cond_true, Int.toNat_natCast, getD_get hi, getD_get hi', bne_dec, drop_eq_iff hi hi', hk]
    by_cases e : a[i] = b[i]
    · simp [e]
    · simp [e]
theorem f25_v (R : Type) (a b : List Int) (hb : a.length ≤ 140737488355328) : Ev fun k => ∀ (K : Bool → Option R), f25 k a b K = K (decide (a = b)) := by
  by_cases hl : a.length = b.length
  · refine (f25_loop R a b hl hb 0 (Nat.zero_le _)).imp fun k hk K => ?_
    have hk := hk (K true) K
    simp only [Int.natCast_zero, List.drop_zero] at hk
    rw [f25, bne_len, hk]
    simp only [hl, decide_true, Bool.not_true, cond_false]
    by_cases e : a = b
    · rw [if_pos e, deT e]
    · rw [if_neg e, deF e]
  · refine .all fun k K => ?_
    rw [f25, bne_len, deF hl, deF (by rintro rfl; exact hl rfl)]; rfl
abbrev n_movi : List Int := [109, 111, 118, 105]
abbrev n_frag : List Int := [102, 114, 97, 103]
abbrev n_trak : List Int := [116, 114, 97, 107]
abbrev n_mdia : List Int := [109, 100, 105, 97]
abbrev n_edts : List Int := [101, 100, 116, 115]
abbrev n_stbl : List Int := [115, 116, 98, 108]
abbrev n_prot : List Int := [112, 114, 111, 116]
abbrev n_udat : List Int := [117, 100, 97, 116]
abbrev n_tfrg : List Int := [116, 102, 114, 103]
abbrev n_meta : List Int := [109, 101, 116, 97]
abbrev n_item : List Int := [105, 116, 101, 109]
/-- The groups that a group may be in (empty: outermost); none: it is no group. -/
def par (nm : List Int) : Option (List (List Int)) :=
  if nm = n_movi then some [[]] else
  if nm = n_frag then some [[]] else
  if nm = n_trak then some [n_movi] else
  if nm = n_mdia then some [n_trak] else
  if nm = n_edts then some [n_trak] else
  if nm = n_stbl then some [n_mdia] else
  if nm = n_prot then some [n_mdia] else
  if nm = n_udat then some [n_movi, n_trak] else
  if nm = n_tfrg then some [n_frag] else
  if nm = n_meta then some [[], n_movi, n_trak] else
  if nm = n_item then some [n_meta] else
  none
def isG (nm : List Int) : Bool := (par nm).isSome
def may (nm p : List Int) : Bool := match par nm with
  | none => true
  | some l => l.any fun x => decide (x = p)
/-- The outermost level is called otherwise. -/
def outer (p : List Int) : List Int := if p = [] then [45] else p
theorem str_cases (a : ByteArray) : a = (⟨#[109, 111, 118, 105]⟩ : ByteArray) ∨ a = (⟨#[102, 114, 97, 103]⟩ : ByteArray) ∨ a = (⟨#[116, 114, 97, 107]⟩ : ByteArray) ∨ a = (⟨#[109, 100, 105, 97]⟩ : ByteArray) ∨ a = (⟨#[101, 100, 116, 115]⟩ : ByteArray) ∨ a = (⟨#[115, 116, 98, 108]⟩ : ByteArray) ∨ a = (⟨#[112, 114, 111, 116]⟩ : ByteArray) ∨ a = (⟨#[117, 100, 97, 116]⟩ : ByteArray) ∨ a = (⟨#[116, 102, 114, 103]⟩ : ByteArray) ∨ a = (⟨#[109, 101, 116, 97]⟩ : ByteArray) ∨ a = (⟨#[105, 116, 101, 109]⟩ : ByteArray) ∨ ((a.toList == (⟨#[109, 111, 118, 105]⟩ : ByteArray).toList) = false ∧ (a.toList == (⟨#[102, 114, 97, 103]⟩ : ByteArray).toList) = false ∧ (a.toList == (⟨#[116, 114, 97, 107]⟩ : ByteArray).toList) = false ∧ (a.toList == (⟨#[109, 100, 105, 97]⟩ : ByteArray).toList) = false ∧ (a.toList == (⟨#[101, 100, 116, 115]⟩ : ByteArray).toList) = false ∧ (a.toList == (⟨#[115, 116, 98, 108]⟩ : ByteArray).toList) = false ∧ (a.toList == (⟨#[112, 114, 111, 116]⟩ : ByteArray).toList) = false ∧ (a.toList == (⟨#[117, 100, 97, 116]⟩ : ByteArray).toList) = false ∧ (a.toList == (⟨#[116, 102, 114, 103]⟩ : ByteArray).toList) = false ∧ (a.toList == (⟨#[109, 101, 116, 97]⟩ : ByteArray).toList) = false ∧ (a.toList == (⟨#[105, 116, 101, 109]⟩ : ByteArray).toList) = false) := by
  by_cases h_movi : bytesOf a = n_movi
  · have := str_inj (a := a) (b := (⟨#[109, 111, 118, 105]⟩ : ByteArray)) h_movi; subst this; simp
  by_cases h_frag : bytesOf a = n_frag
  · have := str_inj (a := a) (b := (⟨#[102, 114, 97, 103]⟩ : ByteArray)) h_frag; subst this; simp
  by_cases h_trak : bytesOf a = n_trak
  · have := str_inj (a := a) (b := (⟨#[116, 114, 97, 107]⟩ : ByteArray)) h_trak; subst this; simp
  by_cases h_mdia : bytesOf a = n_mdia
  · have := str_inj (a := a) (b := (⟨#[109, 100, 105, 97]⟩ : ByteArray)) h_mdia; subst this; simp
  by_cases h_edts : bytesOf a = n_edts
  · have := str_inj (a := a) (b := (⟨#[101, 100, 116, 115]⟩ : ByteArray)) h_edts; subst this; simp
  by_cases h_stbl : bytesOf a = n_stbl
  · have := str_inj (a := a) (b := (⟨#[115, 116, 98, 108]⟩ : ByteArray)) h_stbl; subst this; simp
  by_cases h_prot : bytesOf a = n_prot
  · have := str_inj (a := a) (b := (⟨#[112, 114, 111, 116]⟩ : ByteArray)) h_prot; subst this; simp
  by_cases h_udat : bytesOf a = n_udat
  · have := str_inj (a := a) (b := (⟨#[117, 100, 97, 116]⟩ : ByteArray)) h_udat; subst this; simp
  by_cases h_tfrg : bytesOf a = n_tfrg
  · have := str_inj (a := a) (b := (⟨#[116, 102, 114, 103]⟩ : ByteArray)) h_tfrg; subst this; simp
  by_cases h_meta : bytesOf a = n_meta
  · have := str_inj (a := a) (b := (⟨#[109, 101, 116, 97]⟩ : ByteArray)) h_meta; subst this; simp
  by_cases h_item : bytesOf a = n_item
  · have := str_inj (a := a) (b := (⟨#[105, 116, 101, 109]⟩ : ByteArray)) h_item; subst this; simp
  iterate 11 right
  exact ⟨by rw [str_beq]; exact decide_eq_false h_movi, by rw [str_beq]; exact decide_eq_false h_frag, by rw [str_beq]; exact decide_eq_false h_trak, by rw [str_beq]; exact decide_eq_false h_mdia, by rw [str_beq]; exact decide_eq_false h_edts, by rw [str_beq]; exact decide_eq_false h_stbl, by rw [str_beq]; exact decide_eq_false h_prot, by rw [str_beq]; exact decide_eq_false h_udat, by rw [str_beq]; exact decide_eq_false h_tfrg, by rw [str_beq]; exact decide_eq_false h_meta, by rw [str_beq]; exact decide_eq_false h_item⟩
theorem par_none {a : ByteArray} (h : (a.toList == (⟨#[109, 111, 118, 105]⟩ : ByteArray).toList) = false ∧ (a.toList == (⟨#[102, 114, 97, 103]⟩ : ByteArray).toList) = false ∧ (a.toList == (⟨#[116, 114, 97, 107]⟩ : ByteArray).toList) = false ∧ (a.toList == (⟨#[109, 100, 105, 97]⟩ : ByteArray).toList) = false ∧ (a.toList == (⟨#[101, 100, 116, 115]⟩ : ByteArray).toList) = false ∧ (a.toList == (⟨#[115, 116, 98, 108]⟩ : ByteArray).toList) = false ∧ (a.toList == (⟨#[112, 114, 111, 116]⟩ : ByteArray).toList) = false ∧ (a.toList == (⟨#[117, 100, 97, 116]⟩ : ByteArray).toList) = false ∧ (a.toList == (⟨#[116, 102, 114, 103]⟩ : ByteArray).toList) = false ∧ (a.toList == (⟨#[109, 101, 116, 97]⟩ : ByteArray).toList) = false ∧ (a.toList == (⟨#[105, 116, 101, 109]⟩ : ByteArray).toList) = false) : par (bytesOf a) = none := by
  obtain ⟨h_movi, h_frag, h_trak, h_mdia, h_edts, h_stbl, h_prot, h_udat, h_tfrg, h_meta, h_item⟩ := h
  rw [str_beq] at h_movi; replace h_movi : ¬ bytesOf a = n_movi := of_decide_eq_false h_movi
  rw [str_beq] at h_frag; replace h_frag : ¬ bytesOf a = n_frag := of_decide_eq_false h_frag
  rw [str_beq] at h_trak; replace h_trak : ¬ bytesOf a = n_trak := of_decide_eq_false h_trak
  rw [str_beq] at h_mdia; replace h_mdia : ¬ bytesOf a = n_mdia := of_decide_eq_false h_mdia
  rw [str_beq] at h_edts; replace h_edts : ¬ bytesOf a = n_edts := of_decide_eq_false h_edts
  rw [str_beq] at h_stbl; replace h_stbl : ¬ bytesOf a = n_stbl := of_decide_eq_false h_stbl
  rw [str_beq] at h_prot; replace h_prot : ¬ bytesOf a = n_prot := of_decide_eq_false h_prot
  rw [str_beq] at h_udat; replace h_udat : ¬ bytesOf a = n_udat := of_decide_eq_false h_udat
  rw [str_beq] at h_tfrg; replace h_tfrg : ¬ bytesOf a = n_tfrg := of_decide_eq_false h_tfrg
  rw [str_beq] at h_meta; replace h_meta : ¬ bytesOf a = n_meta := of_decide_eq_false h_meta
  rw [str_beq] at h_item; replace h_item : ¬ bytesOf a = n_item := of_decide_eq_false h_item
  unfold par
  rw [if_neg h_movi, if_neg h_frag, if_neg h_trak, if_neg h_mdia, if_neg h_edts, if_neg h_stbl, if_neg h_prot, if_neg h_udat, if_neg h_tfrg, if_neg h_meta, if_neg h_item]
theorem f59_v {R : Type} (k : Nat) (a : ByteArray) : ∃ s, ∀ (K : ByteArray → Bool → Option R), f59 k a K = K s (isG (bytesOf a)) := by
  rcases str_cases a with rfl | rfl | rfl | rfl | rfl | rfl | rfl | rfl | rfl | rfl | rfl | h
  · exact ⟨(⟨#[45]⟩ : ByteArray), fun K => by kernel_rfl⟩
  · exact ⟨(⟨#[45]⟩ : ByteArray), fun K => by kernel_rfl⟩
  · exact ⟨(⟨#[109, 111, 118, 105]⟩ : ByteArray), fun K => by kernel_rfl⟩
  · exact ⟨(⟨#[116, 114, 97, 107]⟩ : ByteArray), fun K => by kernel_rfl⟩
  · exact ⟨(⟨#[116, 114, 97, 107]⟩ : ByteArray), fun K => by kernel_rfl⟩
  · exact ⟨(⟨#[109, 100, 105, 97]⟩ : ByteArray), fun K => by kernel_rfl⟩
  · exact ⟨(⟨#[109, 100, 105, 97]⟩ : ByteArray), fun K => by kernel_rfl⟩
  · exact ⟨(⟨#[109, 111, 118, 105, 32, 116, 114, 97, 107]⟩ : ByteArray), fun K => by kernel_rfl⟩
  · exact ⟨(⟨#[102, 114, 97, 103]⟩ : ByteArray), fun K => by kernel_rfl⟩
  · exact ⟨(⟨#[45, 32, 109, 111, 118, 105, 32, 116, 114, 97, 107]⟩ : ByteArray), fun K => by kernel_rfl⟩
  · exact ⟨(⟨#[109, 101, 116, 97]⟩ : ByteArray), fun K => by kernel_rfl⟩
  · have hp := par_none h
    obtain ⟨h_movi, h_frag, h_trak, h_mdia, h_edts, h_stbl, h_prot, h_udat, h_tfrg, h_meta, h_item⟩ := h
    refine ⟨(⟨#[]⟩ : ByteArray), fun K => ?_⟩
    simp only [f59, h_movi, h_frag, h_trak, h_mdia, h_edts, h_stbl, h_prot, h_udat, h_tfrg, h_meta, h_item, cond_false, isG, hp]; rfl
theorem f60_v {R : Type} (k : Nat) (a : ByteArray) (K : List ByteArray → Option R) : f60 k a K = K (((par (bytesOf a)).getD []).map strOf) := by
  rcases str_cases a with rfl | rfl | rfl | rfl | rfl | rfl | rfl | rfl | rfl | rfl | rfl | h
  · kernel_rfl
  · kernel_rfl
  · kernel_rfl
  · kernel_rfl
  · kernel_rfl
  · kernel_rfl
  · kernel_rfl
  · kernel_rfl
  · kernel_rfl
  · kernel_rfl
  · kernel_rfl
  · have hp := par_none h
    obtain ⟨h_movi, h_frag, h_trak, h_mdia, h_edts, h_stbl, h_prot, h_udat, h_tfrg, h_meta, h_item⟩ := h
    simp only [f60, h_movi, h_frag, h_trak, h_mdia, h_edts, h_stbl, h_prot, h_udat, h_tfrg, h_meta, h_item, cond_false, hp]; rfl
def mayP (nm p : List Int) : Bool := match par nm with
  | none => true
  | some l => l.any fun x => decide (outer x = p)
theorem f70_movi {R : Type} (k : Nat) (p : ByteArray) (K : Bool → Option R) : f70 (k + 40) (⟨#[109, 111, 118, 105]⟩ : ByteArray) p K = (bif (p.toList == (⟨#[45]⟩ : ByteArray).toList) then K true else (K false)) := by kernel_rfl
theorem f70_frag {R : Type} (k : Nat) (p : ByteArray) (K : Bool → Option R) : f70 (k + 40) (⟨#[102, 114, 97, 103]⟩ : ByteArray) p K = (bif (p.toList == (⟨#[45]⟩ : ByteArray).toList) then K true else (K false)) := by kernel_rfl
theorem f70_trak {R : Type} (k : Nat) (p : ByteArray) (K : Bool → Option R) : f70 (k + 40) (⟨#[116, 114, 97, 107]⟩ : ByteArray) p K = (bif (p.toList == (⟨#[109, 111, 118, 105]⟩ : ByteArray).toList) then K true else (K false)) := by kernel_rfl
theorem f70_mdia {R : Type} (k : Nat) (p : ByteArray) (K : Bool → Option R) : f70 (k + 40) (⟨#[109, 100, 105, 97]⟩ : ByteArray) p K = (bif (p.toList == (⟨#[116, 114, 97, 107]⟩ : ByteArray).toList) then K true else (K false)) := by kernel_rfl
theorem f70_edts {R : Type} (k : Nat) (p : ByteArray) (K : Bool → Option R) : f70 (k + 40) (⟨#[101, 100, 116, 115]⟩ : ByteArray) p K = (bif (p.toList == (⟨#[116, 114, 97, 107]⟩ : ByteArray).toList) then K true else (K false)) := by kernel_rfl
theorem f70_stbl {R : Type} (k : Nat) (p : ByteArray) (K : Bool → Option R) : f70 (k + 40) (⟨#[115, 116, 98, 108]⟩ : ByteArray) p K = (bif (p.toList == (⟨#[109, 100, 105, 97]⟩ : ByteArray).toList) then K true else (K false)) := by kernel_rfl
theorem f70_prot {R : Type} (k : Nat) (p : ByteArray) (K : Bool → Option R) : f70 (k + 40) (⟨#[112, 114, 111, 116]⟩ : ByteArray) p K = (bif (p.toList == (⟨#[109, 100, 105, 97]⟩ : ByteArray).toList) then K true else (K false)) := by kernel_rfl
theorem f70_udat {R : Type} (k : Nat) (p : ByteArray) (K : Bool → Option R) : f70 (k + 40) (⟨#[117, 100, 97, 116]⟩ : ByteArray) p K = (bif (p.toList == (⟨#[109, 111, 118, 105]⟩ : ByteArray).toList) then K true else (bif (p.toList == (⟨#[116, 114, 97, 107]⟩ : ByteArray).toList) then K true else (K false))) := by kernel_rfl
theorem f70_tfrg {R : Type} (k : Nat) (p : ByteArray) (K : Bool → Option R) : f70 (k + 40) (⟨#[116, 102, 114, 103]⟩ : ByteArray) p K = (bif (p.toList == (⟨#[102, 114, 97, 103]⟩ : ByteArray).toList) then K true else (K false)) := by kernel_rfl
theorem f70_meta {R : Type} (k : Nat) (p : ByteArray) (K : Bool → Option R) : f70 (k + 40) (⟨#[109, 101, 116, 97]⟩ : ByteArray) p K = (bif (p.toList == (⟨#[45]⟩ : ByteArray).toList) then K true else (bif (p.toList == (⟨#[109, 111, 118, 105]⟩ : ByteArray).toList) then K true else (bif (p.toList == (⟨#[116, 114, 97, 107]⟩ : ByteArray).toList) then K true else (K false)))) := by kernel_rfl
theorem f70_item {R : Type} (k : Nat) (p : ByteArray) (K : Bool → Option R) : f70 (k + 40) (⟨#[105, 116, 101, 109]⟩ : ByteArray) p K = (bif (p.toList == (⟨#[109, 101, 116, 97]⟩ : ByteArray).toList) then K true else (K false)) := by kernel_rfl
theorem f70_v (R : Type) (a p : ByteArray) : Ev fun k => ∀ (K : Bool → Option R), f70 k a p K = K (mayP (bytesOf a) (bytesOf p)) := by
  refine .plus 40 (.all fun k K => ?_)
  rcases str_cases a with rfl | rfl | rfl | rfl | rfl | rfl | rfl | rfl | rfl | rfl | rfl | h
  · rw [f70_movi]
    rw [str_beq p (⟨#[45]⟩ : ByteArray)]
    show _ = K (decide ([45] = bytesOf p) || false)
    rw [show decide (bytesOf p = bytesOf (⟨#[45]⟩ : ByteArray)) = decide ([45] = bytesOf p) from by rw [show bytesOf (⟨#[45]⟩ : ByteArray) = [45] from rfl]; exact decide_eq_decide.2 eq_comm]
    cases decide ([45] = bytesOf p) <;> rfl
  · rw [f70_frag]
    rw [str_beq p (⟨#[45]⟩ : ByteArray)]
    show _ = K (decide ([45] = bytesOf p) || false)
    rw [show decide (bytesOf p = bytesOf (⟨#[45]⟩ : ByteArray)) = decide ([45] = bytesOf p) from by rw [show bytesOf (⟨#[45]⟩ : ByteArray) = [45] from rfl]; exact decide_eq_decide.2 eq_comm]
    cases decide ([45] = bytesOf p) <;> rfl
  · rw [f70_trak]
    rw [str_beq p (⟨#[109, 111, 118, 105]⟩ : ByteArray)]
    show _ = K (decide ([109, 111, 118, 105] = bytesOf p) || false)
    rw [show decide (bytesOf p = bytesOf (⟨#[109, 111, 118, 105]⟩ : ByteArray)) = decide ([109, 111, 118, 105] = bytesOf p) from by rw [show bytesOf (⟨#[109, 111, 118, 105]⟩ : ByteArray) = [109, 111, 118, 105] from rfl]; exact decide_eq_decide.2 eq_comm]
    cases decide ([109, 111, 118, 105] = bytesOf p) <;> rfl
  · rw [f70_mdia]
    rw [str_beq p (⟨#[116, 114, 97, 107]⟩ : ByteArray)]
    show _ = K (decide ([116, 114, 97, 107] = bytesOf p) || false)
    rw [show decide (bytesOf p = bytesOf (⟨#[116, 114, 97, 107]⟩ : ByteArray)) = decide ([116, 114, 97, 107] = bytesOf p) from by rw [show bytesOf (⟨#[116, 114, 97, 107]⟩ : ByteArray) = [116, 114, 97, 107] from rfl]; exact decide_eq_decide.2 eq_comm]
    cases decide ([116, 114, 97, 107] = bytesOf p) <;> rfl
  · rw [f70_edts]
    rw [str_beq p (⟨#[116, 114, 97, 107]⟩ : ByteArray)]
    show _ = K (decide ([116, 114, 97, 107] = bytesOf p) || false)
    rw [show decide (bytesOf p = bytesOf (⟨#[116, 114, 97, 107]⟩ : ByteArray)) = decide ([116, 114, 97, 107] = bytesOf p) from by rw [show bytesOf (⟨#[116, 114, 97, 107]⟩ : ByteArray) = [116, 114, 97, 107] from rfl]; exact decide_eq_decide.2 eq_comm]
    cases decide ([116, 114, 97, 107] = bytesOf p) <;> rfl
  · rw [f70_stbl]
    rw [str_beq p (⟨#[109, 100, 105, 97]⟩ : ByteArray)]
    show _ = K (decide ([109, 100, 105, 97] = bytesOf p) || false)
    rw [show decide (bytesOf p = bytesOf (⟨#[109, 100, 105, 97]⟩ : ByteArray)) = decide ([109, 100, 105, 97] = bytesOf p) from by rw [show bytesOf (⟨#[109, 100, 105, 97]⟩ : ByteArray) = [109, 100, 105, 97] from rfl]; exact decide_eq_decide.2 eq_comm]
    cases decide ([109, 100, 105, 97] = bytesOf p) <;> rfl
  · rw [f70_prot]
    rw [str_beq p (⟨#[109, 100, 105, 97]⟩ : ByteArray)]
    show _ = K (decide ([109, 100, 105, 97] = bytesOf p) || false)
    rw [show decide (bytesOf p = bytesOf (⟨#[109, 100, 105, 97]⟩ : ByteArray)) = decide ([109, 100, 105, 97] = bytesOf p) from by rw [show bytesOf (⟨#[109, 100, 105, 97]⟩ : ByteArray) = [109, 100, 105, 97] from rfl]; exact decide_eq_decide.2 eq_comm]
    cases decide ([109, 100, 105, 97] = bytesOf p) <;> rfl
  · rw [f70_udat]
    rw [str_beq p (⟨#[109, 111, 118, 105]⟩ : ByteArray)]
    rw [str_beq p (⟨#[116, 114, 97, 107]⟩ : ByteArray)]
    show _ = K ((decide ([109, 111, 118, 105] = bytesOf p) || (decide ([116, 114, 97, 107] = bytesOf p) || (false))))
    rw [show decide (bytesOf p = bytesOf (⟨#[109, 111, 118, 105]⟩ : ByteArray)) = decide ([109, 111, 118, 105] = bytesOf p) from by rw [show bytesOf (⟨#[109, 111, 118, 105]⟩ : ByteArray) = [109, 111, 118, 105] from rfl]; exact decide_eq_decide.2 eq_comm]
    rw [show decide (bytesOf p = bytesOf (⟨#[116, 114, 97, 107]⟩ : ByteArray)) = decide ([116, 114, 97, 107] = bytesOf p) from by rw [show bytesOf (⟨#[116, 114, 97, 107]⟩ : ByteArray) = [116, 114, 97, 107] from rfl]; exact decide_eq_decide.2 eq_comm]
    cases decide ([109, 111, 118, 105] = bytesOf p) <;> cases decide ([116, 114, 97, 107] = bytesOf p) <;> rfl
  · rw [f70_tfrg]
    rw [str_beq p (⟨#[102, 114, 97, 103]⟩ : ByteArray)]
    show _ = K (decide ([102, 114, 97, 103] = bytesOf p) || false)
    rw [show decide (bytesOf p = bytesOf (⟨#[102, 114, 97, 103]⟩ : ByteArray)) = decide ([102, 114, 97, 103] = bytesOf p) from by rw [show bytesOf (⟨#[102, 114, 97, 103]⟩ : ByteArray) = [102, 114, 97, 103] from rfl]; exact decide_eq_decide.2 eq_comm]
    cases decide ([102, 114, 97, 103] = bytesOf p) <;> rfl
  · rw [f70_meta]
    rw [str_beq p (⟨#[45]⟩ : ByteArray)]
    rw [str_beq p (⟨#[109, 111, 118, 105]⟩ : ByteArray)]
    rw [str_beq p (⟨#[116, 114, 97, 107]⟩ : ByteArray)]
    show _ = K ((decide ([45] = bytesOf p) || (decide ([109, 111, 118, 105] = bytesOf p) || (decide ([116, 114, 97, 107] = bytesOf p) || (false)))))
    rw [show decide (bytesOf p = bytesOf (⟨#[45]⟩ : ByteArray)) = decide ([45] = bytesOf p) from by rw [show bytesOf (⟨#[45]⟩ : ByteArray) = [45] from rfl]; exact decide_eq_decide.2 eq_comm]
    rw [show decide (bytesOf p = bytesOf (⟨#[109, 111, 118, 105]⟩ : ByteArray)) = decide ([109, 111, 118, 105] = bytesOf p) from by rw [show bytesOf (⟨#[109, 111, 118, 105]⟩ : ByteArray) = [109, 111, 118, 105] from rfl]; exact decide_eq_decide.2 eq_comm]
    rw [show decide (bytesOf p = bytesOf (⟨#[116, 114, 97, 107]⟩ : ByteArray)) = decide ([116, 114, 97, 107] = bytesOf p) from by rw [show bytesOf (⟨#[116, 114, 97, 107]⟩ : ByteArray) = [116, 114, 97, 107] from rfl]; exact decide_eq_decide.2 eq_comm]
    cases decide ([45] = bytesOf p) <;> cases decide ([109, 111, 118, 105] = bytesOf p) <;> cases decide ([116, 114, 97, 107] = bytesOf p) <;> rfl
  · rw [f70_item]
    rw [str_beq p (⟨#[109, 101, 116, 97]⟩ : ByteArray)]
    show _ = K (decide ([109, 101, 116, 97] = bytesOf p) || false)
    rw [show decide (bytesOf p = bytesOf (⟨#[109, 101, 116, 97]⟩ : ByteArray)) = decide ([109, 101, 116, 97] = bytesOf p) from by rw [show bytesOf (⟨#[109, 101, 116, 97]⟩ : ByteArray) = [109, 101, 116, 97] from rfl]; exact decide_eq_decide.2 eq_comm]
    cases decide ([109, 101, 116, 97] = bytesOf p) <;> rfl
  · have hp := par_none h
    obtain ⟨s, hs⟩ := f59_v (R := R) (k + 40) a
    rw [f70, hs]
    simp only [isG, mayP, hp]; rfl
def letter (c : Int) : Bool := (decide (97 ≤ c) && decide (c ≤ 122)) || (decide (48 ≤ c) && decide (c ≤ 57))
def isTy (l : List Int) : Bool := decide (l.length = 4) && l.all letter
theorem f53_v {R : Type} (k : Nat) (c : Int) (K : Bool → Option R) : f53 k c K = K (letter c) := by
  rw [f53, letter]
  by_cases h1 : 97 ≤ c
  · rw [deT (show c ≥ 97 from h1)]
    by_cases h2 : c ≤ 122
    · rw [deT h2]; rfl
    · rw [deF h2, deF (show ¬ c ≤ 57 by omega), deT (show c ≥ 48 by omega)]; rfl
  · rw [deF (show ¬ c ≥ 97 from h1)]
    by_cases h3 : 48 ≤ c
    · rw [deT (show c ≥ 48 from h3)]; simp
    · rw [deF (show ¬ c ≥ 48 from h3)]; simp
theorem four {l : List Int} (h : l.length = 4) : ∃ a b c d, l = [a, b, c, d] := by
  match l, h with
  | [a, b, c, d], _ => exact ⟨a, b, c, d, rfl⟩
theorem isTy_four (a b c d : Int) : isTy [a, b, c, d] = (letter a && (letter b && (letter c && letter d))) := by
  simp [isTy]
theorem f26_v (R : Type) (a : ByteArray) : Ev fun k => ∀ (K : Int → Int → Option R), f26 k a K = if isTy (bytesOf a) = true then K (valF (bytesOf a) 0) 0 else K 0 80 := by
  by_cases h4 : (bytesOf a).length = 4
  · obtain ⟨x, y, z, u, hl⟩ := four h4
    have hb := okBy_bytesOf a
    have hs : a.size = 4 := by rw [← bytesOf_len]; exact h4
    have h54 := f54_v R (bytesOf a) hb (by rw [h4]; omega) (n := 4) (by decide) (by decide) (by omega)
    have hn : num (bytesOf a) 4 = valF (bytesOf a) 0 := by rw [num_small hb (by omega) (by decide), List.take_of_length_le (by omega)]
    refine h54.imp fun k h54 K => ?_
    have e4 : ((4 : Nat) : Int) = 4 := rfl
    rw [hn, e4] at h54
    have g0 := str_get a 0
    have g1 := str_get a 1
    have g2 := str_get a 2
    have g3 := str_get a 3
    rw [hl] at g0 g1 g2 g3
    simp only [List.getD_cons_zero, List.getD_cons_succ] at g0 g1 g2 g3
    rw [f26, hs]
    have i0 : inb 0 4 = true := rfl
    have i1 : inb 1 4 = true := rfl
    have i2 : inb 2 4 = true := rfl
    have i3 : inb 3 4 = true := rfl
    rw [bnF (show ((4 : Nat) : Int) = 4 from rfl)]
    simp only [cond_false, i0, i1, i2, i3, cond_true, f53_v, g0, g1, g2, g3, h54]
    rw [hl, isTy_four]
    cases letter x with
    | false => rfl
    | true => cases letter y with
      | false => rfl
      | true => cases letter z with
        | false => rfl
        | true => cases letter u <;> rfl
  · refine .all fun k K => ?_
    have hs : ¬ (a.size : Int) = 4 := by rw [← bytesOf_len]; omega
    have ht : isTy (bytesOf a) = false := by simp [isTy, h4]
    rw [f26, bnT hs, ht]; rfl
theorem f55_loop (R : Type) (l : List Int) (hb : l.length ≤ reachBytes) : ∀ i, i ≤ l.length → Ev fun k => ∀ (X0 : List Int → Option R) (X1 : Bool → Option R), f55_l2 k l (i : Int) X0 X1 = if (l.drop i).all letter = true then X0 l else X1 false := by
  rw [reachV] at hb
  refine Ev.down l.length ?_ ?_
  · refine Ev.suc (.all fun k X0 X1 => ?_)
    rw [f55_l2, lt_nat, List.drop_length]; simp
  · intro i hi h
    refine Ev.suc (h.imp fun k hk X0 X1 => ?_)
    rw [f55_l2, lt_nat, inb_nat, wrapSuc (by omega), List.drop_eq_getElem_cons hi, List.all_cons]
    simp only [hi, decide_true, cond_true, Int.toNat_natCast, getD_get hi, hk]
    have f : ∀ {p q : Bool} {x y : Option R}, (if (p && q) = true then x else y) = bif p then (if q = true then x else y) else y := by
      intro p q x y; cases p <;> rfl
    rw [f, letter]
    by_cases h1 : 97 ≤ l[i]
    · rw [deT (show l[i] ≥ 97 from h1)]
      by_cases h2 : l[i] ≤ 122
      · rw [deT h2]; rfl
      · rw [deF h2, deF (show ¬ l[i] ≤ 57 by omega), deT (show l[i] ≥ 48 by omega)]; rfl
    · rw [deF (show ¬ l[i] ≥ 97 from h1)]
      by_cases h3 : 48 ≤ l[i]
      · rw [deT (show l[i] ≥ 48 from h3)]
        by_cases h4 : l[i] ≤ 57
        · rw [deT h4]; rfl
        · rw [deF h4]; rfl
      · rw [deF (show ¬ l[i] ≥ 48 from h3)]; rfl
theorem f55_v (R : Type) (l : List Int) (hb : l.length ≤ reachBytes) : Ev fun k => ∀ (K : Bool → Option R), f55 k l K = K (isTy l) := by
  refine (f55_loop R l hb 0 (Nat.zero_le _)).imp fun k hk K => ?_
  have hk := hk (fun v3 => K ((v3.length : Int) == 4)) K
  simp only [Int.natCast_zero, List.drop_zero] at hk
  rw [f55, hk, isTy]
  cases l.all letter with
  | false => simp
  | true =>
    rw [if_pos rfl, beq_dec, Bool.and_true]
    congr 1
    exact decide_eq_decide.2 (by omega)
theorem ty4 {l : List Int} (h : isTy l = true) : l.length = 4 := by
  simp only [isTy, Bool.and_eq_true, decide_eq_true_eq] at h; exact h.1
/-- The letters of a number. -/
def okId (id : Int) : Bool := decide (0 ≤ id) && decide (id < 4294967296) && isTy (beB 4 id)
theorem f28_v (R : Type) (id : Int) : Ev fun k => ∀ (K : ByteArray → Int → Option R), f28 k id K = if okId id = true then K (strOf (beB 4 id)) 0 else K (⟨#[]⟩ : ByteArray) 80 := by
  refine (f57_v R (n := 4) (by decide) (by decide)).imp2 (f26_v R (strOf (beB 4 id))) fun k h57 h26 K => ?_
  have e4 : ((4 : Nat) : Int) = 4 := rfl
  have p4 : (256 : Int) ^ 4 = 4294967296 := by decide
  rw [e4, p4] at h57
  rw [bytesOf_strOf (beB_ok 4 id)] at h26
  rw [f28, okId]
  by_cases c1 : id < 0
  · rw [deT c1, deF (show ¬ 0 ≤ id by omega)]; rfl
  · rw [deF c1, cond_false, deT (show 0 ≤ id by omega)]
    by_cases c2 : id > 4294967295
    · rw [deT c2, deF (show ¬ id < 4294967296 by omega)]; rfl
    · rw [deF c2, cond_false, deT (show id < 4294967296 by omega), h57 id _ (by omega) (by omega) (by omega), h26]
      cases isTy (beB 4 id) <;> rfl
theorem shrA (w : Int) (n : Nat) (h : n ≤ 3) : shrI .i64 w (8 * (n : Int)) = w / 256 ^ n := by
  unfold shrI
  have e1 : min (8 * (n : Int)).toNat IntKind.i64.bits = 8 * n := by
    have : IntKind.i64.bits = 64 := rfl
    omega
  rw [e1, Int.fdiv_eq_ediv_of_nonneg _ (by exact Int.le_of_lt (Int.pow_pos (by decide)))]
  have e2 : (2 : Int) ^ (8 * n) = 256 ^ n := by rw [Int.pow_mul]; rfl
  rw [e2]
theorem f58_v {R : Type} (k : Nat) (id : Int) (K : List Int → Option R) : f58 k id K = K (beB 4 id) := by
  rw [f58]
  have h1 := shrA id 1 (by decide)
  have h2 := shrA id 2 (by decide)
  have h3 := shrA id 3 (by decide)
  have e1 : (8 * ((1 : Nat) : Int)) = 8 := rfl
  have e2 : (8 * ((2 : Nat) : Int)) = 16 := rfl
  have e3 : (8 * ((3 : Nat) : Int)) = 24 := rfl
  rw [e1] at h1; rw [e2] at h2; rw [e3] at h3
  rw [h1, h2, h3, wrapU8, wrapU8, wrapU8, wrapU8]
  congr 1
  have p2 : (256 : Int) ^ 2 = 256 * 256 := by decide
  have p3 : (256 : Int) ^ 3 = 256 * 256 * 256 := by decide
  rw [p2, p3, Int.pow_one, ← Int.ediv_ediv_of_nonneg (by decide), ← Int.ediv_ediv_of_nonneg (by decide)]
  rfl
theorem f29_v (R : Type) (id : Int) : Ev fun k => ∀ (K : ByteArray → Int → Option R), f29 k id K = if okId id = true then K (strOf (beB 4 id)) 0 else K (⟨#[]⟩ : ByteArray) 80 := by
  refine (f55_v R (beB 4 id) (by rw [beB_len, reachV]; omega)).imp fun k h55 K => ?_
  rw [f29, okId]
  by_cases c1 : id < 0
  · rw [deT c1, deF (show ¬ 0 ≤ id by omega)]; rfl
  · rw [deF c1, cond_false, deT (show 0 ≤ id by omega)]
    by_cases c2 : id ≥ 4294967296
    · rw [deT c2, deF (show ¬ id < 4294967296 by omega)]; rfl
    · rw [deF c2, cond_false, deT (show id < 4294967296 by omega), f58_v, h55]
      cases isTy (beB 4 id) with
      | false => rfl
      | true => simp only [Bool.not_true, cond_false, f58_v]; rfl
/-- Whether a number is that of a group. -/
def grp (id : Int) : Bool := okId id && isG (beB 4 id)
theorem f30_v (R : Type) (id : Int) : Ev fun k => ∀ (K : Bool → Option R), f30 k id K = K (grp id) := by
  refine (f28_v R id).imp fun k h28 K => ?_
  rw [f30, h28, grp]
  by_cases c : okId id = true
  · obtain ⟨s, hs⟩ := f59_v (R := R) k (strOf (beB 4 id))
    rw [if_pos c, hs, bytesOf_strOf (beB_ok 4 id), c]; rfl
  · obtain ⟨s, hs⟩ := f59_v (R := R) k (⟨#[]⟩ : ByteArray)
    rw [if_neg c, hs, Bool.eq_false_iff.2 c]; rfl
theorem par_ne {nm : List Int} {l : List (List Int)} (h : par nm = some l) : 0 < l.length := by
  unfold par at h
  repeat (split at h; · simp at h; subst h; decide)
  simp at h
abbrev n_free : List Int := [102, 114, 101, 101]
inductive Res | bad (c : Int) (at_ : Nat) | fine (kids : List D1) (nd : Nat) (pl : List D0)
theorem outer_eq {p x : List Int} (hp : isTy p = true ∨ p = []) (hx : x = [] ∨ isTy x = true) : decide (outer x = outer p) = decide (x = p) := by
  have len : ∀ {q : List Int}, isTy q = true → q ≠ [] ∧ q ≠ [45] := fun h => by
    have := ty4 h
    constructor <;> (rintro rfl; simp at this)
  unfold outer
  rcases hp with hp | rfl
  · rw [if_neg (len hp).1]
    rcases hx with rfl | hx
    · rw [if_pos rfl, decide_eq_false (fun h => (len hp).2 h.symm), decide_eq_false (fun h => (len hp).1 h.symm)]
    · rw [if_neg (len hx).1]
  · rw [if_pos rfl]
    rcases hx with rfl | hx
    · rw [if_pos rfl]; simp
    · rw [if_neg (len hx).1, decide_eq_false (len hx).2, decide_eq_false (len hx).1]
theorem par_ty {nm : List Int} {l : List (List Int)} (h : par nm = some l) : ∀ x ∈ l, x = [] ∨ isTy x = true := by
  unfold par at h
  repeat (split at h; · simp at h; subst h; decide)
  simp at h
theorem any_eq {p : List Int} (hp : isTy p = true ∨ p = []) : ∀ {l : List (List Int)}, (∀ x ∈ l, x = [] ∨ isTy x = true) → (l.any fun x => decide (outer x = outer p)) = l.any fun x => decide (x = p)
  | [], _ => rfl
  | x :: l, h => by
    simp only [List.any_cons]
    rw [outer_eq hp (h x (by simp)), any_eq hp fun y hy => h y (by simp [hy])]
theorem mayP_eq {p : List Int} (hp : isTy p = true ∨ p = []) (nm : List Int) : mayP nm (outer p) = may nm p := by
  unfold mayP may
  cases h : par nm with
  | none => rfl
  | some l => exact any_eq hp (par_ty h)
theorem outer_ty {p : List Int} (hp : isTy p = true) : outer p = p := by
  unfold outer
  rw [if_neg (by rintro rfl; have := ty4 hp; simp at this)]
theorem _root_.Go.Am.EvB.up {p : Nat → Nat → Prop} (h : EvB p) : EvB fun q j => p q (j + 1) := by
  obtain ⟨a, ha⟩ := h
  exact ⟨a, fun q hq j hj => ha q hq (j + 1) (by omega)⟩
theorem f88_loop (R : Type) (p : ByteArray) (l : List ByteArray) (hl : l.length ≤ 1000) : ∀ i, i ≤ l.length → Ev fun k => ∀ (X0 : List ByteArray → Option R) (X1 : Bool → Option R), f88_l3 k p (i : Int) l X0 X1 = if (l.drop i).any (fun x => decide (bytesOf x = bytesOf p)) = true then X1 true else X0 l := by
  refine Ev.down l.length ?_ ?_
  · refine Ev.suc (.all fun k X0 X1 => ?_)
    rw [f88_l3, lt_nat, List.drop_length]; simp
  · intro i hi h
    refine Ev.suc (h.imp fun k hk X0 X1 => ?_)
    rw [f88_l3, lt_nat, inb_nat, wrapSuc (by omega), List.drop_eq_getElem_cons hi, List.any_cons]
    simp only [hi, decide_true, cond_true, Int.toNat_natCast, getD_get hi, str_beq, hk]
    by_cases c : bytesOf l[i] = bytesOf p
    · simp [c]
    · simp [c]
theorem par_short {nm : List Int} {l : List (List Int)} (h : par nm = some l) : l.length ≤ 3 ∧ ∀ x ∈ l, okBy x := by
  unfold par at h
  have ok : ∀ {x : List Int}, x.all (fun n => decide (0 ≤ n) && decide (n < 256)) = true → okBy x := fun h n hn => by
    have := List.all_eq_true.1 h n hn
    simpa using this
  repeat (split at h; · (simp at h; subst h; refine ⟨by decide, ?_⟩; intro x hx; apply ok; revert x; decide))
  simp at h
theorem f88_v (R : Type) (a p : ByteArray) : Ev fun k => ∀ (K : Bool → Option R), f88 k a p K = K (may (bytesOf a) (bytesOf p)) := by
  cases hp : par (bytesOf a) with
  | none =>
    refine (f88_loop R p [] (by simp) 0 (by simp)).imp fun k hk K => ?_
    have hk := hk (fun v5 => K ((v5.length : Int) == 0)) K
    rw [f88, f60_v, hp, may, hp]
    exact hk
  | some l =>
    obtain ⟨h3, hok⟩ := par_short hp
    have hne := par_ne hp
    refine (f88_loop R p (l.map strOf) (by simp; omega) 0 (by simp)).imp fun k hk0 K => ?_
    have hk := hk0 (fun v5 => K ((v5.length : Int) == 0)) K
    rw [List.drop_zero, List.any_map, Int.natCast_zero] at hk
    rw [f88, f60_v, hp, may, hp]
    have e : l.any ((fun x => decide (bytesOf x = bytesOf p)) ∘ strOf) = l.any fun x => decide (x = bytesOf p) := by
      clear hk hk0 hne h3 hp
      induction l with
      | nil => rfl
      | cons x l ih =>
        simp only [List.any_cons, Function.comp_apply, bytesOf_strOf (hok x (by simp))]
        rw [ih fun y hy => hok y (by simp [hy])]
    rw [e] at hk
    show f88_l3 k p 0 (l.map strOf) _ _ = K (l.any _)
    rw [hk]
    cases l.any fun x => decide (x = bytesOf p) with
    | true => rfl
    | false =>
      rw [if_neg (by decide), beF (by rw [List.length_map]; omega)]
theorem isG_len (nm : List Int) : decide (((((par nm).getD []).map strOf).length : Int) > 0) = isG nm := by
  unfold isG
  cases h : par nm with
  | none => rfl
  | some l => exact decide_eq_true (by have := par_ne h; simp; omega)
def Res.a : Res → Int | .bad _ a => a | .fine _ _ _ => 0
def Res.c : Res → Int | .bad c _ => c | .fine _ _ _ => 0
def Res.kids : Res → List D1 | .bad _ _ => [] | .fine kids _ _ => kids
def nameB (id : Int) : List Int := if okId id = true then beB 4 id else []
theorem nameB_ok (id : Int) : okBy (nameB id) := by
  unfold nameB
  split
  · exact beB_ok 4 id
  · intro x hx; cases hx
theorem f28_n (R : Type) (id : Int) : Ev fun k => ∀ (K : ByteArray → Int → Option R), f28 k id K = K (strOf (nameB id)) (if okId id = true then 0 else 80) := by
  refine (f28_v R id).imp fun k h K => ?_
  rw [h, nameB]
  split <;> rfl
theorem f29_n (R : Type) (id : Int) : Ev fun k => ∀ (K : ByteArray → Int → Option R), f29 k id K = K (strOf (nameB id)) (if okId id = true then 0 else 80) := by
  refine (f29_v R id).imp fun k h K => ?_
  rw [h, nameB]
  split <;> rfl
theorem grp_name (id : Int) : grp id = isG (nameB id) := by
  unfold grp nameB
  cases okId id with
  | true => rfl
  | false => rfl
mutual
/-- Whether a look finds something in a tree. -/
def flN (o : List Int → Int → D1 → Bool) (p : List Int) (dp : Int) : D1 → Bool
  | .mk id d ks g => o p dp (.mk id d ks g) || flL o (nameB id) (IntKind.i64.wrap (dp + 1)) ks
def flL (o : List Int → Int → D1 → Bool) (p : List Int) (dp : Int) : List D1 → Bool
  | [] => false
  | x :: l => flN o p dp x || flL o p dp l
end
def own1 (_p : List Int) (_dp : Int) (n : D1) : Bool := !okId n.c0
def own2 (_p : List Int) (_dp : Int) (n : D1) : Bool := !(n.c3 == isG (nameB n.c0)) || ((!n.c3 && decide (0 < n.c2.length)) || ((n.c3 && decide (0 < n.c1.length)) || decide (nameB n.c0 = n_free)))
def own3P (p : List Int) (_dp : Int) (n : D1) : Bool := !mayP (nameB n.c0) p
def own3 (p : List Int) (_dp : Int) (n : D1) : Bool := !may (nameB n.c0) p
def own4 (_p : List Int) (dp : Int) (_n : D1) : Bool := decide (dp > 8)
theorem f67_v (R : Type) (i : Int) (d : List Int) (ks : List D1) (g : Bool) (p : ByteArray) (dp : Int) : Ev fun k => ∀ (K : Bool → Option R), f67 k i d ks g p dp K = K (own1 (bytesOf p) dp (.mk i d ks g)) := by
  refine (f28_n R i).imp fun k h K => ?_
  rw [f67, h, own1]
  show K ((if okId i = true then (0 : Int) else 80) != 0) = K (!okId i)
  cases okId i <;> rfl
theorem gt0 (n : Nat) : decide ((n : Int) > 0) = decide (0 < n) := by
  by_cases h : 0 < n
  · rw [deT h, deT (by omega)]
  · rw [deF h, deF (by omega)]
theorem f68_v (R : Type) (i : Int) (d : List Int) (ks : List D1) (g : Bool) (p : ByteArray) (dp : Int) : Ev fun k => ∀ (K : Bool → Option R), f68 k i d ks g p dp K = K (own2 (bytesOf p) dp (.mk i d ks g)) := by
  refine (f28_n R i).imp2 (f30_v R i) fun k h28 h30 K => ?_
  rw [f68, h28, h30, own2, grp_name]
  show _ = K (!(g == isG (nameB i)) || ((!g && decide (0 < ks.length)) || ((g && decide (0 < d.length)) || decide (nameB i = n_free))))
  rw [gt0, gt0, str_beq, bytesOf_strOf (nameB_ok i)]
  rw [show bytesOf (⟨#[102, 114, 101, 101]⟩ : ByteArray) = n_free from rfl]
  cases g <;> cases isG (nameB i) <;> cases decide (0 < ks.length) <;> cases decide (0 < d.length) <;> rfl
theorem f69_v (R : Type) (i : Int) (d : List Int) (ks : List D1) (g : Bool) (p : ByteArray) (dp : Int) : Ev fun k => ∀ (K : Bool → Option R), f69 k i d ks g p dp K = K (own3P (bytesOf p) dp (.mk i d ks g)) := by
  have h70 := f70_v R (strOf (nameB i)) p
  rw [bytesOf_strOf (nameB_ok i)] at h70
  refine (f28_n R i).imp2 h70 fun k h28 h70 K => ?_
  rw [f69, h28, h70]; rfl
theorem f71_v (R : Type) (i : Int) (d : List Int) (ks : List D1) (g : Bool) (p : ByteArray) (dp : Int) : Ev fun k => ∀ (K : Bool → Option R), f71 k i d ks g p dp K = K (own4 (bytesOf p) dp (.mk i d ks g)) :=
  .all fun k K => rfl
theorem f62_3_loop (R : Type) (l : List D1) (hb : l.length * 64 ≤ reachBytes) (p : ByteArray) (dp : Int) (h : ∀ i (h : i < l.length), Ev fun k => ∀ (K : Bool → ByteArray → Int → Option R), f87_2 k l[i].c0 l[i].c1 l[i].c2 l[i].c3 p dp K = K (flN own1 (bytesOf p) dp l[i]) p dp) :
    ∀ i, i ≤ l.length → EvB fun q j => ∀ (X0 : ByteArray → Int → Option R) (X1 : Int → ByteArray → Int → Option R), (flL own1 (bytesOf p) dp (l.drop i) = false → f62_3_l2 (fun _ => f87_2 q) j l (l.length : Int) (i : Int) p dp X0 X1 = X0 p dp) ∧ (flL own1 (bytesOf p) dp (l.drop i) = true → ∃ m : Nat, f62_3_l2 (fun _ => f87_2 q) j l (l.length : Int) (i : Int) p dp X0 X1 = X1 (m : Int) p dp) := by
  rw [reachV] at hb
  refine EvB.down l.length ?_ ?_
  · refine EvB.suc (.all fun q j X0 X1 => ?_)
    rw [List.drop_length, flL, f62_3_l2, ifF (by omega)]
    exact ⟨fun _ => rfl, fun h => by cases h⟩
  · intro i hi ih
    refine EvB.suc ((ih.and (.left (h i hi))).imp fun q j hk X0 X1 => ?_)
    obtain ⟨hk, hn⟩ := hk
    rw [List.drop_eq_getElem_cons hi, flL, f62_3_l2, lt_nat, inb_nat, wrapSuc (by omega)]
    simp only [hi, decide_true, cond_true, Int.toNat_natCast, getD_get hi, hn]
    cases hf : flN own1 (bytesOf p) dp l[i] with
    | true => exact ⟨fun h => (by cases h), fun _ => ⟨i, rfl⟩⟩
    | false => rw [Bool.false_or, cond_false]; exact hk X0 X1
theorem f73_of (R : Type) (l : List D1) (hb : l.length * 64 ≤ reachBytes) (p : ByteArray) (dp : Int) (h : ∀ i (h : i < l.length), Ev fun k => ∀ (K : Bool → ByteArray → Int → Option R), f87_2 k l[i].c0 l[i].c1 l[i].c2 l[i].c3 p dp K = K (flN own1 (bytesOf p) dp l[i]) p dp) : Ev fun k => ∀ (K : Bool → Option R), f73 k l p dp K = K (flL own1 (bytesOf p) dp l) := by
  refine .suc (.suc (.suc ((f62_3_loop R l hb p dp h 0 (Nat.zero_le _)).diag.imp fun k hk K => ?_)))
  rw [f73_step, f73_s, f86_2_step, f86_2_s, f62_3_step, f62_3_s]
  have hk := hk (fun v9 v10 => K (decide ((-1 : Int) ≥ 0))) (fun v1 v2 v3 => K (decide (v1 ≥ 0)))
  rw [List.drop_zero] at hk
  cases hf : flL own1 (bytesOf p) dp l with
  | false => exact hk.1 hf
  | true =>
    obtain ⟨m, hm⟩ := hk.2 hf
    refine hm.trans ?_
    rw [deT (by omega)]
theorem f87_2_v (R : Type) : ∀ n : D1, OkN n → ∀ (p : ByteArray) (dp : Int), Ev fun k => ∀ (K : Bool → ByteArray → Int → Option R), f87_2 k n.c0 n.c1 n.c2 n.c3 p dp K = K (flN own1 (bytesOf p) dp n) p dp := by
  intro n
  refine D1.ind (P := fun n => OkN n → ∀ (p : ByteArray) (dp : Int), Ev fun k => ∀ (K : Bool → ByteArray → Int → Option R), f87_2 k n.c0 n.c1 n.c2 n.c3 p dp K = K (flN own1 (bytesOf p) dp n) p dp) (fun i d ks g ih ho p dp => ?_) n
  have hk := ho.kids
  have kids := f73_of R ks hk.1 (strOf (nameB i)) (IntKind.i64.wrap (dp + 1)) fun j hj => ih _ (List.getElem_mem hj) (hk.2 _ (List.getElem_mem hj)) _ _
  rw [bytesOf_strOf (nameB_ok i)] at kids
  refine .suc ((f28_n R i).imp3 (f67_v R i d ks g p dp) kids fun k h28 hown kids K => ?_)
  show f87_2 (k + 1) i d ks g p dp K = _
  rw [f87_2_step, f87_2_s, h28, hown, flN]
  cases own1 (bytesOf p) dp (D1.mk i d ks g) with
  | true => rfl
  | false => rw [cond_false, kids]; rfl
theorem f73_v (R : Type) (l : List D1) (h : OkL l) (p : ByteArray) (dp : Int) : Ev fun k => ∀ (K : Bool → Option R), f73 k l p dp K = K (flL own1 (bytesOf p) dp l) :=
  f73_of R l h.1 p dp fun i hi => f87_2_v R _ (h.2 _ (List.getElem_mem hi)) p dp
theorem f62_5_loop (R : Type) (l : List D1) (hb : l.length * 64 ≤ reachBytes) (p : ByteArray) (dp : Int) (h : ∀ i (h : i < l.length), Ev fun k => ∀ (K : Bool → ByteArray → Int → Option R), f87_4 k l[i].c0 l[i].c1 l[i].c2 l[i].c3 p dp K = K (flN own2 (bytesOf p) dp l[i]) p dp) :
    ∀ i, i ≤ l.length → EvB fun q j => ∀ (X0 : ByteArray → Int → Option R) (X1 : Int → ByteArray → Int → Option R), (flL own2 (bytesOf p) dp (l.drop i) = false → f62_5_l2 (fun _ => f87_4 q) j l (l.length : Int) (i : Int) p dp X0 X1 = X0 p dp) ∧ (flL own2 (bytesOf p) dp (l.drop i) = true → ∃ m : Nat, f62_5_l2 (fun _ => f87_4 q) j l (l.length : Int) (i : Int) p dp X0 X1 = X1 (m : Int) p dp) := by
  rw [reachV] at hb
  refine EvB.down l.length ?_ ?_
  · refine EvB.suc (.all fun q j X0 X1 => ?_)
    rw [List.drop_length, flL, f62_5_l2, ifF (by omega)]
    exact ⟨fun _ => rfl, fun h => by cases h⟩
  · intro i hi ih
    refine EvB.suc ((ih.and (.left (h i hi))).imp fun q j hk X0 X1 => ?_)
    obtain ⟨hk, hn⟩ := hk
    rw [List.drop_eq_getElem_cons hi, flL, f62_5_l2, lt_nat, inb_nat, wrapSuc (by omega)]
    simp only [hi, decide_true, cond_true, Int.toNat_natCast, getD_get hi, hn]
    cases hf : flN own2 (bytesOf p) dp l[i] with
    | true => exact ⟨fun h => (by cases h), fun _ => ⟨i, rfl⟩⟩
    | false => rw [Bool.false_or, cond_false]; exact hk X0 X1
theorem f73_2_of (R : Type) (l : List D1) (hb : l.length * 64 ≤ reachBytes) (p : ByteArray) (dp : Int) (h : ∀ i (h : i < l.length), Ev fun k => ∀ (K : Bool → ByteArray → Int → Option R), f87_4 k l[i].c0 l[i].c1 l[i].c2 l[i].c3 p dp K = K (flN own2 (bytesOf p) dp l[i]) p dp) : Ev fun k => ∀ (K : Bool → Option R), f73_2 k l p dp K = K (flL own2 (bytesOf p) dp l) := by
  refine .suc (.suc (.suc ((f62_5_loop R l hb p dp h 0 (Nat.zero_le _)).diag.imp fun k hk K => ?_)))
  rw [f73_2_step, f73_2_s, f86_4_step, f86_4_s, f62_5_step, f62_5_s]
  have hk := hk (fun v9 v10 => K (decide ((-1 : Int) ≥ 0))) (fun v1 v2 v3 => K (decide (v1 ≥ 0)))
  rw [List.drop_zero] at hk
  cases hf : flL own2 (bytesOf p) dp l with
  | false => exact hk.1 hf
  | true =>
    obtain ⟨m, hm⟩ := hk.2 hf
    refine hm.trans ?_
    rw [deT (by omega)]
theorem f87_4_v (R : Type) : ∀ n : D1, OkN n → ∀ (p : ByteArray) (dp : Int), Ev fun k => ∀ (K : Bool → ByteArray → Int → Option R), f87_4 k n.c0 n.c1 n.c2 n.c3 p dp K = K (flN own2 (bytesOf p) dp n) p dp := by
  intro n
  refine D1.ind (P := fun n => OkN n → ∀ (p : ByteArray) (dp : Int), Ev fun k => ∀ (K : Bool → ByteArray → Int → Option R), f87_4 k n.c0 n.c1 n.c2 n.c3 p dp K = K (flN own2 (bytesOf p) dp n) p dp) (fun i d ks g ih ho p dp => ?_) n
  have hk := ho.kids
  have kids := f73_2_of R ks hk.1 (strOf (nameB i)) (IntKind.i64.wrap (dp + 1)) fun j hj => ih _ (List.getElem_mem hj) (hk.2 _ (List.getElem_mem hj)) _ _
  rw [bytesOf_strOf (nameB_ok i)] at kids
  refine .suc ((f28_n R i).imp3 (f68_v R i d ks g p dp) kids fun k h28 hown kids K => ?_)
  show f87_4 (k + 1) i d ks g p dp K = _
  rw [f87_4_step, f87_4_s, h28, hown, flN]
  cases own2 (bytesOf p) dp (D1.mk i d ks g) with
  | true => rfl
  | false => rw [cond_false, kids]; rfl
theorem f73_2_v (R : Type) (l : List D1) (h : OkL l) (p : ByteArray) (dp : Int) : Ev fun k => ∀ (K : Bool → Option R), f73_2 k l p dp K = K (flL own2 (bytesOf p) dp l) :=
  f73_2_of R l h.1 p dp fun i hi => f87_4_v R _ (h.2 _ (List.getElem_mem hi)) p dp
theorem f62_7_loop (R : Type) (l : List D1) (hb : l.length * 64 ≤ reachBytes) (p : ByteArray) (dp : Int) (h : ∀ i (h : i < l.length), Ev fun k => ∀ (K : Bool → ByteArray → Int → Option R), f87_6 k l[i].c0 l[i].c1 l[i].c2 l[i].c3 p dp K = K (flN own3P (bytesOf p) dp l[i]) p dp) :
    ∀ i, i ≤ l.length → EvB fun q j => ∀ (X0 : ByteArray → Int → Option R) (X1 : Int → ByteArray → Int → Option R), (flL own3P (bytesOf p) dp (l.drop i) = false → f62_7_l2 (fun _ => f87_6 q) j l (l.length : Int) (i : Int) p dp X0 X1 = X0 p dp) ∧ (flL own3P (bytesOf p) dp (l.drop i) = true → ∃ m : Nat, f62_7_l2 (fun _ => f87_6 q) j l (l.length : Int) (i : Int) p dp X0 X1 = X1 (m : Int) p dp) := by
  rw [reachV] at hb
  refine EvB.down l.length ?_ ?_
  · refine EvB.suc (.all fun q j X0 X1 => ?_)
    rw [List.drop_length, flL, f62_7_l2, ifF (by omega)]
    exact ⟨fun _ => rfl, fun h => by cases h⟩
  · intro i hi ih
    refine EvB.suc ((ih.and (.left (h i hi))).imp fun q j hk X0 X1 => ?_)
    obtain ⟨hk, hn⟩ := hk
    rw [List.drop_eq_getElem_cons hi, flL, f62_7_l2, lt_nat, inb_nat, wrapSuc (by omega)]
    simp only [hi, decide_true, cond_true, Int.toNat_natCast, getD_get hi, hn]
    cases hf : flN own3P (bytesOf p) dp l[i] with
    | true => exact ⟨fun h => (by cases h), fun _ => ⟨i, rfl⟩⟩
    | false => rw [Bool.false_or, cond_false]; exact hk X0 X1
theorem f73_3_of (R : Type) (l : List D1) (hb : l.length * 64 ≤ reachBytes) (p : ByteArray) (dp : Int) (h : ∀ i (h : i < l.length), Ev fun k => ∀ (K : Bool → ByteArray → Int → Option R), f87_6 k l[i].c0 l[i].c1 l[i].c2 l[i].c3 p dp K = K (flN own3P (bytesOf p) dp l[i]) p dp) : Ev fun k => ∀ (K : Bool → Option R), f73_3 k l p dp K = K (flL own3P (bytesOf p) dp l) := by
  refine .suc (.suc (.suc ((f62_7_loop R l hb p dp h 0 (Nat.zero_le _)).diag.imp fun k hk K => ?_)))
  rw [f73_3_step, f73_3_s, f86_6_step, f86_6_s, f62_7_step, f62_7_s]
  have hk := hk (fun v9 v10 => K (decide ((-1 : Int) ≥ 0))) (fun v1 v2 v3 => K (decide (v1 ≥ 0)))
  rw [List.drop_zero] at hk
  cases hf : flL own3P (bytesOf p) dp l with
  | false => exact hk.1 hf
  | true =>
    obtain ⟨m, hm⟩ := hk.2 hf
    refine hm.trans ?_
    rw [deT (by omega)]
theorem f87_6_v (R : Type) : ∀ n : D1, OkN n → ∀ (p : ByteArray) (dp : Int), Ev fun k => ∀ (K : Bool → ByteArray → Int → Option R), f87_6 k n.c0 n.c1 n.c2 n.c3 p dp K = K (flN own3P (bytesOf p) dp n) p dp := by
  intro n
  refine D1.ind (P := fun n => OkN n → ∀ (p : ByteArray) (dp : Int), Ev fun k => ∀ (K : Bool → ByteArray → Int → Option R), f87_6 k n.c0 n.c1 n.c2 n.c3 p dp K = K (flN own3P (bytesOf p) dp n) p dp) (fun i d ks g ih ho p dp => ?_) n
  have hk := ho.kids
  have kids := f73_3_of R ks hk.1 (strOf (nameB i)) (IntKind.i64.wrap (dp + 1)) fun j hj => ih _ (List.getElem_mem hj) (hk.2 _ (List.getElem_mem hj)) _ _
  rw [bytesOf_strOf (nameB_ok i)] at kids
  refine .suc ((f28_n R i).imp3 (f69_v R i d ks g p dp) kids fun k h28 hown kids K => ?_)
  show f87_6 (k + 1) i d ks g p dp K = _
  rw [f87_6_step, f87_6_s, h28, hown, flN]
  cases own3P (bytesOf p) dp (D1.mk i d ks g) with
  | true => rfl
  | false => rw [cond_false, kids]; rfl
theorem f73_3_v (R : Type) (l : List D1) (h : OkL l) (p : ByteArray) (dp : Int) : Ev fun k => ∀ (K : Bool → Option R), f73_3 k l p dp K = K (flL own3P (bytesOf p) dp l) :=
  f73_3_of R l h.1 p dp fun i hi => f87_6_v R _ (h.2 _ (List.getElem_mem hi)) p dp
theorem f62_9_loop (R : Type) (l : List D1) (hb : l.length * 64 ≤ reachBytes) (p : ByteArray) (dp : Int) (h : ∀ i (h : i < l.length), Ev fun k => ∀ (K : Bool → ByteArray → Int → Option R), f87_8 k l[i].c0 l[i].c1 l[i].c2 l[i].c3 p dp K = K (flN own4 (bytesOf p) dp l[i]) p dp) :
    ∀ i, i ≤ l.length → EvB fun q j => ∀ (X0 : ByteArray → Int → Option R) (X1 : Int → ByteArray → Int → Option R), (flL own4 (bytesOf p) dp (l.drop i) = false → f62_9_l2 (fun _ => f87_8 q) j l (l.length : Int) (i : Int) p dp X0 X1 = X0 p dp) ∧ (flL own4 (bytesOf p) dp (l.drop i) = true → ∃ m : Nat, f62_9_l2 (fun _ => f87_8 q) j l (l.length : Int) (i : Int) p dp X0 X1 = X1 (m : Int) p dp) := by
  rw [reachV] at hb
  refine EvB.down l.length ?_ ?_
  · refine EvB.suc (.all fun q j X0 X1 => ?_)
    rw [List.drop_length, flL, f62_9_l2, ifF (by omega)]
    exact ⟨fun _ => rfl, fun h => by cases h⟩
  · intro i hi ih
    refine EvB.suc ((ih.and (.left (h i hi))).imp fun q j hk X0 X1 => ?_)
    obtain ⟨hk, hn⟩ := hk
    rw [List.drop_eq_getElem_cons hi, flL, f62_9_l2, lt_nat, inb_nat, wrapSuc (by omega)]
    simp only [hi, decide_true, cond_true, Int.toNat_natCast, getD_get hi, hn]
    cases hf : flN own4 (bytesOf p) dp l[i] with
    | true => exact ⟨fun h => (by cases h), fun _ => ⟨i, rfl⟩⟩
    | false => rw [Bool.false_or, cond_false]; exact hk X0 X1
theorem f73_4_of (R : Type) (l : List D1) (hb : l.length * 64 ≤ reachBytes) (p : ByteArray) (dp : Int) (h : ∀ i (h : i < l.length), Ev fun k => ∀ (K : Bool → ByteArray → Int → Option R), f87_8 k l[i].c0 l[i].c1 l[i].c2 l[i].c3 p dp K = K (flN own4 (bytesOf p) dp l[i]) p dp) : Ev fun k => ∀ (K : Bool → Option R), f73_4 k l p dp K = K (flL own4 (bytesOf p) dp l) := by
  refine .suc (.suc (.suc ((f62_9_loop R l hb p dp h 0 (Nat.zero_le _)).diag.imp fun k hk K => ?_)))
  rw [f73_4_step, f73_4_s, f86_8_step, f86_8_s, f62_9_step, f62_9_s]
  have hk := hk (fun v9 v10 => K (decide ((-1 : Int) ≥ 0))) (fun v1 v2 v3 => K (decide (v1 ≥ 0)))
  rw [List.drop_zero] at hk
  cases hf : flL own4 (bytesOf p) dp l with
  | false => exact hk.1 hf
  | true =>
    obtain ⟨m, hm⟩ := hk.2 hf
    refine hm.trans ?_
    rw [deT (by omega)]
theorem f87_8_v (R : Type) : ∀ n : D1, OkN n → ∀ (p : ByteArray) (dp : Int), Ev fun k => ∀ (K : Bool → ByteArray → Int → Option R), f87_8 k n.c0 n.c1 n.c2 n.c3 p dp K = K (flN own4 (bytesOf p) dp n) p dp := by
  intro n
  refine D1.ind (P := fun n => OkN n → ∀ (p : ByteArray) (dp : Int), Ev fun k => ∀ (K : Bool → ByteArray → Int → Option R), f87_8 k n.c0 n.c1 n.c2 n.c3 p dp K = K (flN own4 (bytesOf p) dp n) p dp) (fun i d ks g ih ho p dp => ?_) n
  have hk := ho.kids
  have kids := f73_4_of R ks hk.1 (strOf (nameB i)) (IntKind.i64.wrap (dp + 1)) fun j hj => ih _ (List.getElem_mem hj) (hk.2 _ (List.getElem_mem hj)) _ _
  rw [bytesOf_strOf (nameB_ok i)] at kids
  refine .suc ((f28_n R i).imp3 (f71_v R i d ks g p dp) kids fun k h28 hown kids K => ?_)
  show f87_8 (k + 1) i d ks g p dp K = _
  rw [f87_8_step, f87_8_s, h28, hown, flN]
  cases own4 (bytesOf p) dp (D1.mk i d ks g) with
  | true => rfl
  | false => rw [cond_false, kids]; rfl
theorem f73_4_v (R : Type) (l : List D1) (h : OkL l) (p : ByteArray) (dp : Int) : Ev fun k => ∀ (K : Bool → Option R), f73_4 k l p dp K = K (flL own4 (bytesOf p) dp l) :=
  f73_4_of R l h.1 p dp fun i hi => f87_8_v R _ (h.2 _ (List.getElem_mem hi)) p dp
mutual
def cntN : D1 → Nat
  | .mk _ _ ks _ => 1 + cntL ks
def cntL : List D1 → Nat
  | [] => 0
  | x :: l => cntN x + cntL l
end
mutual
def cgN : D1 → Int → Bool × Int
  | .mk _ _ ks _, c => if decide (IntKind.i64.wrap (c + 1) > 4000) = true then (true, IntKind.i64.wrap (c + 1)) else cgL ks (IntKind.i64.wrap (c + 1))
def cgL : List D1 → Int → Bool × Int
  | [], c => (false, c)
  | x :: l, c => if (cgN x c).1 = true then cgN x c else cgL l (cgN x c).2
end
theorem f62_11_loop (R : Type) (l : List D1) (hb : l.length * 64 ≤ reachBytes) (p : ByteArray) (dp : Int) (h : ∀ i (h : i < l.length), Ev fun k => ∀ (c : Int) (K : Bool → Int → ByteArray → Int → Option R), f87_10 k l[i].c0 l[i].c1 l[i].c2 l[i].c3 c p dp K = K (cgN l[i] c).1 (cgN l[i] c).2 p dp) :
    ∀ i, i ≤ l.length → EvB fun q j => ∀ (c : Int) (X0 : Int → ByteArray → Int → Option R) (X1 : Int → Int → ByteArray → Int → Option R), ((cgL (l.drop i) c).1 = false → f62_11_l2 (fun _ => f87_10 q) j l (l.length : Int) (i : Int) c p dp X0 X1 = X0 (cgL (l.drop i) c).2 p dp) ∧ ((cgL (l.drop i) c).1 = true → ∃ m : Nat, f62_11_l2 (fun _ => f87_10 q) j l (l.length : Int) (i : Int) c p dp X0 X1 = X1 (m : Int) (cgL (l.drop i) c).2 p dp) := by
  rw [reachV] at hb
  refine EvB.down l.length ?_ ?_
  · refine EvB.suc (.all fun q j c X0 X1 => ?_)
    rw [List.drop_length, cgL, f62_11_l2, ifF (by omega)]
    exact ⟨fun _ => rfl, fun h => by cases h⟩
  · intro i hi ih
    refine EvB.suc ((ih.and (.left (h i hi))).imp fun q j hk c X0 X1 => ?_)
    obtain ⟨hk, hn⟩ := hk
    rw [List.drop_eq_getElem_cons hi, cgL, f62_11_l2, lt_nat, inb_nat, wrapSuc (by omega)]
    simp only [hi, decide_true, cond_true, Int.toNat_natCast, getD_get hi, hn]
    cases hf : (cgN l[i] c).1 with
    | true => rw [if_pos rfl, hf]; exact ⟨fun h => (by cases h), fun _ => ⟨i, rfl⟩⟩
    | false => rw [if_neg (by decide), cond_false]; exact hk _ X0 X1
theorem f73_5_of (R : Type) (l : List D1) (hb : l.length * 64 ≤ reachBytes) (p : ByteArray) (dp : Int) (h : ∀ i (h : i < l.length), Ev fun k => ∀ (c : Int) (K : Bool → Int → ByteArray → Int → Option R), f87_10 k l[i].c0 l[i].c1 l[i].c2 l[i].c3 c p dp K = K (cgN l[i] c).1 (cgN l[i] c).2 p dp) : Ev fun k => ∀ (c : Int) (K : Bool → Int → Option R), f73_5 k l p dp c K = K (cgL l c).1 (cgL l c).2 := by
  refine .suc (.suc (.suc ((f62_11_loop R l hb p dp h 0 (Nat.zero_le _)).diag.imp fun k hk c K => ?_)))
  rw [f73_5_step, f73_5_s, f86_10_step, f86_10_s, f62_11_step, f62_11_s]
  have hk := hk c (fun v11 v12 v13 => K (decide ((-1 : Int) ≥ 0)) v11) (fun v1 v2 v3 v4 => K (decide (v1 ≥ 0)) v2)
  rw [List.drop_zero] at hk
  cases hf : (cgL l c).1 with
  | false => exact hk.1 hf
  | true =>
    obtain ⟨m, hm⟩ := hk.2 hf
    refine hm.trans ?_
    rw [deT (by omega)]
theorem f87_10_v (R : Type) : ∀ n : D1, OkN n → ∀ (p : ByteArray) (dp : Int), Ev fun k => ∀ (c : Int) (K : Bool → Int → ByteArray → Int → Option R), f87_10 k n.c0 n.c1 n.c2 n.c3 c p dp K = K (cgN n c).1 (cgN n c).2 p dp := by
  intro n
  refine D1.ind (P := fun n => OkN n → ∀ (p : ByteArray) (dp : Int), Ev fun k => ∀ (c : Int) (K : Bool → Int → ByteArray → Int → Option R), f87_10 k n.c0 n.c1 n.c2 n.c3 c p dp K = K (cgN n c).1 (cgN n c).2 p dp) (fun i d ks g ih ho p dp => ?_) n
  have hk := ho.kids
  have kids := f73_5_of R ks hk.1 (strOf (nameB i)) (IntKind.i64.wrap (dp + 1)) fun j hj => ih _ (List.getElem_mem hj) (hk.2 _ (List.getElem_mem hj)) _ _
  refine .suc ((f28_n R i).imp2 kids fun k h28 kids c K => ?_)
  show f87_10 (k + 1) i d ks g c p dp K = _
  rw [f87_10_step, f87_10_s, h28, f72, cgN]
  by_cases hc : IntKind.i64.wrap (c + 1) > 4000
  · rw [deT hc, cond_true, if_pos rfl]
  · rw [deF hc, cond_false, if_neg (by decide), kids]
theorem f73_5_v (R : Type) (l : List D1) (h : OkL l) (p : ByteArray) (dp : Int) : Ev fun k => ∀ (c : Int) (K : Bool → Int → Option R), f73_5 k l p dp c K = K (cgL l c).1 (cgL l c).2 :=
  f73_5_of R l h.1 p dp fun i hi => f87_10_v R _ (h.2 _ (List.getElem_mem hi)) p dp
theorem cg_closed : ∀ n : D1, ∀ c : Int, 0 ≤ c → c ≤ 4000 → (cgN n c).1 = decide (4000 < c + (cntN n : Int)) ∧ (c + (cntN n : Int) ≤ 4000 → (cgN n c).2 = c + (cntN n : Int)) := by
  intro n
  refine D1.rec (motive_1 := fun n => ∀ c : Int, 0 ≤ c → c ≤ 4000 → (cgN n c).1 = decide (4000 < c + (cntN n : Int)) ∧ (c + (cntN n : Int) ≤ 4000 → (cgN n c).2 = c + (cntN n : Int)))
    (motive_2 := fun l => ∀ c : Int, 0 ≤ c → c ≤ 4000 → (cgL l c).1 = decide (4000 < c + (cntL l : Int)) ∧ (c + (cntL l : Int) ≤ 4000 → (cgL l c).2 = c + (cntL l : Int))) ?_ ?_ ?_ n
  · intro i d ks g ih c h0 h1
    rw [cgN, cntN, wr (by omega)]
    by_cases hc : c + 1 > 4000
    · rw [deT hc, if_pos rfl]
      exact ⟨(deT (by omega)).symm, fun h => by omega⟩
    · rw [deF hc, if_neg (by decide)]
      obtain ⟨a, b⟩ := ih (c + 1) (by omega) (by omega)
      refine ⟨by rw [a]; exact decide_eq_decide.2 (by omega), fun h => by rw [b (by omega)]; omega⟩
  · intro c h0 h1
    rw [cgL, cntL]
    exact ⟨(deF (by omega)).symm, fun _ => by simp⟩
  · intro x l ih1 ih2 c h0 h1
    rw [cgL, cntL]
    obtain ⟨a, b⟩ := ih1 c h0 h1
    by_cases hc : 4000 < c + (cntN x : Int)
    · rw [if_pos (by rw [a, deT hc]), a, deT hc]
      exact ⟨(deT (by omega)).symm, fun h => by omega⟩
    · rw [if_neg (by rw [a, deF hc]; decide), b (by omega)]
      obtain ⟨a2, b2⟩ := ih2 (c + (cntN x : Int)) (by omega) (by omega)
      refine ⟨by rw [a2]; exact decide_eq_decide.2 (by omega), fun h => by rw [b2 (by omega)]; omega⟩
theorem cgL_closed (l : List D1) : (cgL l 0).1 = decide (4000 < cntL l) := by
  have h := (cg_closed (.mk 0 [] l true) 0 (by omega) (by omega)).1
  rw [cgN, cntN] at h
  -- one more node
  have e : ∀ c : Int, 0 ≤ c → c ≤ 4000 → (cgL l c).1 = decide (4000 < c + (cntL l : Int)) := by
    induction l with
    | nil => intro c h0 h1; rw [cgL, cntL]; exact (deF (by omega)).symm
    | cons x l ih =>
      intro c h0 h1
      rw [cgL, cntL]
      obtain ⟨a, b⟩ := cg_closed x c h0 h1
      by_cases hc : 4000 < c + (cntN x : Int)
      · rw [if_pos (by rw [a, deT hc]), a, deT hc]
        exact (deT (by omega)).symm
      · rw [if_neg (by rw [a, deF hc]; decide), b (by omega)]
        have h' : (cgN (.mk 0 [] l true) 0).1 = decide (4000 < (0 : Int) + (cntN (.mk 0 [] l true) : Int)) := (cg_closed (.mk 0 [] l true) 0 (by omega) (by omega)).1
        rw [cgN, cntN] at h'
        rw [ih h' _ (by omega) (by omega)]
        exact decide_eq_decide.2 (by omega)
  rw [e 0 (by omega) (by omega)]
  exact decide_eq_decide.2 (by omega)
def sumK : List D1 → Nat
  | [] => 0
  | x :: l => cntL x.c2 + sumK l
theorem sumK_eq : ∀ l : List D1, cntL l = l.length + sumK l
  | [] => by rw [cntL, sumK]; rfl
  | x :: l => by
    have := sumK_eq l
    cases x with
    | mk i d ks g => rw [cntL, cntN, sumK, List.length_cons]; show 1 + cntL ks + cntL l = l.length + 1 + (cntL ks + sumK l); omega
theorem f75_loop (R : Type) (l : List D1) (hb : l.length ≤ 1048576) (h : ∀ i (h : i < l.length), Ev fun k => ∀ (K : Int → Option R), f75 k l[i].c2 K = K (cntL l[i].c2 : Nat)) :
    ∀ i, i ≤ l.length → EvB fun q j => ∀ (c : Nat) (X0 : Int → Option R), c + sumK (l.drop i) ≤ 2000000 → f75_l3 (fun _ => f75 q) j l (c : Int) (i : Int) X0 = X0 ((c + sumK (l.drop i) : Nat) : Int) := by
  refine EvB.down l.length ?_ ?_
  · refine EvB.suc (.all fun q j c X0 _ => ?_)
    rw [List.drop_length, sumK, f75_l3, ifF (by omega)]; rfl
  · intro i hi ih
    refine EvB.suc ((ih.and (.left (h i hi))).imp fun q j hk c X0 hc => ?_)
    obtain ⟨hk, hn⟩ := hk
    rw [List.drop_eq_getElem_cons hi, sumK] at hc ⊢
    rw [f75_l3, lt_nat, inb_nat, wrapSuc (by omega)]
    simp only [hi, decide_true, cond_true, Int.toNat_natCast, getD_get hi, hn]
    rw [wrapAdd (by omega), hk _ _ (by omega), Nat.add_assoc]
theorem f75_n (R : Type) : ∀ n : D1, cntN n ≤ 1048577 → Ev fun k => ∀ (K : Int → Option R), f75 k n.c2 K = K (cntL n.c2 : Nat) := by
  intro n
  refine D1.ind (P := fun n => cntN n ≤ 1048577 → Ev fun k => ∀ (K : Int → Option R), f75 k n.c2 K = K (cntL n.c2 : Nat)) (fun i d ks g ih hc => ?_) n
  rw [cntN] at hc
  have hs := sumK_eq ks
  have mem : ∀ l : List D1, ∀ x ∈ l, cntN x ≤ cntL l := by
    intro l
    induction l with
    | nil => intro x hx; cases hx
    | cons y l ih =>
      intro x hx
      rw [cntL]
      rcases List.mem_cons.1 hx with rfl | hx
      · omega
      · have := ih x hx; omega
  refine .suc ((f75_loop R ks (by omega) (fun j hj => ih _ (List.getElem_mem hj) (by have := mem ks _ (List.getElem_mem hj); omega)) 0 (Nat.zero_le _)).diag.imp fun k hk K => ?_)
  show f75 (k + 1) ks K = K (cntL ks : Nat)
  rw [f75_step, f75_s]
  have hk := hk ks.length K (by rw [List.drop_zero]; omega)
  rw [List.drop_zero, ← hs] at hk
  exact hk
theorem f75_v (R : Type) (l : List D1) (hc : cntL l ≤ 1048576) : Ev fun k => ∀ (K : Int → Option R), f75 k l K = K (cntL l : Nat) :=
  f75_n R (.mk 0 [] l true) (by rw [cntN]; omega)
/-- The document's looks. -/
def ownR (kind : Int) : List Int → Int → D1 → Bool := if kind = 1 then own1 else if kind = 2 then own2 else if kind = 3 then own3 else own4
theorem f74_loop (R : Type) (l : List D1) (hb : l.length * 64 ≤ reachBytes) (p : ByteArray) (dp kind : Int) (hkind : kind = 1 ∨ kind = 2 ∨ kind = 3 ∨ kind = 4)
    (h : ∀ i (h : i < l.length), Ev fun k => ∀ (K : Bool → Option R), f74 k l[i].c2 (strOf (nameB l[i].c0)) (IntKind.i64.wrap (dp + 1)) kind K = K (flL (ownR kind) (nameB l[i].c0) (IntKind.i64.wrap (dp + 1)) l[i].c2)) :
    ∀ i, i ≤ l.length → EvB fun q j => ∀ (X0 : Option R) (X1 : Bool → Option R), f74_l2 (fun _ => f74 q) j l p dp kind (i : Int) X0 X1 = if flL (ownR kind) (bytesOf p) dp (l.drop i) = true then X1 true else X0 := by
  rw [reachV] at hb
  refine EvB.down l.length ?_ ?_
  · refine EvB.suc (.all fun q j X0 X1 => ?_)
    rw [List.drop_length, flL, f74_l2, ifF (by omega), if_neg (by decide)]
  · intro i hi ih
    have h29 := f29_n R l[i].c0
    have h88 := f88_v R (strOf (nameB l[i].c0)) p
    rw [bytesOf_strOf (nameB_ok _)] at h88
    refine EvB.suc (((ih.and (.left (h i hi))).and (EvB.right (h29.and h88))).imp fun q j hk X0 X1 => ?_)
    obtain ⟨⟨hk, hn⟩, h29, h88⟩ := hk
    have ef : flL (ownR kind) (bytesOf p) dp (l.drop i) = (ownR kind (bytesOf p) dp l[i] || flL (ownR kind) (nameB l[i].c0) (IntKind.i64.wrap (dp + 1)) l[i].c2 || flL (ownR kind) (bytesOf p) dp (l.drop (i + 1))) := by
      rw [List.drop_eq_getElem_cons hi, flL]
      congr 1
      cases l[i] with
      | mk a b c d => rw [flN]; rfl
    rw [ef, f74_l2, lt_nat, inb_nat, wrapSuc (by omega)]
    simp only [hi, decide_true, cond_true, Int.toNat_natCast, getD_get hi, h29]
    -- behind one's own
    have rest : (f74 q l[i].c2 (strOf (nameB l[i].c0)) (IntKind.i64.wrap (dp + 1)) kind fun v => bif v then X1 true else f74_l2 (fun _ => f74 q) j l p dp kind ((i + 1 : Nat) : Int) X0 X1) = if (flL (ownR kind) (nameB l[i].c0) (IntKind.i64.wrap (dp + 1)) l[i].c2 || flL (ownR kind) (bytesOf p) dp (l.drop (i + 1))) = true then X1 true else X0 := by
      rw [hn]
      cases flL (ownR kind) (nameB l[i].c0) (IntKind.i64.wrap (dp + 1)) l[i].c2 with
      | true => rfl
      | false => rw [cond_false, hk, Bool.false_or]
    have fin : ∀ (own : Bool) (x : Option R), own = ownR kind (bytesOf p) dp l[i] → x = (bif own then X1 true else f74 q l[i].c2 (strOf (nameB l[i].c0)) (IntKind.i64.wrap (dp + 1)) kind fun v => bif v then X1 true else f74_l2 (fun _ => f74 q) j l p dp kind ((i + 1 : Nat) : Int) X0 X1) → x = if (ownR kind (bytesOf p) dp l[i] || flL (ownR kind) (nameB l[i].c0) (IntKind.i64.wrap (dp + 1)) l[i].c2 || flL (ownR kind) (bytesOf p) dp (l.drop (i + 1))) = true then X1 true else X0 := by
      intro own x h1 h2
      rw [h2, ← h1, rest]
      cases own with
      | true => rfl
      | false => rw [cond_false, Bool.false_or]
    rcases hkind with rfl | rfl | rfl | rfl
    · refine fin (!okId l[i].c0) _ rfl ?_
      rw [beT rfl, cond_true]
      cases okId l[i].c0 <;> rfl
    · refine fin (own2 (bytesOf p) dp l[i]) _ rfl ?_
      rw [beF (by decide), cond_false, beT rfl, cond_true, f60_v, bytesOf_strOf (nameB_ok _), isG_len, gt0, gt0, str_beq, bytesOf_strOf (nameB_ok _), show bytesOf (⟨#[102, 114, 101, 101]⟩ : ByteArray) = n_free from rfl, own2]
      cases l[i].c3 <;> cases isG (nameB l[i].c0) <;> cases decide (0 < l[i].c2.length) <;> cases decide (0 < l[i].c1.length) <;> cases decide (nameB l[i].c0 = n_free) <;> rfl
    · refine fin (own3 (bytesOf p) dp l[i]) _ rfl ?_
      rw [beF (by decide), cond_false, beF (by decide), cond_false, beT rfl, cond_true, h88]
      rfl
    · refine fin (own4 (bytesOf p) dp l[i]) _ rfl ?_
      rw [beF (by decide), cond_false, beF (by decide), cond_false, beF (by decide), cond_false, beT rfl, cond_true]
      rfl
theorem f74_n (R : Type) (kind : Int) (hkind : kind = 1 ∨ kind = 2 ∨ kind = 3 ∨ kind = 4) : ∀ n : D1, OkN n → ∀ (p : ByteArray) (dp : Int), Ev fun k => ∀ (K : Bool → Option R), f74 k n.c2 p dp kind K = K (flL (ownR kind) (bytesOf p) dp n.c2) := by
  intro n
  refine D1.ind (P := fun n => OkN n → ∀ (p : ByteArray) (dp : Int), Ev fun k => ∀ (K : Bool → Option R), f74 k n.c2 p dp kind K = K (flL (ownR kind) (bytesOf p) dp n.c2)) (fun i d ks g ih ho p dp => ?_) n
  have hk := ho.kids
  refine .suc ((f74_loop R ks hk.1 p dp kind hkind (fun j hj => ?_) 0 (Nat.zero_le _)).diag.imp fun k h K => ?_)
  · have := ih _ (List.getElem_mem hj) (hk.2 _ (List.getElem_mem hj)) (strOf (nameB ks[j].c0)) (IntKind.i64.wrap (dp + 1))
    rw [bytesOf_strOf (nameB_ok _)] at this
    exact this
  · show f74 (k + 1) ks p dp kind K = _
    rw [f74_step, f74_s]
    refine (h (K false) K).trans ?_
    rw [List.drop_zero]
    show _ = K (flL (ownR kind) (bytesOf p) dp ks)
    cases flL (ownR kind) (bytesOf p) dp ks <;> rfl
theorem f74_v (R : Type) (kind : Int) (hkind : kind = 1 ∨ kind = 2 ∨ kind = 3 ∨ kind = 4) (l : List D1) (h : OkL l) (p : ByteArray) (dp : Int) : Ev fun k => ∀ (K : Bool → Option R), f74 k l p dp kind K = K (flL (ownR kind) (bytesOf p) dp l) :=
  f74_n R kind hkind (.mk 0 [] l true) (.mk (by decide) (by intro x hx; cases hx) (by simp) h.1 h.2) p dp
def chkR (l : List D1) : Int :=
  if flL own1 [] 1 l = true then 80 else if flL own2 [] 1 l = true then 4 else if flL own3 [] 1 l = true then 42 else if flL own4 [] 1 l = true then 43 else if 4000 < cntL l then 2 else 0
theorem f48_v (R : Type) (l : List D1) (h : OkL l) (hc : cntL l ≤ 1048576) : Ev fun k => ∀ (K : Int → Option R), f48 k l K = K (chkR l) := by
  have h1 := f74_v R 1 (.inl rfl) l h (⟨#[]⟩ : ByteArray) 1
  have h2 := f74_v R 2 (.inr (.inl rfl)) l h (⟨#[]⟩ : ByteArray) 1
  have h3 := f74_v R 3 (.inr (.inr (.inl rfl))) l h (⟨#[]⟩ : ByteArray) 1
  have h4 := f74_v R 4 (.inr (.inr (.inr rfl))) l h (⟨#[]⟩ : ByteArray) 1
  have up : ∀ (a : Nat) {q : Nat → Prop}, Ev q → Ev fun k => q (k + a) := fun a q hq => by obtain ⟨k0, hk⟩ := hq; exact ⟨k0, fun k h => hk _ (by omega)⟩
  refine .plus 5 (((up 4 h1).imp4 (up 3 h2) (up 2 h3) (up 1 h4) fun k a b c d => (⟨a, b, c, d⟩ : _ ∧ _ ∧ _ ∧ _)).imp2 (up 5 (f75_v R l hc)) fun k hh h75 K => ?_)
  obtain ⟨h1, h2, h3, h4⟩ := hh
  rw [f48, f48_l3, deT (by decide), cond_true, h1, chkR]
  rw [show ownR 1 = own1 from rfl, show bytesOf (⟨#[]⟩ : ByteArray) = [] from rfl]
  cases flL own1 [] 1 l with
  | true => rfl
  | false =>
    rw [cond_false, if_neg (by decide), show IntKind.i64.wrap ((1 : Int) + 1) = 2 from rfl, f48_l3, deT (by decide), cond_true, h2, show ownR 2 = own2 from rfl, show bytesOf (⟨#[]⟩ : ByteArray) = [] from rfl]
    cases flL own2 [] 1 l with
    | true => rfl
    | false =>
      rw [cond_false, if_neg (by decide), show IntKind.i64.wrap ((2 : Int) + 1) = 3 from rfl, f48_l3, deT (by decide), cond_true, h3, show ownR 3 = own3 from rfl, show bytesOf (⟨#[]⟩ : ByteArray) = [] from rfl]
      cases flL own3 [] 1 l with
      | true => rfl
      | false =>
        rw [cond_false, if_neg (by decide), show IntKind.i64.wrap ((3 : Int) + 1) = 4 from rfl, f48_l3, deT (by decide), cond_true, h4, show ownR 4 = own4 from rfl, show bytesOf (⟨#[]⟩ : ByteArray) = [] from rfl]
        cases flL own4 [] 1 l with
        | true => rfl
        | false =>
          rw [cond_false, if_neg (by decide), show IntKind.i64.wrap ((4 : Int) + 1) = 5 from rfl, f48_l3, deF (by decide), cond_false, h75]
          by_cases c : 4000 < cntL l
          · rw [if_pos c, deT (by omega)]; rfl
          · rw [if_neg c, deF (by omega)]; rfl
/-- Where all names are names, both looks at the holders agree. -/
theorem fl3_eq : ∀ n : D1, (∀ (dp dp' : Int) (p : List Int) (p' : List Int), (isTy p = true ∨ p = []) → flN own1 p' dp' n = false → flN own3P (outer p) dp n = flN own3 p dp n) := by
  intro n
  refine D1.rec (motive_1 := fun n => (∀ (dp dp' : Int) (p : List Int) (p' : List Int), (isTy p = true ∨ p = []) → flN own1 p' dp' n = false → flN own3P (outer p) dp n = flN own3 p dp n))
    (motive_2 := fun l => (∀ (dp dp' : Int) (p : List Int) (p' : List Int), (isTy p = true ∨ p = []) → flL own1 p' dp' l = false → flL own3P (outer p) dp l = flL own3 p dp l)) ?_ ?_ ?_ n
  · intro i d ks g ih dp dp' p p' hp h
    rw [flN, Bool.or_eq_false_iff] at h
    have hid : okId i = true := by have := h.1; simpa [own1, D1.c0] using this
    have hty : isTy (nameB i) = true := by
      rw [nameB, if_pos hid]
      simp only [okId, Bool.and_eq_true] at hid
      exact hid.2
    rw [flN, flN, own3P, own3, mayP_eq hp]
    have := ih (IntKind.i64.wrap (dp + 1)) _ (nameB i) _ (.inl hty) h.2
    rw [outer_ty hty] at this
    rw [this]
  · intro dp dp' p p' hp h; rw [flL, flL]
  · intro x l ih1 ih2 dp dp' p p' hp h
    rw [flL, Bool.or_eq_false_iff] at h
    rw [flL, flL, ih1 dp dp' p p' hp h.1, ih2 dp dp' p p' hp h.2]
theorem fl3L (l : List D1) (h : flL own1 [] 1 l = false) : flL own3P [45] 1 l = flL own3 [] 1 l := by
  induction l with
  | nil => rw [flL, flL]
  | cons x l ih =>
    rw [flL, Bool.or_eq_false_iff] at h
    rw [flL, flL, ih h.2]
    have := fl3_eq x 1 1 [] [] (.inr rfl) h.1
    rw [show outer [] = [45] from rfl] at this
    rw [this]
mutual
theorem fl1N : ∀ (p p' : List Int) (dp dp' : Int) (n : D1), flN own1 p dp n = flN own1 p' dp' n
  | p, p', dp, dp', .mk i d ks g => by rw [flN, flN, fl1L _ (nameB i) _ (IntKind.i64.wrap (dp' + 1)) ks]; rfl
theorem fl1L : ∀ (p p' : List Int) (dp dp' : Int) (l : List D1), flL own1 p dp l = flL own1 p' dp' l
  | _, _, _, _, [] => by rw [flL, flL]
  | p, p', dp, dp', x :: l => by rw [flL, flL, fl1N p p' dp dp' x, fl1L p p' dp dp' l]
end
mutual
theorem fl2N : ∀ (p p' : List Int) (dp dp' : Int) (n : D1), flN own2 p dp n = flN own2 p' dp' n
  | p, p', dp, dp', .mk i d ks g => by rw [flN, flN, fl2L _ (nameB i) _ (IntKind.i64.wrap (dp' + 1)) ks]; rfl
theorem fl2L : ∀ (p p' : List Int) (dp dp' : Int) (l : List D1), flL own2 p dp l = flL own2 p' dp' l
  | _, _, _, _, [] => by rw [flL, flL]
  | p, p', dp, dp', x :: l => by rw [flL, flL, fl2N p p' dp dp' x, fl2L p p' dp dp' l]
end
mutual
theorem fl4N : ∀ (p p' : List Int) (dp : Int) (n : D1), flN own4 p dp n = flN own4 p' dp n
  | p, p', dp, .mk i d ks g => by rw [flN, flN]; rfl
theorem fl4L : ∀ (p p' : List Int) (dp : Int) (l : List D1), flL own4 p dp l = flL own4 p' dp l
  | _, _, _, [] => by rw [flL, flL]
  | p, p', dp, x :: l => by rw [flL, flL, fl4N p p' dp x, fl4L p p' dp l]
end
theorem f47_v (R : Type) (l : List D1) (h : OkL l) : Ev fun k => ∀ (K : Int → Option R), f47 k l K = K (chkR l) := by
  have h1 := f73_v R l h (⟨#[45]⟩ : ByteArray) 1
  have h2 := f73_2_v R l h (⟨#[45]⟩ : ByteArray) 1
  have h3 := f73_3_v R l h (⟨#[45]⟩ : ByteArray) 1
  have h4 := f73_4_v R l h (⟨#[45]⟩ : ByteArray) 1
  have h5 := f73_5_v R l h (⟨#[45]⟩ : ByteArray) 1
  have up : ∀ (a : Nat) {q : Nat → Prop}, Ev q → Ev fun k => q (k + a) := fun a q hq => by obtain ⟨k0, hk⟩ := hq; exact ⟨k0, fun k h => hk _ (by omega)⟩
  refine .plus 6 (((up 5 h1).imp4 (up 4 h2) (up 3 h3) (up 2 h4) fun k a b c d => (⟨a, b, c, d⟩ : _ ∧ _ ∧ _ ∧ _)).imp2 (up 1 h5) fun k hh h5 K => ?_)
  obtain ⟨h1, h2, h3, h4⟩ := hh
  have eb : bytesOf (⟨#[45]⟩ : ByteArray) = [45] := rfl
  rw [f47, f47_l4, deT (by decide), cond_true, show inb 0 5 = true from rfl, cond_true, deT (by decide), cond_true, h1, chkR, eb, fl1L [45] [] 1 1]
  cases hf1 : flL own1 [] 1 l with
  | true => rfl
  | false =>
    rw [cond_false, if_neg (by decide), show IntKind.i64.wrap ((0 : Int) + 1) = 1 from rfl, f47_l4, deT (by decide), cond_true, show inb 1 5 = true from rfl, cond_true, deF (by decide), cond_false, deT (by decide), cond_true, h2, eb, fl2L [45] [] 1 1]
    cases flL own2 [] 1 l with
    | true => rfl
    | false =>
      rw [cond_false, if_neg (by decide), show IntKind.i64.wrap ((1 : Int) + 1) = 2 from rfl, f47_l4, deT (by decide), cond_true, show inb 2 5 = true from rfl, cond_true, deF (by decide), cond_false, deF (by decide), cond_false, deT (by decide), cond_true, h3, eb, fl3L l hf1]
      cases flL own3 [] 1 l with
      | true => rfl
      | false =>
        rw [cond_false, if_neg (by decide), show IntKind.i64.wrap ((2 : Int) + 1) = 3 from rfl, f47_l4, deT (by decide), cond_true, show inb 3 5 = true from rfl, cond_true, deF (by decide), cond_false, deF (by decide), cond_false, deF (by decide), cond_false, deT (by decide), cond_true, h4, eb, fl4L [45] [] 1]
        cases flL own4 [] 1 l with
        | true => rfl
        | false =>
          rw [cond_false, if_neg (by decide), show IntKind.i64.wrap ((3 : Int) + 1) = 4 from rfl, f47_l4, deT (by decide), cond_true, show inb 4 5 = true from rfl, cond_true, deF (by decide), cond_false, deF (by decide), cond_false, deF (by decide), cond_false, deF (by decide), cond_false, deT (by decide), cond_true, h5, cgL_closed]
          by_cases c : 4000 < cntL l
          · rw [if_pos c, deT c]; rfl
          · rw [if_neg c, deF c, cond_false, show IntKind.i64.wrap ((4 : Int) + 1) = 5 from rfl, f47_l4, deF (by decide)]; rfl
mutual
def wtN : D1 → Nat
  | .mk _ d ks _ => 1 + d.length + wtL ks
def wtL : List D1 → Nat
  | [] => 0
  | x :: l => wtN x + wtL l
end
mutual
/-- The bytes of a tree. -/
def wrN (long : Bool) : D1 → List Int
  | .mk id d ks g => boxB id (if g = true then wrL long ks else d) long
def wrL (long : Bool) : List D1 → List Int
  | [] => []
  | x :: l => wrN long x ++ wrL long l
end
theorem wt_mem : ∀ {l : List D1} {x : D1}, x ∈ l → wtN x ≤ wtL l
  | y :: l, x, h => by
    rw [wtL]
    rcases List.mem_cons.1 h with rfl | h
    · omega
    · have := wt_mem h; omega
theorem wt_len (l : List D1) : l.length ≤ wtL l := by
  induction l with
  | nil => simp
  | cons x l ih =>
    cases x with
    | mk i d ks g => rw [wtL, wtN, List.length_cons]; omega
theorem cnt_wt : ∀ n : D1, cntN n ≤ wtN n := by
  intro n
  refine D1.rec (motive_1 := fun n => cntN n ≤ wtN n) (motive_2 := fun l => cntL l ≤ wtL l) ?_ ?_ ?_ n
  · intro i d ks g ih; rw [cntN, wtN]; omega
  · rw [cntL, wtL]; omega
  · intro x l h1 h2; rw [cntL, wtL]; omega
theorem cntL_wt : ∀ l : List D1, cntL l ≤ wtL l
  | [] => by rw [cntL, wtL]; omega
  | x :: l => by have := cnt_wt x; have := cntL_wt l; rw [cntL, wtL]; omega
theorem wrN_len (long : Bool) : ∀ n : D1, (wrN long n).length ≤ 16 * wtN n := by
  intro n
  refine D1.rec (motive_1 := fun n => (wrN long n).length ≤ 16 * wtN n) (motive_2 := fun l => (wrL long l).length ≤ 16 * wtL l) ?_ ?_ ?_ n
  · intro i d ks g ih
    rw [wrN, boxB_len, wtN]
    cases g <;> cases long <;> simp <;> omega
  · rw [wrL]; simp
  · intro x l h1 h2; rw [wrL, wtL, List.length_append]; omega
theorem wrL_len (long : Bool) : ∀ l : List D1, (wrL long l).length ≤ 16 * wtL l
  | [] => by rw [wrL]; simp
  | x :: l => by have := wrN_len long x; have := wrL_len long l; rw [wrL, wtL, List.length_append]; omega
theorem okId_range {id : Int} (h : okId id = true) : 0 ≤ id ∧ id < 4294967296 := by
  simp only [okId, Bool.and_eq_true, decide_eq_true_eq] at h
  exact h.1
theorem fl1_cons {x : D1} {l : List D1} (h : flL own1 [] 1 (x :: l) = false) : okId x.c0 = true ∧ flL own1 [] 1 x.c2 = false ∧ flL own1 [] 1 l = false := by
  rw [flL, Bool.or_eq_false_iff] at h
  cases x with
  | mk i d ks g =>
    rw [flN, Bool.or_eq_false_iff, fl1L (nameB i) [] _ 1] at h
    exact ⟨by simpa [own1, D1.c0] using h.1.1, h.1.2, h.2⟩
theorem fl1_mem : ∀ {l : List D1}, flL own1 [] 1 l = false → ∀ x ∈ l, okId x.c0 = true ∧ flL own1 [] 1 x.c2 = false
  | y :: l, h, x, hx => by
    have := fl1_cons h
    rcases List.mem_cons.1 hx with rfl | hx
    · exact ⟨this.1, this.2.1⟩
    · exact fl1_mem this.2.2 x hx
theorem f82_loop (R : Type) (long : Bool) (l : List D1) (hb : wtL l ≤ 2097152) (hid : flL own1 [] 1 l = false) (h : ∀ i (h : i < l.length), Ev fun k => ∀ (K : List Int → Option R), f82 k l[i].c2 long K = K (wrL long l[i].c2)) :
    ∀ i, i ≤ l.length → EvB fun q j => ∀ (out : List Int) (X0 : List Int → Option R), out.length + 16 * wtL (l.drop i) ≤ 67108864 → f82_l3 (fun _ => f82 q) j long l (l.length : Int) (i : Int) out X0 = X0 (out ++ wrL long (l.drop i)) := by
  have hl := wt_len l
  refine EvB.down l.length ?_ ?_
  · refine EvB.suc (.all fun q j out X0 _ => ?_)
    rw [List.drop_length, wrL, f82_l3, ifF (by omega), List.append_nil]
  · intro i hi ih
    have hm := fl1_mem hid _ (List.getElem_mem hi)
    have hr := okId_range hm.1
    refine EvB.suc (((ih.and (.left (h i hi))).and (EvB.right (f51_v R))).imp fun q j hk out X0 ho => ?_)
    obtain ⟨⟨hk, hn⟩, h51⟩ := hk
    have hw := wt_mem (List.getElem_mem hi)
    rw [List.drop_eq_getElem_cons hi, wtL] at ho
    rw [List.drop_eq_getElem_cons hi, wrL, f82_l3, lt_nat, inb_nat, wrapSuc (by omega)]
    simp only [hi, decide_true, cond_true, Int.toNat_natCast, getD_get hi, hn]
    have hn16 := wrN_len long l[i]
    have ew : wrN long l[i] = boxB l[i].c0 (if l[i].c3 = true then wrL long l[i].c2 else l[i].c1) long := by
      cases l[i] with
      | mk a b c d => rw [wrN]; rfl
    have ewt : 1 + l[i].c1.length + wtL l[i].c2 = wtN l[i] := by
      cases l[i] with
      | mk a b c d => rw [wtN]; rfl
    have hkl := wrL_len long l[i].c2
    cases hg : l[i].c3 with
    | true =>
      rw [hg, if_pos rfl] at ew
      rw [cond_true, h51 _ _ _ _ hr.1 hr.2 (by omega), ← ew, roT (by omega), cond_true, hk _ _ (by rw [List.length_append]; omega), List.append_assoc]
    | false =>
      rw [hg, if_neg (by decide)] at ew
      rw [cond_false, h51 _ _ _ _ hr.1 hr.2 (by omega), ← ew, roT (by omega), cond_true, hk _ _ (by rw [List.length_append]; omega), List.append_assoc]
theorem f82_n (R : Type) (long : Bool) : ∀ n : D1, wtN n ≤ 2097153 → flL own1 [] 1 n.c2 = false → Ev fun k => ∀ (K : List Int → Option R), f82 k n.c2 long K = K (wrL long n.c2) := by
  intro n
  refine D1.ind (P := fun n => wtN n ≤ 2097153 → flL own1 [] 1 n.c2 = false → Ev fun k => ∀ (K : List Int → Option R), f82 k n.c2 long K = K (wrL long n.c2)) (fun i d ks g ih hw hid => ?_) n
  rw [wtN] at hw
  have hid : flL own1 [] 1 ks = false := hid
  refine .suc ((f82_loop R long ks (by omega) hid (fun j hj => ih _ (List.getElem_mem hj) (by have := wt_mem (List.getElem_mem hj); omega) (fl1_mem hid _ (List.getElem_mem hj)).2) 0 (Nat.zero_le _)).diag.imp fun k hk K => ?_)
  show f82 (k + 1) ks long K = K (wrL long ks)
  rw [f82_step, f82_s]
  exact hk [] K (by rw [List.drop_zero]; simp; omega)
theorem f82_v (R : Type) (long : Bool) (l : List D1) (hw : wtL l ≤ 2097152) (hid : flL own1 [] 1 l = false) : Ev fun k => ∀ (K : List Int → Option R), f82 k l long K = K (wrL long l) :=
  f82_n R long (.mk 0 [] l true) (by rw [wtN]; simp; omega) hid
theorem f83_loop (R : Type) (long : Bool) (id : Int) (d : List Int) (g : Bool) (l : List D1) (hb : wtL l ≤ 2097152) (h : ∀ i (h : i < l.length), Ev fun k => ∀ (K : List Int → Option R), f83 k l[i].c0 l[i].c1 l[i].c2 l[i].c3 long K = K (wrN long l[i])) :
    ∀ i, i ≤ l.length → EvB fun q j => ∀ (out : List Int) (X0 : Bool → Int → List Int → List D1 → Bool → List Int → Option R), out.length + 16 * wtL (l.drop i) ≤ 67108864 → f83_l5 (fun _ => f83 q) j long (i : Int) id d l g out X0 = X0 long id d l g (out ++ wrL long (l.drop i)) := by
  have hl := wt_len l
  refine EvB.down l.length ?_ ?_
  · refine EvB.suc (.all fun q j out X0 _ => ?_)
    rw [List.drop_length, wrL, f83_l5, ifF (by omega), List.append_nil]
  · intro i hi ih
    refine EvB.suc ((ih.and (.left (h i hi))).imp fun q j hk out X0 ho => ?_)
    obtain ⟨hk, hn⟩ := hk
    have hw := wt_mem (List.getElem_mem hi)
    have hn16 := wrN_len long l[i]
    rw [List.drop_eq_getElem_cons hi, wtL] at ho
    rw [List.drop_eq_getElem_cons hi, wrL, f83_l5, lt_nat, inb_nat, wrapSuc (by omega)]
    simp only [hi, decide_true, cond_true, Int.toNat_natCast, getD_get hi, hn]
    rw [roT (by omega), cond_true, hk _ _ (by rw [List.length_append]; omega), List.append_assoc]
theorem f83_v (R : Type) (long : Bool) : ∀ n : D1, wtN n ≤ 2097153 → Ev fun k => ∀ (K : List Int → Option R), f83 k n.c0 n.c1 n.c2 n.c3 long K = K (wrN long n) := by
  intro n
  refine D1.ind (P := fun n => wtN n ≤ 2097153 → Ev fun k => ∀ (K : List Int → Option R), f83 k n.c0 n.c1 n.c2 n.c3 long K = K (wrN long n)) (fun i d ks g ih hw => ?_) n
  rw [wtN] at hw
  have hkl := wrL_len long ks
  have h4 := f52_v R (n := 4) (by decide)
  have h8 := f52_v R (n := 8) (by decide)
  have e4 : ((4 : Nat) : Int) = 4 := rfl
  have e8 : ((8 : Nat) : Int) = 8 := rfl
  rw [e4] at h4
  rw [e8] at h8
  refine .suc ((f83_loop R long i d g ks (by omega) (fun j hj => ih _ (List.getElem_mem hj) (by have := wt_mem (List.getElem_mem hj); omega)) 0 (Nat.zero_le _)).diag.imp3 h4 h8 fun k hk h4 h8 K => ?_)
  show f83 (k + 1) i d ks g long K = _
  rw [f83_step, f83_s]
  have hk := fun X0 => hk [] X0 (by rw [List.drop_zero]; simp; omega)
  rw [List.drop_zero, List.nil_append] at hk
  rw [Int.natCast_zero] at hk
  have comm : ∀ (x : List Int) (c : Int), x.length ≤ 67108864 → 0 ≤ c → c ≤ 16 → IntKind.i64.wrap ((x.length : Int) + c) = c + (x.length : Int) := fun x c hx h0 h1 => by rw [wr (by omega)]; omega
  cases g with
  | true =>
    rw [cond_true, hk, wrN, if_pos rfl, boxB]
    cases long with
    | true =>
      rw [cond_true, h4, f58_v, roT (by simp [beB_len]), cond_true, h8, comm _ _ (by omega) (by omega) (by omega), roT (by simp [beB_len]), cond_true, roT (by simp [beB_len]; omega), cond_true]; rfl
    | false =>
      rw [cond_false, h4, f58_v, roT (by simp [beB_len]), cond_true, comm _ _ (by omega) (by omega) (by omega), roT (by simp [beB_len]; omega), cond_true]; rfl
  | false =>
    rw [cond_false, wrN, if_neg (by decide), boxB]
    cases long with
    | true =>
      rw [cond_true, h4, f58_v, roT (by simp [beB_len]), cond_true, h8, comm _ _ (by omega) (by omega) (by omega), roT (by simp [beB_len]), cond_true, roT (by simp [beB_len]; omega), cond_true]; rfl
    | false =>
      rw [cond_false, h4, f58_v, roT (by simp [beB_len]), cond_true, comm _ _ (by omega) (by omega) (by omega), roT (by simp [beB_len]; omega), cond_true]; rfl
/-- The last box runs to the end. -/
def endB : List D1 → List Int
  | [] => []
  | [x] => beB 4 0 ++ (wrN false x).drop 4
  | x :: y :: l => wrN false x ++ endB (y :: l)
theorem wrN_8 (long : Bool) (n : D1) : 8 ≤ (wrN long n).length := by
  cases n with
  | mk i d ks g => rw [wrN, boxB_len]; split <;> omega
theorem endB_app : ∀ (l : List D1) (x : D1), endB (l ++ [x]) = wrL false l ++ (beB 4 0 ++ (wrN false x).drop 4)
  | [], x => by rw [List.nil_append, endB, wrL, List.nil_append]
  | [y], x => by
    show endB (y :: x :: []) = _
    rw [endB, endB, wrL, wrL, List.append_nil]
  | y :: z :: l, x => by
    have ih := endB_app (z :: l) x
    show endB (y :: z :: (l ++ [x])) = _
    rw [endB, wrL, List.append_assoc, ← ih]; rfl
theorem wrL_app (long : Bool) : ∀ (l m : List D1), wrL long (l ++ m) = wrL long l ++ wrL long m
  | [], m => by rw [wrL]; rfl
  | x :: l, m => by rw [List.cons_append, wrL, wrL, wrL_app long l m, List.append_assoc]
theorem endB_len : ∀ l : List D1, (endB l).length = (wrL false l).length := by
  intro l
  rcases List.eq_nil_or_concat l with rfl | ⟨l, x, rfl⟩
  · rfl
  · have := wrN_8 false x
    rw [List.concat_eq_append, endB_app, wrL_app, wrL, wrL]
    simp [beB_len]; omega
theorem f66_loop (R : Type) (long : Bool) (l : List D1) (hb : wtL l ≤ 2097152) (h : ∀ i (h : i < l.length), Ev fun k => ∀ (K : List Int → Option R), f83 k l[i].c0 l[i].c1 l[i].c2 l[i].c3 long K = K (wrN long l[i])) :
    ∀ i, i ≤ l.length → Ev fun k => ∀ (out : List Int) (X0 : List Int → Option R), out.length + 16 * wtL (l.drop i) ≤ 67108864 → f66_l6 k l long false (i : Int) out X0 = X0 (out ++ wrL long (l.drop i)) := by
  have hl := wt_len l
  refine Ev.down l.length ?_ ?_
  · refine Ev.suc (.all fun k out X0 _ => ?_)
    rw [List.drop_length, wrL, f66_l6, ifF (by omega), List.append_nil]
  · intro i hi ih
    refine Ev.suc ((ih.and (h i hi)).imp fun k hk out X0 ho => ?_)
    obtain ⟨hk, hn⟩ := hk
    have hw := wt_mem (List.getElem_mem hi)
    have hn16 := wrN_len long l[i]
    rw [List.drop_eq_getElem_cons hi, wtL] at ho
    rw [List.drop_eq_getElem_cons hi, wrL, f66_l6, lt_nat, inb_nat, wrapSuc (by omega)]
    simp only [hi, decide_true, cond_true, cond_false, Int.toNat_natCast, getD_get hi, hn]
    rw [roT (by omega), cond_true, hk _ _ (by rw [List.length_append]; omega), List.append_assoc]
theorem f66_end (R : Type) (l : List D1) (hb : wtL l ≤ 2097152) (h : ∀ i (h : i < l.length), Ev fun k => ∀ (K : List Int → Option R), f83 k l[i].c0 l[i].c1 l[i].c2 l[i].c3 false K = K (wrN false l[i])) :
    ∀ i, i ≤ l.length → Ev fun k => ∀ (out : List Int) (X0 : List Int → Option R), out.length + 16 * wtL (l.drop i) ≤ 67108864 → f66_l6 k l false true (i : Int) out X0 = X0 (out ++ endB (l.drop i)) := by
  have hl := wt_len l
  refine Ev.down l.length ?_ ?_
  · refine Ev.suc (.all fun k out X0 _ => ?_)
    rw [List.drop_length, endB, f66_l6, ifF (by omega), List.append_nil]
  · intro i hi ih
    have h4 := f52_v R (n := 4) (by decide)
    have e4 : ((4 : Nat) : Int) = 4 := rfl
    rw [e4] at h4
    refine Ev.suc ((ih.and (h i hi)).imp2 h4 fun k hk h4 out X0 ho => ?_)
    obtain ⟨hk, hn⟩ := hk
    have hw := wt_mem (List.getElem_mem hi)
    have hn16 := wrN_len false l[i]
    have hn8 := wrN_8 false l[i]
    have wl : IntKind.i64.wrap ((l.length : Int) - 1) = (l.length : Int) - 1 := wr (by omega)
    rw [List.drop_eq_getElem_cons hi, wtL] at ho
    rw [List.drop_eq_getElem_cons hi, f66_l6, lt_nat, inb_nat, wrapSuc (by omega)]
    simp only [hi, decide_true, cond_true, Int.toNat_natCast, getD_get hi, hn, wl]
    by_cases c : i + 1 = l.length
    · have ed : l.drop (i + 1) = [] := by rw [c, List.drop_length]
      rw [beT (by omega), cond_true, h4, upT (by omega), cond_true, List.take_of_length_le (by simp), roT (by simp [beB_len]; omega), cond_true, roT (by simp [beB_len]; omega), cond_true, hk _ _ (by rw [ed, wtL]; simp [beB_len]; omega), ed, endB, endB, List.append_nil]
    · rw [beF (by omega), cond_false, roT (by omega), cond_true, hk _ _ (by rw [List.length_append]; omega)]
      rw [List.drop_eq_getElem_cons (i := i + 1) (by omega), endB, List.append_assoc]
theorem f66_v (R : Type) (long : Bool) (l : List D1) (h : OkL l) (hw : wtL l ≤ 2097152 / 2) : Ev fun k => ∀ (K : Int → List Int → Option R), f66 k l long false K = if chkR l ≠ 0 then K (chkR l) [] else if 1048576 < (wrL long l).length then K 2 [] else K 0 (wrL long l) := by
  have hc := cntL_wt l
  refine (f48_v R l h (by omega)).imp2 (f66_loop R long l (by omega) (fun i hi => f83_v R long _ (by have := wt_mem (List.getElem_mem hi); omega)) 0 (Nat.zero_le _)) fun k h48 hk K => ?_
  rw [f66, h48]
  by_cases c : chkR l = 0
  · rw [bnF c, cond_false, if_neg (fun h => h c)]
    refine (hk [] _ (by rw [List.drop_zero]; simp; omega)).trans ?_
    rw [List.drop_zero, List.nil_append]
    by_cases c2 : 1048576 < (wrL long l).length
    · rw [if_pos c2, deT (by omega)]; rfl
    · rw [if_neg c2, deF (by omega)]; rfl
  · rw [bnT c, cond_true, if_pos c]
theorem f46_v (R : Type) (l : List D1) (h : OkL l) (hw : wtL l ≤ 2097152 / 2) : Ev fun k => ∀ (K : Int → List Int → Option R), f46 k l K = if chkR l ≠ 0 then K (chkR l) [] else if 1048576 < (wrL false l).length then K 2 [] else K 0 (endB l) := by
  have hc := cntL_wt l
  have he := endB_len l
  refine (f48_v R l h (by omega)).imp2 (f66_end R l (by omega) (fun i hi => f83_v R false _ (by have := wt_mem (List.getElem_mem hi); omega)) 0 (Nat.zero_le _)) fun k h48 hk K => ?_
  rw [f46, f66, h48]
  by_cases c : chkR l = 0
  · rw [bnF c, cond_false, if_neg (fun h => h c)]
    refine (hk [] _ (by rw [List.drop_zero]; simp; omega)).trans ?_
    rw [List.drop_zero, List.nil_append]
    by_cases c2 : 1048576 < (wrL false l).length
    · rw [if_pos c2, deT (by omega)]; rfl
    · rw [if_neg c2, deF (by omega)]; rfl
  · rw [bnT c, cond_true, if_pos c]
theorem chk_own1 {l : List D1} (h : chkR l = 0) : flL own1 [] 1 l = false ∧ flL own2 [] 1 l = false ∧ flL own3 [] 1 l = false ∧ flL own4 [] 1 l = false ∧ cntL l ≤ 4000 := by
  unfold chkR at h
  split at h
  · simp at h
  · split at h
    · simp at h
    · split at h
      · simp at h
      · split at h
        · simp at h
        · split at h
          · simp at h
          · rename_i a b c d e
            exact ⟨Bool.eq_false_iff.2 a, Bool.eq_false_iff.2 b, Bool.eq_false_iff.2 c, Bool.eq_false_iff.2 d, by omega⟩
theorem f65_v (R : Type) (long : Bool) (l : List D1) (h : OkL l) (hw : wtL l ≤ 2097152 / 2) : Ev fun k => ∀ (K : Int → List Int → Option R), f65 k l long K = if chkR l ≠ 0 then K (chkR l) [] else if 1048576 < (wrL long l).length then K 2 [] else K 0 (wrL long l) := by
  by_cases c : chkR l = 0
  · refine (f47_v R l h).imp2 (f82_v R long l (by omega) (chk_own1 c).1) fun k h47 h82 K => ?_
    rw [f65, h47, bnF c, cond_false, h82, if_neg (fun h => h c)]
    by_cases c2 : 1048576 < (wrL long l).length
    · rw [if_pos c2, deT (by omega)]; rfl
    · rw [if_neg c2, deF (by omega)]; rfl
  · refine (f47_v R l h).imp fun k h47 K => ?_
    rw [f65, h47, bnT c, cond_true, if_pos c]
theorem size_wr : ∀ n : D1, wtN n ≤ 2097152 → sizeN n = ((wrN false n).length : Int) := by
  intro n
  refine D1.rec (motive_1 := fun n => wtN n ≤ 2097152 → sizeN n = ((wrN false n).length : Int)) (motive_2 := fun l => ∀ c : Int, 0 ≤ c → wtL l ≤ 2097152 → c + 16 * wtL l ≤ 134217728 → sizeK l c = c + ((wrL false l).length : Int)) ?_ ?_ ?_ n
  · intro i d ks g ih hw
    rw [wtN] at hw
    rw [sizeN, wrN, boxB_len]
    cases g with
    | true => rw [if_pos rfl, if_pos rfl, ih 8 (by omega) (by omega) (by omega), if_neg (by decide)]; omega
    | false => rw [if_neg (by decide), if_neg (by decide), wr (by omega), if_neg (by decide)]; omega
  · intro c h0 _ _; rw [sizeK, wrL]; simp
  · intro x l h1 h2 c h0 hw hc
    rw [wtL] at hw hc
    have hx := wrN_len false x
    rw [sizeK, wrL, h1 (by omega), wr (by omega), h2 _ (by omega) (by omega) (by omega), List.length_append]; omega
theorem f45_v (R : Type) (l : List D1) (h : OkL l) (hw : wtL l ≤ 2097152 / 2) : Ev fun k => ∀ (K : Int → List Int → Option R), f45 k l K = if chkR l ≠ 0 then K (chkR l) [] else if 1048576 < (wrL false l).length then K 2 [] else K 0 (endB l) := by
  rcases List.eq_nil_or_concat l with rfl | ⟨m, x, rfl⟩
  · refine (f65_v R false [] h hw).imp fun k h65 K => ?_
    rw [f45, h65]
    rfl
  · rw [List.concat_eq_append] at h hw ⊢
    have hx : OkN x := h.2 x (by simp)
    have hwx : wtN x ≤ wtL (m ++ [x]) := wt_mem (by simp)
    have hml := wt_len (m ++ [x])
    refine (f65_v R false (m ++ [x]) h hw).imp2 (f21_v R x hx) fun k h65 h21 K => ?_
    rw [f45, h65]
    by_cases c : chkR (m ++ [x]) = 0
    · by_cases c2 : 1048576 < (wrL false (m ++ [x])).length
      · rw [if_neg (fun h => h c), if_pos c2, if_neg (fun h => h c), if_pos c2]; rfl
      · rw [if_neg (fun h => h c), if_neg c2, if_neg (fun h => h c), if_neg c2]
        have el : IntKind.i64.wrap (((m ++ [x]).length : Int) - 1) = (m.length : Int) := by rw [wr (by omega)]; simp
        have eg : (m ++ [x]).getD m.length zero1 = x := by simp
        have h8 := wrN_8 false x
        have ew : wrL false (m ++ [x]) = wrL false m ++ wrN false x := by rw [wrL_app, wrL, wrL, List.append_nil]
        have es : IntKind.i64.wrap (((wrL false (m ++ [x])).length : Int) - sizeN x) = ((wrL false m).length : Int) := by
          rw [size_wr x (by omega), ew, List.length_append, wr (by rw [ew, List.length_append] at c2; omega)]; omega
        rw [bnF rfl, cond_false, beF (by simp; omega), cond_false, el, inT (by simp; omega), cond_true, Int.toNat_natCast, eg, h21, es, Int.toNat_natCast, upT (by rw [ew, List.length_append]; omega), cond_true, show (4 : Int) = ((4 : Nat) : Int) from rfl, upT (by rw [ew, List.length_append]; omega), cond_true, endB_app, ew]
        congr 1
        rw [List.take_left, List.append_assoc]
        congr 2
        rw [List.drop_append]
        simp
    · rw [if_pos c, if_pos c, bnT c, cond_true]
theorem boxWrites_plain (l : List D1) (h : OkL l) (hw : wtL l ≤ 2097152 / 2) : ∃ k, f12 (R := Bool) k l some = some true := by
  have h65 := (f65_v Bool false l h hw).and (f65_v Bool true l h hw)
  have h66 := (f66_v Bool false l h hw).and (f66_v Bool true l h hw)
  have h4 := (f45_v Bool l h hw).and (f46_v Bool l h hw)
  have hc := (f47_v Bool l h).and (f48_v Bool l h (by have := cntL_wt l; omega))
  have l1 := wrL_len false l
  have l2 := wrL_len true l
  have l3 := endB_len l
  -- the outcomes
  have form : ∀ (o b : List Int) (K : Int → List Int → Option Bool), (if chkR l ≠ 0 then K (chkR l) [] else if 1048576 < o.length then K 2 [] else K 0 b) = K (if chkR l ≠ 0 then chkR l else if 1048576 < o.length then 2 else 0) (if chkR l ≠ 0 then [] else if 1048576 < o.length then [] else b) := by
    intro o b K
    split
    · rfl
    · split <;> rfl
  have small : ∀ (o b : List Int), b.length ≤ 140737488355328 → (if chkR l ≠ 0 then [] else if 1048576 < o.length then [] else b : List Int).length ≤ 140737488355328 := by
    intro o b hb
    split
    · simp
    · split
      · simp
      · exact hb
  have e1 := f25_v Bool (if chkR l ≠ 0 then [] else if 1048576 < (wrL false l).length then [] else (wrL false l)) (if chkR l ≠ 0 then [] else if 1048576 < (wrL false l).length then [] else (wrL false l)) (small (wrL false l) (wrL false l) (by omega))
  have e2 := f25_v Bool (if chkR l ≠ 0 then [] else if 1048576 < (wrL true l).length then [] else (wrL true l)) (if chkR l ≠ 0 then [] else if 1048576 < (wrL true l).length then [] else (wrL true l)) (small (wrL true l) (wrL true l) (by omega))
  have e3 := f25_v Bool (if chkR l ≠ 0 then [] else if 1048576 < (wrL false l).length then [] else (endB l)) (if chkR l ≠ 0 then [] else if 1048576 < (wrL false l).length then [] else (endB l)) (small (wrL false l) (endB l) (by omega))
  refine ((h65.imp4 h66 h4 hc fun k a b c d => (⟨a, b, c, d⟩ : _ ∧ _ ∧ _ ∧ _)).imp3 (e1.imp3 e2 e3 fun k b c d => (⟨b, c, d⟩ : _ ∧ _ ∧ _)) (awake_v Bool) fun k a b h20 => ?_ : Ev fun k => f12 (R := Bool) k l some = some true).some
  obtain ⟨⟨a1, a2⟩, ⟨a3, a4⟩, ⟨a5, a6⟩, a7, a8⟩ := a
  obtain ⟨b1, b2, b3⟩ := b
  have a1 := fun K => (a1 K).trans (form _ _ K)
  have a2 := fun K => (a2 K).trans (form _ _ K)
  have a3 := fun K => (a3 K).trans (form _ _ K)
  have a4 := fun K => (a4 K).trans (form _ _ K)
  have a5 := fun K => (a5 K).trans (form _ _ K)
  have a6 := fun K => (a6 K).trans (form _ _ K)
  rw [f12, f41, a1, f43, a3, f42, a2, f44, a4, a5, a6]
  rw [b1, deT rfl, Bool.not_true, cond_false, bnF rfl, cond_false, b2, deT rfl, Bool.not_true, cond_false, bnF rfl, cond_false, b3, deT rfl, Bool.not_true, cond_false, cond_false, a7, a8, beT rfl, cond_true, h20]
theorem ownKn : ownKnob Tryd.prog.godebug = none := by kernel_rfl
theorem laidOut : laidOutB Tryd.prog = true := by kernel_rfl
noncomputable def naming : Naming cx where
  flds := flds
  toT := toT
  ofT := ofT
  plain := fun r => match r with
    | 0 => rfl
    | 1 => rfl
    | 2 => rfl
    | 3 => rfl
    | 4 => rfl
    | 5 => rfl
    | 6 => rfl
    | _n + 7 => rfl
  to_of := fun r x => match r, x with
    | 0, _ => rfl
    | 1, _ => rfl
    | 2, _ => rfl
    | 3, _ => rfl
    | 4, _ => rfl
    | 5, _ => rfl
    | 6, _ => rfl
    | _n + 7, _ => rfl
  deep := fun r v => match r, v with
    | 0, _ => rfl
    | 1, v => deep1_eq v
    | 2, _ => rfl
    | 3, _ => rfl
    | 4, _ => rfl
    | 5, _ => rfl
    | 6, _ => rfl
    | _n + 7, _ => rfl
theorem fit : Fit naming Tryd.prog := fit_of (tab := tab) rfl (by kernel_rfl)
theorem wf_bytes {z : Nat} {l : List Int} (h : WfIV (.list z (l.map fun y => [.int .u8 y]))) : l.length ≤ reachBytes ∧ ∀ n ∈ l, 0 ≤ n ∧ n < 256 := by
  cases h with
  | list h1 h2 _ =>
    refine ⟨by simpa using h1, fun n hn => ?_⟩
    have := h2 _ (List.mem_map.2 ⟨n, hn, rfl⟩) _ (List.mem_singleton.2 rfl)
    cases this with
    | int h3 => simp [Lit.wf, IntKind.min, IntKind.max, IntKind.signed, IntKind.bits] at h3; omega
theorem wf_int {n : Int} (h : WfIV (.int .i64 n)) : -9223372036854775808 ≤ n ∧ n < 9223372036854775808 := by
  cases h with
  | int h3 => simp [Lit.wf, IntKind.min, IntKind.max, IntKind.signed, IntKind.bits] at h3; omega
theorem gErr : Tryd.prog.globalNamed "errors.errorType" = some 0 := by kernel_rfl
theorem gTab : Tryd.prog.globalNamed "strings.asciiSpace" = some 1 := by kernel_rfl
theorem gTabType : (Tryd.prog.globals[1]?).map (·.type) = some 145 := by kernel_rfl
theorem cells145 : Tryd.prog.cellsOf 145 = 256 := by kernel_rfl
theorem cells5 : Tryd.prog.cellsOf 5 = 1 := by kernel_rfl
theorem rt149 : (Tryd.prog.cutTypes.find? (·.1 == "internal/reflectlite.rtype")).map (·.2) = some 149 := by kernel_rfl
theorem oneRow : ((List.range 209).filter fun t => Tryd.prog.rowNamed t [101, 114, 114, 111, 114]) = [108] := by kernel_rfl
theorem nTypes : Tryd.prog.types.size = 209 := by kernel_rfl
def laidL : List (String × DataW Unit) := [("errors.errorType", Rows.laid_errors_errorType), ("unicode.White_Space", Rows.laid_unicode_White_Space), ("strings.asciiSpace", Rows.laid_strings_asciiSpace)]
theorem tabData_eq : (Rows.laid_strings_asciiSpace : DataW Unit) = Lib.tabData .u8 asciiTab := by kernel_rfl
theorem laid_parts {W : World} (h : laidMetH Tryd.prog laidL W) : laidMet Tryd.prog [("unicode.White_Space", Rows.laid_unicode_White_Space), ("strings.asciiSpace", Rows.laid_strings_asciiSpace)] W ∧ handlesMet Tryd.prog [("errors.errorType", Rows.laid_errors_errorType)] W := h
theorem handle_of_laid {W : World} (h : laidMetH Tryd.prog laidL W) : W.cell? ⟨0, 0, none⟩ = some (.iface 149 (.agg #[.pointer (some ⟨4, 108, none⟩)])) := by
  obtain ⟨name, u, ty, e1, e2, e3, e4, e5⟩ := (laid_parts h).2 _ (List.mem_singleton.2 rfl)
  have en : name = [101, 114, 114, 111, 114] := (Option.some.inj e1).symm
  subst en
  obtain rfl := Option.some.inj (rt149.symm.trans e2)
  have hm : ty ∈ (List.range 209).filter fun t => Tryd.prog.rowNamed t [101, 114, 114, 111, 114] := List.mem_filter.2 ⟨List.mem_range.2 (by rw [← nTypes]; exact e3), e4⟩
  rw [oneRow] at hm
  obtain rfl := List.mem_singleton.1 hm
  have hh : typeHandle Tryd.prog 108 = .pointer (some ⟨4, 108, none⟩) := by kernel_rfl
  rw [hh] at e5
  simpa using World.var?_cell gErr e5 0
theorem tab_of_laid {W : World} (h : laidMetH Tryd.prog laidL W) : Lib.TabIs Tryd.prog W "strings.asciiSpace" .u8 asciiTab := by
  obtain ⟨ps, ⟨g', t', cs, fuel, p, q, hg', ht', hvar, hd, ⟨g2, t2, cs2, fuel2, p2, q2, hg2, ht2, hvar2, hd2, _, _⟩, _⟩, _⟩ := (laid_parts h).1
  obtain rfl := Option.some.inj (gTab.symm.trans hg2)
  obtain rfl := Option.some.inj (gTabType.symm.trans ht2)
  unfold Lib.TabIs
  rw [tabData_eq] at hd2
  rw [hvar2, ← Lib.cells_of_tab Tryd.underlying145 Tryd.underlying5 cells5 cells145 hd2]
theorem ginv {W : World} (h : laidMetH Tryd.prog laidL W) : GInv cx (fun b => b < W.heap.size) W := by
  have hh := handle_of_laid h
  have ht := tab_of_laid h
  have hcell : ∀ i, i < 256 → W.cell? ⟨1, i, none⟩ = some (.int .u8 (asciiTab.getD i 0)) := fun i hi => ht.cell gTab i hi
  have lt : ∀ (b : Nat) (v : Value), W.cell? ⟨b, 0, none⟩ = some v → b < W.heap.size := by
    intro b v hv
    by_cases hb : b < W.heap.size
    · exact hb
    · have h0 : W.heap[b]? = none := Array.getElem?_eq_none (by omega)
      simp [World.cell?, h0] at hv
  refine ⟨fun g => ?_, fun p hp => ?_⟩
  · by_cases hg : g = 1
    · subst hg
      refine ⟨rfl, ?_⟩
      show PRep cx _ _ _ W (.lelem (.int .u8) asciiTab 0 0) _
      have hl : asciiTab.length = 256 := rfl
      refine ⟨by rw [hl]; omega, ⟨1, 0, none⟩, 256, ?_, rfl⟩
      have hm : (asciiTab.map (deep cx (.int .u8))).length = 256 := by rw [List.length_map, hl]
      have : Rep (fun b => b < W.heap.size) W (.slice (some ⟨1, 0, none⟩) (asciiTab.map (deep cx (.int .u8))).length 256) (.list 1 (asciiTab.map (deep cx (.int .u8)))) := by
        refine .list (fun i j => .int .u8 (asciiTab.getD i 0)) (by rw [hm]; exact Nat.le_refl _) (fun _ => lt 1 _ (hcell 0 (by omega))) (fun i l j x h1 h2 => ?_) (fun i l j x h1 h2 => ?_)
        · have hi : i < 256 := by have := (List.getElem?_eq_some_iff.1 h1).1; omega
          have hj : j = 0 := by
            simp only [List.getElem?_map, Option.map_eq_some_iff] at h1
            obtain ⟨y, _, rfl⟩ := h1
            have := (List.getElem?_eq_some_iff.1 h2).1
            simp [deep] at this; exact this
          subst hj
          have e : (⟨1, 0, none⟩ : Addr).add (i * 1 + 0) = ⟨1, i, none⟩ := by rw [add_at]; simp
          rw [e]; exact hcell i hi
        · have hi : i < asciiTab.length := by have := (List.getElem?_eq_some_iff.1 h1).1; rw [hl]; omega
          simp only [List.getElem?_map, Option.map_eq_some_iff] at h1
          obtain ⟨y, hy, rfl⟩ := h1
          have hj : j = 0 := by
            have := (List.getElem?_eq_some_iff.1 h2).1
            simp [deep] at this; exact this
          subst hj
          simp [deep] at h2
          subst h2
          have : asciiTab.getD i 0 = y := by simp [List.getD, hy]
          rw [this]; exact .int
      rw [hm] at this
      exact this
    · have e : cx.gv g = .undef := by
        show gvs g = _
        have : Nat.beq g 1 = false := by rw [Bool.eq_false_iff]; intro hb; exact hg (Nat.eq_of_beq_eq_true hb)
        simp [gvs, this]
      rw [e]; exact ⟨rfl, trivial⟩
  · have hp : p ∈ gcs := hp
    simp only [gcs, List.mem_singleton] at hp
    subst hp
    exact ⟨lt 0 _ hh, hh⟩
/-- A world in which they lie so. -/
noncomputable def laidWorld (os : Os) : World :=
  { World.holding Tryd.prog os ⟨#[], #[], []⟩ with heap := (((((World.holding Tryd.prog os ⟨#[], #[], []⟩).heap.modify 0 fun
      | .cells _ t frozen => .cells #[.iface 149 (.agg #[.pointer (some ⟨4, 108, none⟩)])] t frozen
      | o => o).modify 1 fun
      | .cells _ t frozen => .cells (asciiTab.map fun n => Value.int .u8 n).toArray t frozen
      | o => o).modify 2 fun
      | .cells _ t frozen => .cells #[.pointer (some ⟨9, 0, none⟩)] t frozen
      | o => o).push (.cells #[.slice (some ⟨10, 0, none⟩) 7 7, .slice none 0 0, .int .i64 2] 171)).push (.cells (([9, 13, 1, 32, 133, 101, 160, 5760, 5600, 8192, 8202, 1, 8232, 8233, 1, 8239, 8287, 48, 12288, 12288, 1] : List Int).map fun n => Value.int .u16 n).toArray 174) }
theorem deep1_mk (i : Int) (d : List Int) (ks : List D1) (g : Bool) : deep1 (.mk i d ks g) = [.int .i64 i, .list 1 (d.map fun y => [.int .u8 y]), .list 4 (deep1s ks), .bool g] := by rw [deep1]; rfl
theorem okL_wf {ks : List D1} (h : WfIV (.list 4 (deep1s ks))) (ih : ∀ x ∈ ks, (∀ iv ∈ deep1 x, WfIV iv) → OkN x) : OkL ks := by
  rw [deep1s_map] at h
  cases h with
  | list h1 h2 h3 =>
    refine ⟨?_, fun x hx => ih x hx (h2 _ (List.mem_map.2 ⟨x, hx, rfl⟩))⟩
    cases ks with
    | nil => simp
    | cons x ks =>
      have h4 := h3 (deep1 x) (by simp)
      obtain ⟨i, d, k, g⟩ := x
      rw [deep1_mk] at h4
      have e : lay (List.map cellB [IV.int IntKind.i64 i, IV.list 1 (d.map fun y => [.int .u8 y]), IV.list 4 (deep1s k), IV.bool g]) = 64 := by kernel_rfl
      rw [List.length_map, e] at h4
      exact h4
theorem okN_wf (n : D1) : (∀ iv ∈ deep1 n, WfIV iv) → OkN n := by
  refine D1.ind (P := fun n => (∀ iv ∈ deep1 n, WfIV iv) → OkN n) (fun i d ks g ih h => ?_) n
  rw [deep1_mk] at h
  have hd := wf_bytes (h (.list 1 (d.map fun y => [.int .u8 y])) (by simp))
  have hk := okL_wf (h (.list 4 (deep1s ks)) (by simp)) ih
  exact .mk (wf_int (h (.int .i64 i) (by simp))) hd.2 hd.1 hk.1 hk.2
theorem okL_arg {l : List D1} (h : ∀ iv ∈ deep cx (.slice (.named 1)) l, WfIV iv) : OkL l := by
  refine okL_wf (ks := l) ?_ fun x _ => okN_wf x
  have := h _ (List.mem_singleton.2 rfl)
  rw [deep1s_map]; exact this
mutual
theorem bulkD_eq {H : Type} : ∀ d : DataW H, bulkD d = Rows.uptoBulk d
  | .lit (.string _) => by rw [bulkD, Rows.uptoBulk]
  | .lit (.bool _) => by rw [bulkD, Rows.uptoBulk] <;> simp
  | .lit (.int _ _) => by rw [bulkD, Rows.uptoBulk] <;> simp
  | .lit (.float _ _) => by rw [bulkD, Rows.uptoBulk] <;> simp
  | .lit .nil => by rw [bulkD, Rows.uptoBulk] <;> simp
  | .nil => by rw [bulkD, Rows.uptoBulk]
  | .ptr d => by rw [bulkD, Rows.uptoBulk, bulkD_eq d]
  | .slice e s => by rw [bulkD, Rows.uptoBulk, bulkA_eq e, bulkA_eq s]
  | .agg p => by rw [bulkD, Rows.uptoBulk, bulkA_eq p]
  | .iface _ d => by rw [bulkD, Rows.uptoBulk, bulkD_eq d]
  | .map e => by rw [bulkD, Rows.uptoBulk, bulkEs_eq e]
  | .held _ => by rw [bulkD, Rows.uptoBulk]
theorem bulkA_eq {H : Type} : ∀ l : List (DataW H), bulkA l = Rows.uptoBulkAll l
  | [] => by rw [bulkA, Rows.uptoBulkAll]
  | d :: r => by rw [bulkA, Rows.uptoBulkAll, bulkD_eq d, bulkA_eq r]
theorem bulkEs_eq {H : Type} : ∀ l : List (Lit × DataW H), bulkEs l = Rows.uptoBulkEntries l
  | [] => by rw [bulkEs, Rows.uptoBulkEntries]
  | x :: r => by rw [bulkEs, Rows.uptoBulkEntries, bulkE_eq x, bulkEs_eq r]
theorem bulkE_eq {H : Type} : ∀ x : Lit × DataW H, bulkE x = Rows.uptoBulkEntry x
  | (.string _, d) => by rw [bulkE, Rows.uptoBulkEntry, bulkD_eq d]
  | (.bool _, d) => by rw [bulkE, Rows.uptoBulkEntry, bulkD_eq d] <;> simp
  | (.int _ _, d) => by rw [bulkE, Rows.uptoBulkEntry, bulkD_eq d] <;> simp
  | (.float _ _, d) => by rw [bulkE, Rows.uptoBulkEntry, bulkD_eq d] <;> simp
  | (.nil, d) => by rw [bulkE, Rows.uptoBulkEntry, bulkD_eq d] <;> simp
end
theorem small_bulk (H : Type) (ds : List (DataW H)) (h : Rows.uptoSmall H ds = true) : bulkA ds ≤ 1048576 := by
  rw [bulkA_eq]; exact of_decide_eq_true h
theorem bulk_bytes : ∀ d : List Int, ivBB (d.map fun y => [IV.int .u8 y]) = d.length
  | [] => by rw [List.map_nil, ivBB]; rfl
  | x :: d => by rw [List.map_cons, ivBB, bulk_bytes d, ivBL, ivBL, ivB, List.length_cons]; omega
theorem wt_bulk (n : D1) : wtN n ≤ ivBL (deep1 n) := by
  refine D1.ind (P := fun n => wtN n ≤ ivBL (deep1 n)) (fun i d ks g ih => ?_) n
  have : ∀ l : List D1, (∀ x ∈ l, wtN x ≤ ivBL (deep1 x)) → wtL l ≤ ivBB (l.map deep1) := by
    intro l
    induction l with
    | nil => intro _; rw [wtL]; omega
    | cons x l ih =>
      intro h
      have h1 := h x (by simp)
      have h2 := ih fun y hy => h y (by simp [hy])
      rw [List.map_cons, ivBB, wtL]; omega
  have h := this ks ih
  rw [deep1_mk, wtN, deep1s_map]
  simp only [ivBL, ivB, bulk_bytes]
  omega
theorem wtL_bulk : ∀ l : List D1, wtL l ≤ ivBB (l.map deep1)
  | [] => by rw [wtL]; omega
  | x :: l => by
    have h1 := wt_bulk x
    have h2 := wtL_bulk l
    rw [List.map_cons, ivBB, wtL]; omega
theorem wtL_arg (l : List D1) : wtL l ≤ ivBL (deep cx (.slice (.named 1)) l) := by
  have h := wtL_bulk l
  have e : ivBL (deep cx (.slice (.named 1)) l) = ivBB (l.map deep1) + 1 := by
    show ivBL [.list _ (l.map fun x => deep1 x)] = _
    rw [ivBL, ivBL, ivB]
  omega
end Go.Proofs.YtehmahdngjdhpaaDoor
