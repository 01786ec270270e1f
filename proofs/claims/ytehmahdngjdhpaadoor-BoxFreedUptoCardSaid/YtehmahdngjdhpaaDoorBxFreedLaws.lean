/- Proved: the plain laws of BoxFreed; conditions: none. -/
import Derived.Test.YtehmahdngjdhpaaDoorBxWalk2
import Derived.Test.YtehmahdngjdhpaaDoorRows
import Derived.Test.YtehmahdngjdhpaaDoorCards
import Derived.Test.YtehmahdngjdhpaaDoorTie
import Derived.JoinedOf
import Derived.Lib.LaidTab
import Derived.LaidLaws
import Derived.LaidHandle
import Derived.Stop.Joined

set_option maxRecDepth 100000
namespace Go.Proofs.YtehmahdngjdhpaaDoor
open Go Go.Am
theorem awake_v (R : Type) : Ev fun k => ∀ (K : Bool → Option R), f20 k K = K true := by
  refine .plus 40 (.all fun k K => ?_)
  kernel_rfl
theorem D1.ind {P : D1 → Prop} (h : ∀ i d ks g, (∀ x ∈ ks, P x) → P (.mk i d ks g)) : ∀ n, P n := by
  intro n
  refine D1.rec (motive_1 := P) (motive_2 := fun l => ∀ x ∈ l, P x) (fun i d ks g ih => h i d ks g ih) (by simp) (fun a l ha hl => ?_) n
  intro x hx
  rcases List.mem_cons.1 hx with rfl | hx
  · exact ha
  · exact hl x hx
/-- A tree as it lies in memory. -/
inductive OkN : D1 → Prop
  | mk {i : Int} {d : List Int} {ks : List D1} {g : Bool} : -9223372036854775808 ≤ i ∧ i < 9223372036854775808 → okBy d → d.length ≤ reachBytes → ks.length * 64 ≤ reachBytes → (∀ x ∈ ks, OkN x) → OkN (.mk i d ks g)
def OkL (l : List D1) : Prop := l.length * 64 ≤ reachBytes ∧ ∀ x ∈ l, OkN x
theorem OkN.id {n : D1} (h : OkN n) : -9223372036854775808 ≤ n.c0 ∧ n.c0 < 9223372036854775808 := by cases h; assumption
theorem OkN.by {n : D1} (h : OkN n) : okBy n.c1 := by cases h; assumption
theorem OkN.len {n : D1} (h : OkN n) : n.c1.length ≤ reachBytes := by cases h; assumption
theorem OkN.kids {n : D1} (h : OkN n) : OkL n.c2 := by cases h; exact ⟨by assumption, by assumption⟩
theorem f79_loop (R : Type) (l : List Int) (hl : okBy l) (h8 : l.length ≤ 8) : ∀ i, i ≤ l.length → Ev fun k => ∀ (v : Int) (X : Int → Option R), 0 ≤ v → v < 256 ^ i → f79_l7 k v l (l.length : Int) (i : Int) X = X (valF (l.drop i) v) := by
  refine Ev.down l.length ?_ ?_
  · exact Ev.suc (.all fun k v X _ _ => by simp [f79_l7, valF])
  · intro i hi h
    refine Ev.suc (h.imp fun k hk v X h0 h1 => ?_)
    have hc := hl.get hi
    have hp : (256 : Int) ^ i ≤ 72057594037927936 := by
      have h2 : (256 : Nat) ^ i ≤ 72057594037927936 := Nat.le_trans (Nat.pow_le_pow_right (by decide) (show i ≤ 7 by omega)) (by decide)
      have e : ((256 ^ i : Nat) : Int) = (256 : Int) ^ i := Int.natCast_pow 256 i
      omega
    have ho := or_byteU h0 (by omega) hc.1 hc.2
    rw [f79_l7, lt_nat, inb_nat, wrapSuc (by omega)]
    simp only [hi, decide_true, cond_true, Int.toNat_natCast, getD_get hi, ho]
    have hv : v * 256 + l[i] < 256 ^ (i + 1) := by
      rw [Int.pow_succ]; omega
    rw [hk _ X (by omega) hv, List.drop_eq_getElem_cons hi, valF_cons]
/-- The number of the first bytes; one too great counts as the greatest. -/
def num (b : List Int) (n : Nat) : Int := if 9223372036854775807 < valF (b.take n) 0 then 9223372036854775807 else valF (b.take n) 0
theorem val_bound {b : List Int} (hb : okBy b) {n : Nat} (h : n ≤ b.length) : 0 ≤ valF (b.take n) 0 ∧ valF (b.take n) 0 < 256 ^ n := by
  have := valF_bound (hb.take n) 0
  have e : (b.take n).length = n := by simp; omega
  rw [e] at this
  omega
theorem num_small {b : List Int} (hb : okBy b) {n : Nat} (h : n ≤ b.length) (h7 : n ≤ 7) : num b n = valF (b.take n) 0 := by
  have := (val_bound hb h).2
  have h2 : (256 : Nat) ^ n ≤ 72057594037927936 := Nat.le_trans (Nat.pow_le_pow_right (by decide) h7) (by decide)
  have e : ((256 ^ n : Nat) : Int) = (256 : Int) ^ n := Int.natCast_pow 256 n
  unfold num
  rw [if_neg (by omega)]
theorem f54_v (R : Type) (b : List Int) (hb : okBy b) (hl : b.length ≤ 140737488355328) {n : Nat} (h1 : 1 ≤ n) (h8 : n ≤ 8) (h : n ≤ b.length) : Ev fun k => ∀ (K : Int → Option R), f54 k b (n : Int) K = K (num b n) := by
  have el : (b.take n).length = n := by simp; omega
  refine (f79_loop R (b.take n) (hb.take n) (by omega) 0 (by omega)).imp fun k hk K => ?_
  have t1 : decide ((n : Int) < 1) = false := decide_eq_false (by omega)
  have t2 : decide ((n : Int) > 8) = false := decide_eq_false (by omega)
  have t4 : decide ((0 : Int) > (b.length : Int)) = false := decide_eq_false (by omega)
  have w1 : IntKind.i64.wrap ((b.length : Int) - 0) = (b.length : Int) := by rw [wrap64 (by omega) (by omega)]; omega
  have w2 : IntKind.i64.wrap ((0 : Int) + (n : Int)) = (n : Int) := by rw [wrap64 (by omega) (by omega)]; omega
  have t5 : decide ((b.length : Int) < (n : Int)) = false := decide_eq_false (by omega)
  have t7 : decide ((0 : Int) ≤ (n : Int)) = true := decide_eq_true (by omega)
  simp only [Int.natCast_zero, List.drop_zero] at hk
  simp only [f54, f79, t1, t2, t4, w1, w2, t5, t7, cond_false, upto_nat, h, decide_true, Bool.and_self, cond_true, Int.toNat_natCast, Int.toNat_zero, List.drop_zero, Int.lt_irrefl, decide_false]
  rw [hk 0 _ (by omega) (by decide)]
  have hbd := val_bound hb h
  unfold num
  by_cases hx : 9223372036854775807 < valF (b.take n) 0
  · rw [if_pos hx, decide_eq_true (show valF (b.take n) 0 > 9223372036854775807 from hx)]; rfl
  · rw [if_neg hx, decide_eq_false (show ¬ valF (b.take n) 0 > 9223372036854775807 from hx), wrap64 (by omega) (by omega)]; rfl
theorem f96_loop (R : Type) : ∀ n, n ≤ 1000 → Ev fun k => ∀ (w : Int) (out : List Int) (X : List Int → Option R), n ≤ out.length → f96_l3 k w ((n : Int) - 1) out X = X (beB n w ++ out.drop n)
  | 0, _ => .suc (.all fun k w out X _ => by
    rw [f96_l3, deF (by omega)]; simp [beB])
  | n + 1, hn => by
    refine .suc ((f96_loop R n (by omega)).imp fun k hk w out X ho => ?_)
    have e : ((n + 1 : Nat) : Int) - 1 = (n : Int) := by omega
    rw [e, f96_l3, inb_nat, wr (by omega), wrapU8, shr8]
    simp only [deT (show (n : Int) ≥ 0 by omega), show n < out.length by omega, decide_true, cond_true, Int.toNat_natCast]
    rw [hk _ _ X (by simp; omega), set_drop (by omega), beB, List.append_assoc]; rfl
theorem f96_v (R : Type) {n : Nat} (hn : n ≤ 1000) : Ev fun k => ∀ (w : Int) (K : List Int → Option R), f96 k w (n : Int) K = K (beB n w) :=
  (f96_loop R n hn).imp fun k hk w K => by
    simp only [f96, mk_ok (show n ≤ 140737488355328 by omega), cond_true, Int.toNat_natCast]
    rw [wr (by omega), hk w _ K (by simp)]; simp
theorem shr_pos (v : Int) (h : 0 ≤ v) (n : Nat) (h1 : 1 ≤ n) (h7 : n ≤ 7) (hv : v < 256 ^ n) : decide (IntKind.i64.wrap (8 * (n : Int)) < 0) = false ∧ decide (shrI .i64 v (IntKind.i64.wrap (8 * (n : Int))) > 0) = false := by
  rw [wr (by omega)]
  refine ⟨decide_eq_false (by omega), decide_eq_false ?_⟩
  unfold shrI
  have e1 : min (8 * (n : Int)).toNat IntKind.i64.bits = 8 * n := by
    have : IntKind.i64.bits = 64 := rfl
    omega
  rw [e1, Int.fdiv_eq_ediv_of_nonneg _ (by exact Int.le_of_lt (Int.pow_pos (by decide)))]
  have e2 : (2 : Int) ^ (8 * n) = 256 ^ n := by rw [Int.pow_mul]; rfl
  rw [e2, Int.ediv_eq_zero_of_lt h hv]
  decide
theorem f80_v (R : Type) {n : Nat} (h1 : 1 ≤ n) (h8 : n ≤ 8) : Ev fun k => ∀ (v : Int) (K : Int → List Int → Option R), 0 ≤ v → v < 9223372036854775808 → v < 256 ^ n → f80 k v (n : Int) K = K 0 (beB n v) := by
  refine (f96_v R (show n ≤ 1000 by omega)).imp fun k hk v K h0 hv hn => ?_
  have t1 : decide ((n : Int) < 1) = false := decide_eq_false (by omega)
  have t2 : decide ((n : Int) > 8) = false := decide_eq_false (by omega)
  have t3 : decide (v < 0) = false := decide_eq_false (by omega)
  simp only [f80, t1, t2, t3, cond_false]
  by_cases h7 : n < 8
  · obtain ⟨s1, s2⟩ := shr_pos v h0 n h1 (by omega) hn
    rw [deT (show (n : Int) < 8 by omega)]
    simp only [cond_true, s1, s2, cond_false, wrapU64 h0 (show v < 18446744073709551616 by omega), hk]
  · rw [deF (show ¬ (n : Int) < 8 by omega)]
    simp only [cond_false, wrapU64 h0 (show v < 18446744073709551616 by omega), hk]
theorem f57_v (R : Type) {n : Nat} (h1 : 1 ≤ n) (h8 : n ≤ 8) : Ev fun k => ∀ (v : Int) (K : List Int → Option R), 0 ≤ v → v < 9223372036854775808 → v < 256 ^ n → f57 k v (n : Int) K = K (beB n v) :=
  (f80_v R h1 h8).imp fun k hk v K h0 hv hn => by
    rw [f57, hk v _ h0 hv hn, roT (by rw [beB_len]; omega)]; rfl
theorem f57_2_v (R : Type) {n : Nat} (h1 : 1 ≤ n) (h8 : n ≤ 8) : Ev fun k => ∀ (v : Int) (b : List Int) (K : List Int → Option R), 0 ≤ v → v < 9223372036854775808 → v < 256 ^ n → b.length ≤ 1000 → f57_2 k v (n : Int) b K = K (b ++ beB n v) :=
  (f80_v R h1 h8).imp fun k hk v b K h0 hv hn hb => by
    rw [f57_2, hk v _ h0 hv hn, roT (by rw [beB_len]; omega)]; rfl
/-- A box: its head and its content. -/
def boxB (id : Int) (d : List Int) (long : Bool) : List Int :=
  if long = true then beB 4 1 ++ beB 4 id ++ beB 8 (16 + (d.length : Int)) ++ d else beB 4 (8 + (d.length : Int)) ++ beB 4 id ++ d
theorem boxB_len (id : Int) (d : List Int) (long : Bool) : (boxB id d long).length = (if long = true then 16 else 8) + d.length := by
  unfold boxB
  split <;> simp [beB_len] <;> omega
theorem f51_v (R : Type) : Ev fun k => ∀ (id : Int) (d : List Int) (long : Bool) (K : List Int → Option R), 0 ≤ id → id < 4294967296 → d.length ≤ 4294967000 → f51 k id d long K = K (boxB id d long) := by
  refine (f57_v R (n := 4) (by decide) (by decide)).imp3 (f57_2_v R (n := 4) (by decide) (by decide)) (f57_2_v R (n := 8) (by decide) (by decide)) fun k h57 h4 h8 id d long K h0 hi hd => ?_
  have e4 : ((4 : Nat) : Int) = 4 := rfl
  have e8 : ((8 : Nat) : Int) = 8 := rfl
  rw [e4] at h57 h4
  rw [e8] at h8
  have p4 : (256 : Int) ^ 4 = 4294967296 := by decide
  have p8 : (256 : Int) ^ 8 = 18446744073709551616 := by decide
  rw [p4] at h57 h4
  rw [p8] at h8
  rw [f51]
  cases long with
  | true =>
    rw [cond_true, h57 1 _ (by decide) (by decide) (by decide), h4 id _ _ h0 (by omega) hi (by rw [beB_len]; omega), wr (by omega), h8 _ _ _ (by omega) (by omega) (by omega) (by simp [beB_len]), roT (by simp [beB_len]; omega)]
    rfl
  | false =>
    rw [cond_false, wr (by omega), h57 _ _ (by omega) (by omega) (by omega), h4 id _ _ h0 (by omega) hi (by rw [beB_len]; omega), roT (by simp [beB_len]; omega)]
    rfl
/-- Bytes compared. -/
theorem f25_loop (R : Type) (a b : List Int) (hl : a.length = b.length) (hb : a.length ≤ 140737488355328) : ∀ i, i ≤ a.length → Ev fun k => ∀ (X0 : Option R) (X1 : Bool → Option R), f25_l4 k a b (i : Int) X0 X1 = if a.drop i = b.drop i then X0 else X1 false := by
  refine Ev.down a.length ?_ ?_
  · refine Ev.suc (.all fun k X0 X1 => ?_)
    rw [f25_l4, lt_nat, List.drop_length, hl, List.drop_length, if_pos rfl]; simp
  · intro i hi h
    refine Ev.suc (h.imp fun k hk X0 X1 => ?_)
    have hi' : i < b.length := by omega
    rw [f25_l4, lt_nat, inb_nat, inb_nat, wrapSuc (by omega)]
    simp only [hi, hi', decide_true, cond_true, Int.toNat_natCast, getD_get hi, getD_get hi', bne_dec, drop_eq_iff hi hi', hk]
    by_cases e : a[i] = b[i]
    · simp [e]
    · simp [e]
theorem f25_v (R : Type) (a b : List Int) (hb : a.length ≤ 140737488355328) : Ev fun k => ∀ (K : Bool → Option R), f25 k a b K = K (decide (a = b)) := by
  by_cases hl : a.length = b.length
  · refine (f25_loop R a b hl hb 0 (Nat.zero_le _)).imp fun k hk K => ?_
    have hk := hk (K true) K
    simp only [Int.natCast_zero, List.drop_zero] at hk
    rw [f25, bne_len, hk]
    simp only [hl, decide_true, Bool.not_true, cond_false]
    by_cases e : a = b
    · rw [if_pos e, deT e]
    · rw [if_neg e, deF e]
  · refine .all fun k K => ?_
    rw [f25, bne_len, deF hl, deF (by rintro rfl; exact hl rfl)]; rfl
theorem f26_free (R : Type) : Ev fun k => ∀ (K : Int → Int → Option R), f26 k (⟨#[102, 114, 101, 101]⟩ : ByteArray) K = K 1718773093 0 := .plus 12 (.all fun k K => by kernel_rfl)
theorem f23_v (R : Type) (n : Int) : Ev fun k => ∀ (K : Int → List Int → Option R), f23 k n K = if n < 8 ∨ 1048576 < n then K 1 [] else K 0 (boxB 1718773093 (List.replicate (n - 8).toNat 0) false) := by
  refine (f26_free R).imp2 (f51_v R) fun k h26 h51 K => ?_
  rw [f23]
  by_cases c1 : n < 8
  · rw [deT c1, if_pos (.inl c1)]; rfl
  · rw [deF c1, cond_false]
    by_cases c2 : 1048576 < n
    · rw [deT c2, if_pos (.inr c2)]; rfl
    · rw [deF c2, cond_false, if_neg (by omega), h26, wr (by omega)]
      simp (disch := omega) only [deT, Bool.and_self, cond_true]
      rw [h51 _ _ _ _ (by decide) (by decide) (by simp; omega)]
abbrev n_movi : List Int := [109, 111, 118, 105]
abbrev n_frag : List Int := [102, 114, 97, 103]
abbrev n_trak : List Int := [116, 114, 97, 107]
abbrev n_mdia : List Int := [109, 100, 105, 97]
abbrev n_edts : List Int := [101, 100, 116, 115]
abbrev n_stbl : List Int := [115, 116, 98, 108]
abbrev n_prot : List Int := [112, 114, 111, 116]
abbrev n_udat : List Int := [117, 100, 97, 116]
abbrev n_tfrg : List Int := [116, 102, 114, 103]
abbrev n_meta : List Int := [109, 101, 116, 97]
abbrev n_item : List Int := [105, 116, 101, 109]
/-- The groups that a group may be in (empty: outermost); none: it is no group. -/
def par (nm : List Int) : Option (List (List Int)) :=
  if nm = n_movi then some [[]] else
  if nm = n_frag then some [[]] else
  if nm = n_trak then some [n_movi] else
  if nm = n_mdia then some [n_trak] else
  if nm = n_edts then some [n_trak] else
  if nm = n_stbl then some [n_mdia] else
  if nm = n_prot then some [n_mdia] else
  if nm = n_udat then some [n_movi, n_trak] else
  if nm = n_tfrg then some [n_frag] else
  if nm = n_meta then some [[], n_movi, n_trak] else
  if nm = n_item then some [n_meta] else
  none
def isG (nm : List Int) : Bool := (par nm).isSome
def may (nm p : List Int) : Bool := match par nm with
  | none => true
  | some l => l.any fun x => decide (x = p)
/-- The outermost level is called otherwise. -/
def outer (p : List Int) : List Int := if p = [] then [45] else p
theorem str_cases (a : ByteArray) : a = (⟨#[109, 111, 118, 105]⟩ : ByteArray) ∨ a = (⟨#[102, 114, 97, 103]⟩ : ByteArray) ∨ a = (⟨#[116, 114, 97, 107]⟩ : ByteArray) ∨ a = (⟨#[109, 100, 105, 97]⟩ : ByteArray) ∨ a = (⟨#[101, 100, 116, 115]⟩ : ByteArray) ∨ a = (⟨#[115, 116, 98, 108]⟩ : ByteArray) ∨ a = (⟨#[112, 114, 111, 116]⟩ : ByteArray) ∨ a = (⟨#[117, 100, 97, 116]⟩ : ByteArray) ∨ a = (⟨#[116, 102, 114, 103]⟩ : ByteArray) ∨ a = (⟨#[109, 101, 116, 97]⟩ : ByteArray) ∨ a = (⟨#[105, 116, 101, 109]⟩ : ByteArray) ∨ ((a.toList == (⟨#[109, 111, 118, 105]⟩ : ByteArray).toList) = false ∧ (a.toList == (⟨#[102, 114, 97, 103]⟩ : ByteArray).toList) = false ∧ (a.toList == (⟨#[116, 114, 97, 107]⟩ : ByteArray).toList) = false ∧ (a.toList == (⟨#[109, 100, 105, 97]⟩ : ByteArray).toList) = false ∧ (a.toList == (⟨#[101, 100, 116, 115]⟩ : ByteArray).toList) = false ∧ (a.toList == (⟨#[115, 116, 98, 108]⟩ : ByteArray).toList) = false ∧ (a.toList == (⟨#[112, 114, 111, 116]⟩ : ByteArray).toList) = false ∧ (a.toList == (⟨#[117, 100, 97, 116]⟩ : ByteArray).toList) = false ∧ (a.toList == (⟨#[116, 102, 114, 103]⟩ : ByteArray).toList) = false ∧ (a.toList == (⟨#[109, 101, 116, 97]⟩ : ByteArray).toList) = false ∧ (a.toList == (⟨#[105, 116, 101, 109]⟩ : ByteArray).toList) = false) := by
  by_cases h_movi : bytesOf a = n_movi
  · have := str_inj (a := a) (b := (⟨#[109, 111, 118, 105]⟩ : ByteArray)) h_movi; subst this; simp
  by_cases h_frag : bytesOf a = n_frag
  · have := str_inj (a := a) (b := (⟨#[102, 114, 97, 103]⟩ : ByteArray)) h_frag; subst this; simp
  by_cases h_trak : bytesOf a = n_trak
  · have := str_inj (a := a) (b := (⟨#[116, 114, 97, 107]⟩ : ByteArray)) h_trak; subst this; simp
  by_cases h_mdia : bytesOf a = n_mdia
  · have := str_inj (a := a) (b := (⟨#[109, 100, 105, 97]⟩ : ByteArray)) h_mdia; subst this; simp
  by_cases h_edts : bytesOf a = n_edts
  · have := str_inj (a := a) (b := (⟨#[101, 100, 116, 115]⟩ : ByteArray)) h_edts; subst this; simp
  by_cases h_stbl : bytesOf a = n_stbl
  · have := str_inj (a := a) (b := (⟨#[115, 116, 98, 108]⟩ : ByteArray)) h_stbl; subst this; simp
  by_cases h_prot : bytesOf a = n_prot
  · have := str_inj (a := a) (b := (⟨#[112, 114, 111, 116]⟩ : ByteArray)) h_prot; subst this; simp
  by_cases h_udat : bytesOf a = n_udat
  · have := str_inj (a := a) (b := (⟨#[117, 100, 97, 116]⟩ : ByteArray)) h_udat; subst this; simp
  by_cases h_tfrg : bytesOf a = n_tfrg
  · have := str_inj (a := a) (b := (⟨#[116, 102, 114, 103]⟩ : ByteArray)) h_tfrg; subst this; simp
  by_cases h_meta : bytesOf a = n_meta
  · have := str_inj (a := a) (b := (⟨#[109, 101, 116, 97]⟩ : ByteArray)) h_meta; subst this; simp
  by_cases h_item : bytesOf a = n_item
  · have := str_inj (a := a) (b := (⟨#[105, 116, 101, 109]⟩ : ByteArray)) h_item; subst this; simp
  iterate 11 right
  exact ⟨by rw [str_beq]; exact decide_eq_false h_movi, by rw [str_beq]; exact decide_eq_false h_frag, by rw [str_beq]; exact decide_eq_false h_trak, by rw [str_beq]; exact decide_eq_false h_mdia, by rw [str_beq]; exact decide_eq_false h_edts, by rw [str_beq]; exact decide_eq_false h_stbl, by rw [str_beq]; exact decide_eq_false h_prot, by rw [str_beq]; exact decide_eq_false h_udat, by rw [str_beq]; exact decide_eq_false h_tfrg, by rw [str_beq]; exact decide_eq_false h_meta, by rw [str_beq]; exact decide_eq_false h_item⟩
theorem par_none {a : ByteArray} (h : (a.toList == (⟨#[109, 111, 118, 105]⟩ : ByteArray).toList) = false ∧ (a.toList == (⟨#[102, 114, 97, 103]⟩ : ByteArray).toList) = false ∧ (a.toList == (⟨#[116, 114, 97, 107]⟩ : ByteArray).toList) = false ∧ (a.toList == (⟨#[109, 100, 105, 97]⟩ : ByteArray).toList) = false ∧ (a.toList == (⟨#[101, 100, 116, 115]⟩ : ByteArray).toList) = false ∧ (a.toList == (⟨#[115, 116, 98, 108]⟩ : ByteArray).toList) = false ∧ (a.toList == (⟨#[112, 114, 111, 116]⟩ : ByteArray).toList) = false ∧ (a.toList == (⟨#[117, 100, 97, 116]⟩ : ByteArray).toList) = false ∧ (a.toList == (⟨#[116, 102, 114, 103]⟩ : ByteArray).toList) = false ∧ (a.toList == (⟨#[109, 101, 116, 97]⟩ : ByteArray).toList) = false ∧ (a.toList == (⟨#[105, 116, 101, 109]⟩ : ByteArray).toList) = false) : par (bytesOf a) = none := by
  obtain ⟨h_movi, h_frag, h_trak, h_mdia, h_edts, h_stbl, h_prot, h_udat, h_tfrg, h_meta, h_item⟩ := h
  rw [str_beq] at h_movi; replace h_movi : ¬ bytesOf a = n_movi := of_decide_eq_false h_movi
  rw [str_beq] at h_frag; replace h_frag : ¬ bytesOf a = n_frag := of_decide_eq_false h_frag
  rw [str_beq] at h_trak; replace h_trak : ¬ bytesOf a = n_trak := of_decide_eq_false h_trak
  rw [str_beq] at h_mdia; replace h_mdia : ¬ bytesOf a = n_mdia := of_decide_eq_false h_mdia
  rw [str_beq] at h_edts; replace h_edts : ¬ bytesOf a = n_edts := of_decide_eq_false h_edts
  rw [str_beq] at h_stbl; replace h_stbl : ¬ bytesOf a = n_stbl := of_decide_eq_false h_stbl
  rw [str_beq] at h_prot; replace h_prot : ¬ bytesOf a = n_prot := of_decide_eq_false h_prot
  rw [str_beq] at h_udat; replace h_udat : ¬ bytesOf a = n_udat := of_decide_eq_false h_udat
  rw [str_beq] at h_tfrg; replace h_tfrg : ¬ bytesOf a = n_tfrg := of_decide_eq_false h_tfrg
  rw [str_beq] at h_meta; replace h_meta : ¬ bytesOf a = n_meta := of_decide_eq_false h_meta
  rw [str_beq] at h_item; replace h_item : ¬ bytesOf a = n_item := of_decide_eq_false h_item
  unfold par
  rw [if_neg h_movi, if_neg h_frag, if_neg h_trak, if_neg h_mdia, if_neg h_edts, if_neg h_stbl, if_neg h_prot, if_neg h_udat, if_neg h_tfrg, if_neg h_meta, if_neg h_item]
theorem f59_v {R : Type} (k : Nat) (a : ByteArray) : ∃ s, ∀ (K : ByteArray → Bool → Option R), f59 k a K = K s (isG (bytesOf a)) := by
  rcases str_cases a with rfl | rfl | rfl | rfl | rfl | rfl | rfl | rfl | rfl | rfl | rfl | h
  · exact ⟨(⟨#[45]⟩ : ByteArray), fun K => by kernel_rfl⟩
  · exact ⟨(⟨#[45]⟩ : ByteArray), fun K => by kernel_rfl⟩
  · exact ⟨(⟨#[109, 111, 118, 105]⟩ : ByteArray), fun K => by kernel_rfl⟩
  · exact ⟨(⟨#[116, 114, 97, 107]⟩ : ByteArray), fun K => by kernel_rfl⟩
  · exact ⟨(⟨#[116, 114, 97, 107]⟩ : ByteArray), fun K => by kernel_rfl⟩
  · exact ⟨(⟨#[109, 100, 105, 97]⟩ : ByteArray), fun K => by kernel_rfl⟩
  · exact ⟨(⟨#[109, 100, 105, 97]⟩ : ByteArray), fun K => by kernel_rfl⟩
  · exact ⟨(⟨#[109, 111, 118, 105, 32, 116, 114, 97, 107]⟩ : ByteArray), fun K => by kernel_rfl⟩
  · exact ⟨(⟨#[102, 114, 97, 103]⟩ : ByteArray), fun K => by kernel_rfl⟩
  · exact ⟨(⟨#[45, 32, 109, 111, 118, 105, 32, 116, 114, 97, 107]⟩ : ByteArray), fun K => by kernel_rfl⟩
  · exact ⟨(⟨#[109, 101, 116, 97]⟩ : ByteArray), fun K => by kernel_rfl⟩
  · have hp := par_none h
    obtain ⟨h_movi, h_frag, h_trak, h_mdia, h_edts, h_stbl, h_prot, h_udat, h_tfrg, h_meta, h_item⟩ := h
    refine ⟨(⟨#[]⟩ : ByteArray), fun K => ?_⟩
    simp only [f59, h_movi, h_frag, h_trak, h_mdia, h_edts, h_stbl, h_prot, h_udat, h_tfrg, h_meta, h_item, cond_false, isG, hp]; rfl
def mayP (nm p : List Int) : Bool := match par nm with
  | none => true
  | some l => l.any fun x => decide (outer x = p)
theorem f70_movi {R : Type} (k : Nat) (p : ByteArray) (K : Bool → Option R) : f70 (k + 40) (⟨#[109, 111, 118, 105]⟩ : ByteArray) p K = (bif (p.toList == (⟨#[45]⟩ : ByteArray).toList) then K true else (K false)) := by kernel_rfl
theorem f70_frag {R : Type} (k : Nat) (p : ByteArray) (K : Bool → Option R) : f70 (k + 40) (⟨#[102, 114, 97, 103]⟩ : ByteArray) p K = (bif (p.toList == (⟨#[45]⟩ : ByteArray).toList) then K true else (K false)) := by kernel_rfl
theorem f70_trak {R : Type} (k : Nat) (p : ByteArray) (K : Bool → Option R) : f70 (k + 40) (⟨#[116, 114, 97, 107]⟩ : ByteArray) p K = (bif (p.toList == (⟨#[109, 111, 118, 105]⟩ : ByteArray).toList) then K true else (K false)) := by kernel_rfl
theorem f70_mdia {R : Type} (k : Nat) (p : ByteArray) (K : Bool → Option R) : f70 (k + 40) (⟨#[109, 100, 105, 97]⟩ : ByteArray) p K = (bif (p.toList == (⟨#[116, 114, 97, 107]⟩ : ByteArray).toList) then K true else (K false)) := by kernel_rfl
theorem f70_edts {R : Type} (k : Nat) (p : ByteArray) (K : Bool → Option R) : f70 (k + 40) (⟨#[101, 100, 116, 115]⟩ : ByteArray) p K = (bif (p.toList == (⟨#[116, 114, 97, 107]⟩ : ByteArray).toList) then K true else (K false)) := by kernel_rfl
theorem f70_stbl {R : Type} (k : Nat) (p : ByteArray) (K : Bool → Option R) : f70 (k + 40) (⟨#[115, 116, 98, 108]⟩ : ByteArray) p K = (bif (p.toList == (⟨#[109, 100, 105, 97]⟩ : ByteArray).toList) then K true else (K false)) := by kernel_rfl
theorem f70_prot {R : Type} (k : Nat) (p : ByteArray) (K : Bool → Option R) : f70 (k + 40) (⟨#[112, 114, 111, 116]⟩ : ByteArray) p K = (bif (p.toList == (⟨#[109, 100, 105, 97]⟩ : ByteArray).toList) then K true else (K false)) := by kernel_rfl
theorem f70_udat {R : Type} (k : Nat) (p : ByteArray) (K : Bool → Option R) : f70 (k + 40) (⟨#[117, 100, 97, 116]⟩ : ByteArray) p K = (bif (p.toList == (⟨#[109, 111, 118, 105]⟩ : ByteArray).toList) then K true else (bif (p.toList == (⟨#[116, 114, 97, 107]⟩ : ByteArray).toList) then K true else (K false))) := by kernel_rfl
theorem f70_tfrg {R : Type} (k : Nat) (p : ByteArray) (K : Bool → Option R) : f70 (k + 40) (⟨#[116, 102, 114, 103]⟩ : ByteArray) p K = (bif (p.toList == (⟨#[102, 114, 97, 103]⟩ : ByteArray).toList) then K true else (K false)) := by kernel_rfl
theorem f70_meta {R : Type} (k : Nat) (p : ByteArray) (K : Bool → Option R) : f70 (k + 40) (⟨#[109, 101, 116, 97]⟩ : ByteArray) p K = (bif (p.toList == (⟨#[45]⟩ : ByteArray).toList) then K true else (bif (p.toList == (⟨#[109, 111, 118, 105]⟩ : ByteArray).toList) then K true else (bif (p.toList == (⟨#[116, 114, 97, 107]⟩ : ByteArray).toList) then K true else (K false)))) := by kernel_rfl
theorem f70_item {R : Type} (k : Nat) (p : ByteArray) (K : Bool → Option R) : f70 (k + 40) (⟨#[105, 116, 101, 109]⟩ : ByteArray) p K = (bif (p.toList == (⟨#[109, 101, 116, 97]⟩ : ByteArray).toList) then K true else (K false)) := by kernel_rfl
theorem f70_v (R : Type) (a p : ByteArray) : Ev fun k => ∀ (K : Bool → Option R), f70 k a p K = K (mayP (bytesOf a) (bytesOf p)) := by
  refine .plus 40 (.all fun k K => ?_)
  rcases str_cases a with rfl | rfl | rfl | rfl | rfl | rfl | rfl | rfl | rfl | rfl | rfl | h
  · rw [f70_movi]
    rw [str_beq p (⟨#[45]⟩ : ByteArray)]
    show _ = K (decide ([45] = bytesOf p) || false)
    rw [show decide (bytesOf p = bytesOf (⟨#[45]⟩ : ByteArray)) = decide ([45] = bytesOf p) from by rw [show bytesOf (⟨#[45]⟩ : ByteArray) = [45] from rfl]; exact decide_eq_decide.2 eq_comm]
    cases decide ([45] = bytesOf p) <;> rfl
  · rw [f70_frag]
    rw [str_beq p (⟨#[45]⟩ : ByteArray)]
    show _ = K (decide ([45] = bytesOf p) || false)
    rw [show decide (bytesOf p = bytesOf (⟨#[45]⟩ : ByteArray)) = decide ([45] = bytesOf p) from by rw [show bytesOf (⟨#[45]⟩ : ByteArray) = [45] from rfl]; exact decide_eq_decide.2 eq_comm]
    cases decide ([45] = bytesOf p) <;> rfl
  · rw [f70_trak]
    rw [str_beq p (⟨#[109, 111, 118, 105]⟩ : ByteArray)]
    show _ = K (decide ([109, 111, 118, 105] = bytesOf p) || false)
    rw [show decide (bytesOf p = bytesOf (⟨#[109, 111, 118, 105]⟩ : ByteArray)) = decide ([109, 111, 118, 105] = bytesOf p) from by rw [show bytesOf (⟨#[109, 111, 118, 105]⟩ : ByteArray) = [109, 111, 118, 105] from rfl]; exact decide_eq_decide.2 eq_comm]
    cases decide ([109, 111, 118, 105] = bytesOf p) <;> rfl
  · rw [f70_mdia]
    rw [str_beq p (⟨#[116, 114, 97, 107]⟩ : ByteArray)]
    show _ = K (decide ([116, 114, 97, 107] = bytesOf p) || false)
    rw [show decide (bytesOf p = bytesOf (⟨#[116, 114, 97, 107]⟩ : ByteArray)) = decide ([116, 114, 97, 107] = bytesOf p) from by rw [show bytesOf (⟨#[116, 114, 97, 107]⟩ : ByteArray) = [116, 114, 97, 107] from rfl]; exact decide_eq_decide.2 eq_comm]
    cases decide ([116, 114, 97, 107] = bytesOf p) <;> rfl
  · rw [f70_edts]
    rw [str_beq p (⟨#[116, 114, 97, 107]⟩ : ByteArray)]
    show _ = K (decide ([116, 114, 97, 107] = bytesOf p) || false)
    rw [show decide (bytesOf p = bytesOf (⟨#[116, 114, 97, 107]⟩ : ByteArray)) = decide ([116, 114, 97, 107] = bytesOf p) from by rw [show bytesOf (⟨#[116, 114, 97, 107]⟩ : ByteArray) = [116, 114, 97, 107] from rfl]; exact decide_eq_decide.2 eq_comm]
    cases decide ([116, 114, 97, 107] = bytesOf p) <;> rfl
  · rw [f70_stbl]
    rw [str_beq p (⟨#[109, 100, 105, 97]⟩ : ByteArray)]
    show _ = K (decide ([109, 100, 105, 97] = bytesOf p) || false)
    rw [show decide (bytesOf p = bytesOf (⟨#[109, 100, 105, 97]⟩ : ByteArray)) = decide ([109, 100, 105, 97] = bytesOf p) from by rw [show bytesOf (⟨#[109, 100, 105, 97]⟩ : ByteArray) = [109, 100, 105, 97] from rfl]; exact decide_eq_decide.2 eq_comm]
    cases decide ([109, 100, 105, 97] = bytesOf p) <;> rfl
  · rw [f70_prot]
    rw [str_beq p (⟨#[109, 100, 105, 97]⟩ : ByteArray)]
    show _ = K (decide ([109, 100, 105, 97] = bytesOf p) || false)
    rw [show decide (bytesOf p = bytesOf (⟨#[109, 100, 105, 97]⟩ : ByteArray)) = decide ([109, 100, 105, 97] = bytesOf p) from by rw [show bytesOf (⟨#[109, 100, 105, 97]⟩ : ByteArray) = [109, 100, 105, 97] from rfl]; exact decide_eq_decide.2 eq_comm]
    cases decide ([109, 100, 105, 97] = bytesOf p) <;> rfl
  · rw [f70_udat]
    rw [str_beq p (⟨#[109, 111, 118, 105]⟩ : ByteArray)]
    rw [str_beq p (⟨#[116, 114, 97, 107]⟩ : ByteArray)]
    show _ = K ((decide ([109, 111, 118, 105] = bytesOf p) || (decide ([116, 114, 97, 107] = bytesOf p) || (false))))
    rw [show decide (bytesOf p = bytesOf (⟨#[109, 111, 118, 105]⟩ : ByteArray)) = decide ([109, 111, 118, 105] = bytesOf p) from by rw [show bytesOf (⟨#[109, 111, 118, 105]⟩ : ByteArray) = [109, 111, 118, 105] from rfl]; exact decide_eq_decide.2 eq_comm]
    rw [show decide (bytesOf p = bytesOf (⟨#[116, 114, 97, 107]⟩ : ByteArray)) = decide ([116, 114, 97, 107] = bytesOf p) from by rw [show bytesOf (⟨#[116, 114, 97, 107]⟩ : ByteArray) = [116, 114, 97, 107] from rfl]; exact decide_eq_decide.2 eq_comm]
    cases decide ([109, 111, 118, 105] = bytesOf p) <;> cases decide ([116, 114, 97, 107] = bytesOf p) <;> rfl
  · rw [f70_tfrg]
    rw [str_beq p (⟨#[102, 114, 97, 103]⟩ : ByteArray)]
    show _ = K (decide ([102, 114, 97, 103] = bytesOf p) || false)
    rw [show decide (bytesOf p = bytesOf (⟨#[102, 114, 97, 103]⟩ : ByteArray)) = decide ([102, 114, 97, 103] = bytesOf p) from by rw [show bytesOf (⟨#[102, 114, 97, 103]⟩ : ByteArray) = [102, 114, 97, 103] from rfl]; exact decide_eq_decide.2 eq_comm]
    cases decide ([102, 114, 97, 103] = bytesOf p) <;> rfl
  · rw [f70_meta]
    rw [str_beq p (⟨#[45]⟩ : ByteArray)]
    rw [str_beq p (⟨#[109, 111, 118, 105]⟩ : ByteArray)]
    rw [str_beq p (⟨#[116, 114, 97, 107]⟩ : ByteArray)]
    show _ = K ((decide ([45] = bytesOf p) || (decide ([109, 111, 118, 105] = bytesOf p) || (decide ([116, 114, 97, 107] = bytesOf p) || (false)))))
    rw [show decide (bytesOf p = bytesOf (⟨#[45]⟩ : ByteArray)) = decide ([45] = bytesOf p) from by rw [show bytesOf (⟨#[45]⟩ : ByteArray) = [45] from rfl]; exact decide_eq_decide.2 eq_comm]
    rw [show decide (bytesOf p = bytesOf (⟨#[109, 111, 118, 105]⟩ : ByteArray)) = decide ([109, 111, 118, 105] = bytesOf p) from by rw [show bytesOf (⟨#[109, 111, 118, 105]⟩ : ByteArray) = [109, 111, 118, 105] from rfl]; exact decide_eq_decide.2 eq_comm]
    rw [show decide (bytesOf p = bytesOf (⟨#[116, 114, 97, 107]⟩ : ByteArray)) = decide ([116, 114, 97, 107] = bytesOf p) from by rw [show bytesOf (⟨#[116, 114, 97, 107]⟩ : ByteArray) = [116, 114, 97, 107] from rfl]; exact decide_eq_decide.2 eq_comm]
    cases decide ([45] = bytesOf p) <;> cases decide ([109, 111, 118, 105] = bytesOf p) <;> cases decide ([116, 114, 97, 107] = bytesOf p) <;> rfl
  · rw [f70_item]
    rw [str_beq p (⟨#[109, 101, 116, 97]⟩ : ByteArray)]
    show _ = K (decide ([109, 101, 116, 97] = bytesOf p) || false)
    rw [show decide (bytesOf p = bytesOf (⟨#[109, 101, 116, 97]⟩ : ByteArray)) = decide ([109, 101, 116, 97] = bytesOf p) from by rw [show bytesOf (⟨#[109, 101, 116, 97]⟩ : ByteArray) = [109, 101, 116, 97] from rfl]; exact decide_eq_decide.2 eq_comm]
    cases decide ([109, 101, 116, 97] = bytesOf p) <;> rfl
  · have hp := par_none h
    obtain ⟨s, hs⟩ := f59_v (R := R) (k + 40) a
    rw [f70, hs]
    simp only [isG, mayP, hp]; rfl
def letter (c : Int) : Bool := (decide (97 ≤ c) && decide (c ≤ 122)) || (decide (48 ≤ c) && decide (c ≤ 57))
def isTy (l : List Int) : Bool := decide (l.length = 4) && l.all letter
theorem f53_v {R : Type} (k : Nat) (c : Int) (K : Bool → Option R) : f53 k c K = K (letter c) := by
  rw [f53, letter]
  by_cases h1 : 97 ≤ c
  · rw [deT (show c ≥ 97 from h1)]
    by_cases h2 : c ≤ 122
    · rw [deT h2]; rfl
    · rw [deF h2, deF (show ¬ c ≤ 57 by omega), deT (show c ≥ 48 by omega)]; rfl
  · rw [deF (show ¬ c ≥ 97 from h1)]
    by_cases h3 : 48 ≤ c
    · rw [deT (show c ≥ 48 from h3)]; simp
    · rw [deF (show ¬ c ≥ 48 from h3)]; simp
theorem four {l : List Int} (h : l.length = 4) : ∃ a b c d, l = [a, b, c, d] := by
  match l, h with
  | [a, b, c, d], _ => exact ⟨a, b, c, d, rfl⟩
theorem isTy_four (a b c d : Int) : isTy [a, b, c, d] = (letter a && (letter b && (letter c && letter d))) := by
  simp [isTy]
theorem f26_v (R : Type) (a : ByteArray) : Ev fun k => ∀ (K : Int → Int → Option R), f26 k a K = if isTy (bytesOf a) = true then K (valF (bytesOf a) 0) 0 else K 0 80 := by
  by_cases h4 : (bytesOf a).length = 4
  · obtain ⟨x, y, z, u, hl⟩ := four h4
    have hb := okBy_bytesOf a
    have hs : a.size = 4 := by rw [← bytesOf_len]; exact h4
    have h54 := f54_v R (bytesOf a) hb (by rw [h4]; omega) (n := 4) (by decide) (by decide) (by omega)
    have hn : num (bytesOf a) 4 = valF (bytesOf a) 0 := by rw [num_small hb (by omega) (by decide), List.take_of_length_le (by omega)]
    refine h54.imp fun k h54 K => ?_
    have e4 : ((4 : Nat) : Int) = 4 := rfl
    rw [hn, e4] at h54
    have g0 := str_get a 0
    have g1 := str_get a 1
    have g2 := str_get a 2
    have g3 := str_get a 3
    rw [hl] at g0 g1 g2 g3
    simp only [List.getD_cons_zero, List.getD_cons_succ] at g0 g1 g2 g3
    rw [f26, hs]
    have i0 : inb 0 4 = true := rfl
    have i1 : inb 1 4 = true := rfl
    have i2 : inb 2 4 = true := rfl
    have i3 : inb 3 4 = true := rfl
    rw [bnF (show ((4 : Nat) : Int) = 4 from rfl)]
    simp only [cond_false, i0, i1, i2, i3, cond_true, f53_v, g0, g1, g2, g3, h54]
    rw [hl, isTy_four]
    cases letter x with
    | false => rfl
    | true => cases letter y with
      | false => rfl
      | true => cases letter z with
        | false => rfl
        | true => cases letter u <;> rfl
  · refine .all fun k K => ?_
    have hs : ¬ (a.size : Int) = 4 := by rw [← bytesOf_len]; omega
    have ht : isTy (bytesOf a) = false := by simp [isTy, h4]
    rw [f26, bnT hs, ht]; rfl
theorem ty4 {l : List Int} (h : isTy l = true) : l.length = 4 := by
  simp only [isTy, Bool.and_eq_true, decide_eq_true_eq] at h; exact h.1
/-- The letters of a number. -/
def okId (id : Int) : Bool := decide (0 ≤ id) && decide (id < 4294967296) && isTy (beB 4 id)
theorem f28_v (R : Type) (id : Int) : Ev fun k => ∀ (K : ByteArray → Int → Option R), f28 k id K = if okId id = true then K (strOf (beB 4 id)) 0 else K (⟨#[]⟩ : ByteArray) 80 := by
  refine (f57_v R (n := 4) (by decide) (by decide)).imp2 (f26_v R (strOf (beB 4 id))) fun k h57 h26 K => ?_
  have e4 : ((4 : Nat) : Int) = 4 := rfl
  have p4 : (256 : Int) ^ 4 = 4294967296 := by decide
  rw [e4, p4] at h57
  rw [bytesOf_strOf (beB_ok 4 id)] at h26
  rw [f28, okId]
  by_cases c1 : id < 0
  · rw [deT c1, deF (show ¬ 0 ≤ id by omega)]; rfl
  · rw [deF c1, cond_false, deT (show 0 ≤ id by omega)]
    by_cases c2 : id > 4294967295
    · rw [deT c2, deF (show ¬ id < 4294967296 by omega)]; rfl
    · rw [deF c2, cond_false, deT (show id < 4294967296 by omega), h57 id _ (by omega) (by omega) (by omega), h26]
      cases isTy (beB 4 id) <;> rfl
/-- Whether a number is that of a group. -/
def grp (id : Int) : Bool := okId id && isG (beB 4 id)
theorem f30_v (R : Type) (id : Int) : Ev fun k => ∀ (K : Bool → Option R), f30 k id K = K (grp id) := by
  refine (f28_v R id).imp fun k h28 K => ?_
  rw [f30, h28, grp]
  by_cases c : okId id = true
  · obtain ⟨s, hs⟩ := f59_v (R := R) k (strOf (beB 4 id))
    rw [if_pos c, hs, bytesOf_strOf (beB_ok 4 id), c]; rfl
  · obtain ⟨s, hs⟩ := f59_v (R := R) k (⟨#[]⟩ : ByteArray)
    rw [if_neg c, hs, Bool.eq_false_iff.2 c]; rfl
theorem f61_v {R : Type} (k : Nat) (a : List Int) (h : a.length ≤ 140737488355328) (K : List Int → Option R) : f61_2 k a K = K a := by
  rw [f61_2, roT (by simp; omega)]; rfl
/-- The number of so many bytes at a place. -/
def numB (b : List Int) (at_ n : Nat) : Int := valF ((b.drop at_).take n) 0
theorem numB_bound {b : List Int} (hb : okBy b) {at_ n : Nat} (h : at_ + n ≤ b.length) : 0 ≤ numB b at_ n ∧ numB b at_ n < 256 ^ n := by
  have := valF_bound ((hb.drop at_).take n) 0
  have e : ((b.drop at_).take n).length = n := by simp; omega
  rw [e] at this
  unfold numB
  omega
inductive HR | bad (c : Int) | ok (h sz : Nat) (nm : List Int)
/-- The head of a box: its bytes, the size of all, the type; or an error. -/
def headR (b : List Int) (at_ en dp : Nat) : HR :=
  if en - at_ < 8 then .bad 3
  else if numB b at_ 4 = 1 then
    if en - at_ < 16 then .bad 3
    else if ((b.length - at_ : Nat) : Int) < numB b (at_ + 8) 8 then .bad 3
    else if numB b (at_ + 8) 8 < 16 ∨ ((en - at_ : Nat) : Int) < numB b (at_ + 8) 8 then .bad 41
    else .ok 16 (numB b (at_ + 8) 8).toNat ((b.drop (at_ + 4)).take 4)
  else if numB b at_ 4 = 0 then
    if 1 < dp then .bad 41 else .ok 8 (en - at_) ((b.drop (at_ + 4)).take 4)
  else if ((b.length - at_ : Nat) : Int) < numB b at_ 4 then .bad 3
  else if numB b at_ 4 < 8 ∨ ((en - at_ : Nat) : Int) < numB b at_ 4 then .bad 41
  else .ok 8 (numB b at_ 4).toNat ((b.drop (at_ + 4)).take 4)
theorem head_ok {b : List Int} {at_ en dp h sz : Nat} {nm : List Int} (he : headR b at_ en dp = .ok h sz nm) : (h = 8 ∨ h = 16) ∧ h ≤ sz ∧ at_ + sz ≤ en ∧ nm = (b.drop (at_ + 4)).take 4 ∧ 8 ≤ en - at_ := by
  unfold headR at he
  split at he; · simp at he
  split at he
  · split at he; · simp at he
    split at he; · simp at he
    split at he; · simp at he
    simp only [HR.ok.injEq] at he
    obtain ⟨rfl, rfl, rfl⟩ := he
    exact ⟨.inr rfl, by omega, by omega, rfl, by omega⟩
  · split at he
    · split at he; · simp at he
      simp only [HR.ok.injEq] at he
      obtain ⟨rfl, rfl, rfl⟩ := he
      exact ⟨.inl rfl, by omega, by omega, rfl, by omega⟩
    · split at he; · simp at he
      split at he; · simp at he
      simp only [HR.ok.injEq] at he
      obtain ⟨rfl, rfl, rfl⟩ := he
      exact ⟨.inl rfl, by omega, by omega, rfl, by omega⟩
theorem head_bad {b : List Int} {at_ en dp : Nat} {c : Int} (he : headR b at_ en dp = .bad c) : c = 3 ∨ c = 41 := by
  unfold headR at he
  split at he; · simp only [HR.bad.injEq] at he; omega
  split at he
  · split at he; · simp only [HR.bad.injEq] at he; omega
    split at he; · simp only [HR.bad.injEq] at he; omega
    split at he; · simp only [HR.bad.injEq] at he; omega
    simp at he
  · split at he
    · split at he; · simp only [HR.bad.injEq] at he; omega
      simp at he
    · split at he; · simp only [HR.bad.injEq] at he; omega
      split at he; · simp only [HR.bad.injEq] at he; omega
      simp at he
theorem nm_eq (b : List Int) (at_ : Nat) : (b.take (at_ + 8)).drop (at_ + 4) = (b.drop (at_ + 4)).take 4 := by rw [List.drop_take]; congr 1; omega
theorem f89_2_v (R : Type) (b : List Int) (hb : okBy b) (hl : b.length ≤ 1048576) (at_ en dp : Nat) (hat : at_ < en) (hen : en ≤ b.length) (hdp : dp ≤ 9) : Ev fun k => ∀ (name : ByteArray) (fr nd : Int) (pl : List D0) (K0 : Int → Int → ByteArray → Int → Int → List Int → Int → List D0 → Option R) (K1 : Int → Int → ByteArray → List Int → Int → List D0 → Option R),
    f89_2 k (at_ : Int) name fr (en : Int) (dp : Int) b nd pl K0 K1 = match headR b at_ en dp with
    | .bad c => K0 0 0 (⟨#[]⟩ : ByteArray) c (at_ : Int) b nd pl
    | .ok h sz nm => K1 (h : Int) (sz : Int) (strOf nm) b nd pl := by
  have w0 : IntKind.i64.wrap ((en : Int) - (at_ : Int)) = ((en - at_ : Nat) : Int) := wrapSub (by omega) (by omega)
  by_cases c1 : en - at_ < 8
  · refine .all fun k name fr nd pl K0 K1 => ?_
    rw [headR, if_pos c1, f89_2, w0, deT (by omega)]; rfl
  · have h4 := f54_v R (b.drop at_) (hb.drop at_) (by simp; omega) (n := 4) (by decide) (by decide) (by simp; omega)
    have n4 : num (b.drop at_) 4 = numB b at_ 4 := num_small (hb.drop at_) (by simp; omega) (by decide)
    rw [n4] at h4
    have e4 : ((4 : Nat) : Int) = 4 := rfl
    have e8 : ((8 : Nat) : Int) = 8 := rfl
    rw [e4] at h4
    have bd := numB_bound hb (at_ := at_) (n := 4) (by omega)
    have p4 : (256 : Int) ^ 4 = 4294967296 := by decide
    rw [p4] at bd
    have w4 : IntKind.i64.wrap ((at_ : Int) + 4) = ((at_ + 4 : Nat) : Int) := by rw [wr (by omega)]; omega
    have w8 : IntKind.i64.wrap ((at_ : Int) + 8) = ((at_ + 8 : Nat) : Int) := by rw [wr (by omega)]; omega
    have wl : IntKind.i64.wrap ((b.length : Int) - (at_ : Int)) = ((b.length - at_ : Nat) : Int) := wrapSub (by omega) (by omega)
    have u0 : upto (at_ : Int) b.length = true := upT (by omega)
    have u8 : upto ((at_ + 8 : Nat) : Int) b.length = true := upT (by omega)
    have d4 : ((decide (0 ≤ ((at_ + 4 : Nat) : Int))) && (decide (((at_ + 4 : Nat) : Int) ≤ ((at_ + 8 : Nat) : Int)))) = true := by
      rw [deT (by omega), deT (by omega)]; rfl
    by_cases c2 : numB b at_ 4 = 1
    · by_cases c3 : en - at_ < 16
      · refine h4.imp fun k h4 name fr nd pl K0 K1 => ?_
        rw [headR, if_neg c1, if_pos c2, if_pos c3, f89_2, w0, deF (by omega), cond_false, u0, cond_true, Int.toNat_natCast, h4, beT c2, cond_true, deT (by omega)]; rfl
      · have h8 := f54_v R (b.drop (at_ + 8)) (hb.drop _) (by simp; omega) (n := 8) (by decide) (by decide) (by simp; omega)
        rw [e8] at h8
        have bd8 := (numB_bound hb (at_ := at_ + 8) (n := 8) (by omega)).1
        have n8 : num (b.drop (at_ + 8)) 8 = if 9223372036854775807 < numB b (at_ + 8) 8 then 9223372036854775807 else numB b (at_ + 8) 8 := rfl
        refine h4.imp2 h8 fun k h4 h8 name fr nd pl K0 K1 => ?_
        rw [headR, if_neg c1, if_pos c2, if_neg c3, f89_2, w0, deF (by omega), cond_false, u0, cond_true, Int.toNat_natCast, h4, beT c2, cond_true, deF (by omega), cond_false, w8, u8, cond_true, Int.toNat_natCast, h8, wl]
        by_cases c4 : ((b.length - at_ : Nat) : Int) < numB b (at_ + 8) 8
        · rw [if_pos c4, deT (by rw [n8]; split <;> omega)]; rfl
        · have n8' : num (b.drop (at_ + 8)) 8 = numB b (at_ + 8) 8 := by rw [n8, if_neg (by omega)]
          rw [if_neg c4, n8', deF (by omega), cond_false]
          by_cases c5 : numB b (at_ + 8) 8 < 16
          · rw [if_pos (.inl c5), deT c5]; rfl
          · rw [deF c5, cond_false]
            by_cases c6 : ((en - at_ : Nat) : Int) < numB b (at_ + 8) 8
            · rw [if_pos (.inr c6), deT c6]; rfl
            · rw [if_neg (by omega), deF c6, cond_false, w4, cond_true, d4, Int.toNat_natCast, nm_eq]
              have e : numB b (at_ + 8) 8 = ((numB b (at_ + 8) 8).toNat : Int) := by omega
              dsimp only
              rw [← e]; rfl
    · by_cases c3 : numB b at_ 4 = 0
      · refine h4.imp fun k h4 name fr nd pl K0 K1 => ?_
        rw [headR, if_neg c1, if_neg c2, if_pos c3, f89_2, w0, deF (by omega), cond_false, u0, cond_true, Int.toNat_natCast, h4, beF c2, cond_false, beT c3, cond_true]
        by_cases c4 : 1 < dp
        · rw [if_pos c4, deT (by omega)]; rfl
        · rw [if_neg c4, deF (by omega), cond_false, w8, u8, w4, d4, Int.toNat_natCast, Int.toNat_natCast, nm_eq]; rfl
      · refine h4.imp fun k h4 name fr nd pl K0 K1 => ?_
        rw [headR, if_neg c1, if_neg c2, if_neg c3, f89_2, w0, deF (by omega), cond_false, u0, cond_true, Int.toNat_natCast, h4, beF c2, cond_false, beF c3, cond_false, wl]
        by_cases c4 : ((b.length - at_ : Nat) : Int) < numB b at_ 4
        · rw [if_pos c4, deT c4]; rfl
        · rw [if_neg c4, deF c4, cond_false]
          by_cases c5 : numB b at_ 4 < 8
          · rw [if_pos (.inl c5), deT c5]; rfl
          · rw [deF c5, cond_false]
            by_cases c6 : ((en - at_ : Nat) : Int) < numB b at_ 4
            · rw [if_pos (.inr c6), deT c6]; rfl
            · rw [if_neg (by omega), deF c6, cond_false, w8, u8, w4, d4, Int.toNat_natCast, Int.toNat_natCast, nm_eq]
              have e : numB b at_ 4 = ((numB b at_ 4).toNat : Int) := by omega
              dsimp only
              rw [← e]; rfl
abbrev n_free : List Int := [102, 114, 101, 101]
/-- The first error of a box whose head has been read; 0: none. -/
def chkE (nm p : List Int) (dp : Nat) : Int := if isTy nm = false then 80 else if may nm p = false then 42 else if 8 < dp then 43 else 0
inductive Res | bad (c : Int) (at_ : Nat) | fine (kids : List D1) (nd : Nat) (pl : List D0)
def plc (nm : List Int) (at_ h sz dp : Nat) : D0 := (valF nm 0, (at_ : Int), (h : Int), ((sz - h : Nat) : Int), (dp : Int))
def lev (b : List Int) : Nat → Nat → Nat → List Int → Nat → Nat → List D0 → List D1 → Option Res
  | 0, _, _, _, _, _, _, _ => none
  | n + 1, en, dp, p, at_, nd, pl, acc =>
    if at_ < en then
      match headR b at_ en dp with
      | .bad c => some (.bad c at_)
      | .ok h sz nm =>
        if chkE nm p dp ≠ 0 then some (.bad (chkE nm p dp) at_)
        else if nm = n_free then lev b n en dp p (at_ + sz) nd (pl ++ [plc nm at_ h sz dp]) acc
        else if 4000 < nd + 1 then some (.bad 2 at_)
        else if isG nm = true then
          match lev b n (at_ + sz) (dp + 1) nm (at_ + h) (nd + 1) (pl ++ [plc nm at_ h sz dp]) [] with
          | some (.fine kids nd' pl') => lev b n en dp p (at_ + sz) nd' pl' (acc ++ [D1.mk (valF nm 0) [] kids true])
          | r => r
        else lev b n en dp p (at_ + sz) (nd + 1) (pl ++ [plc nm at_ h sz dp]) (acc ++ [D1.mk (valF nm 0) ((b.take (at_ + sz)).drop (at_ + h)) [] false])
    else some (.fine acc nd pl)
/-- What a reading leaves. -/
theorem lev_inv {b : List Int} : ∀ (n : Nat) {en dp : Nat} {p : List Int} {at_ nd : Nat} {pl : List D0} {acc : List D1} {r : Res}, at_ ≤ en → lev b n en dp p at_ nd pl acc = some r →
    match r with
    | .bad c a => c ≠ 0 ∧ a < en
    | .fine kids nd' pl' => nd ≤ nd' ∧ (nd ≤ 4000 → nd' ≤ 4000) ∧ pl'.length + at_ ≤ pl.length + en ∧ kids.length + at_ ≤ acc.length + en := by
  intro n
  induction n with
  | zero => intro en dp p at_ nd pl acc r _ e; simp [lev] at e
  | succ n ih =>
    intro en dp p at_ nd pl acc r hat e
    rw [lev] at e
    split at e
    · rename_i lt
      split at e
      · rename_i c hd
        obtain rfl := Option.some.inj e
        have := head_bad hd
        exact ⟨by omega, lt⟩
      · rename_i h sz nm hd
        obtain ⟨q1, q2, q3, q4, q5⟩ := head_ok hd
        split at e
        · rename_i hc
          obtain rfl := Option.some.inj e
          exact ⟨hc, lt⟩
        · split at e
          · have := ih (by omega) e
            cases r with
            | bad c a => exact this
            | fine kids nd' pl' => simp only [List.length_append, List.length_cons, List.length_nil] at this; omega
          · split at e
            · obtain rfl := Option.some.inj e
              exact ⟨by decide, lt⟩
            · split at e
              · split at e
                · rename_i kids nd' pl' he
                  have t1 := ih (by omega) he
                  have t2 := ih (by omega) e
                  simp only [List.length_append, List.length_cons, List.length_nil] at t1
                  cases r with
                  | bad c a => exact t2
                  | fine kids2 nd2 pl2 => simp only [List.length_append, List.length_cons, List.length_nil] at t2; omega
                · rename_i r' hr'
                  have t1 := ih (by omega) e
                  cases r with
                  | bad c a => exact ⟨t1.1, by omega⟩
                  | fine kids nd' pl' => exact absurd e (hr' kids nd' pl')
              · have := ih (by omega) e
                cases r with
                | bad c a => exact this
                | fine kids nd' pl' => simp only [List.length_append, List.length_cons, List.length_nil] at this; omega
    · obtain rfl := Option.some.inj e
      exact ⟨Nat.le_refl _, fun x => x, by omega, by omega⟩
/-- It ends. -/
theorem lev_some {b : List Int} : ∀ (n : Nat) (en dp : Nat) (p : List Int) (at_ nd : Nat) (pl : List D0) (acc : List D1), at_ ≤ en → en - at_ < n → ∃ r, lev b n en dp p at_ nd pl acc = some r := by
  intro n
  induction n with
  | zero => intro en dp p at_ nd pl acc _ e; omega
  | succ n ih =>
    intro en dp p at_ nd pl acc hat e
    rw [lev]
    by_cases lt : at_ < en
    · rw [if_pos lt]
      cases hd : headR b at_ en dp with
      | bad c => exact ⟨_, rfl⟩
      | ok h sz nm =>
        obtain ⟨q1, q2, q3, q4, q5⟩ := head_ok hd
        dsimp only
        split
        · exact ⟨_, rfl⟩
        · split
          · exact ih _ _ _ _ _ _ _ (by omega) (by omega)
          · split
            · exact ⟨_, rfl⟩
            · split
              · obtain ⟨r, hr⟩ := ih (at_ + sz) (dp + 1) nm (at_ + h) (nd + 1) (pl ++ [plc nm at_ h sz dp]) [] (by omega) (by omega)
                rw [hr]
                cases r with
                | bad c a => exact ⟨_, rfl⟩
                | fine kids nd' pl' => exact ih _ _ _ _ _ _ _ (by omega) (by omega)
              · exact ih _ _ _ _ _ _ _ (by omega) (by omega)
    · rw [if_neg lt]; exact ⟨_, rfl⟩
theorem outer_eq {p x : List Int} (hp : isTy p = true ∨ p = []) (hx : x = [] ∨ isTy x = true) : decide (outer x = outer p) = decide (x = p) := by
  have len : ∀ {q : List Int}, isTy q = true → q ≠ [] ∧ q ≠ [45] := fun h => by
    have := ty4 h
    constructor <;> (rintro rfl; simp at this)
  unfold outer
  rcases hp with hp | rfl
  · rw [if_neg (len hp).1]
    rcases hx with rfl | hx
    · rw [if_pos rfl, decide_eq_false (fun h => (len hp).2 h.symm), decide_eq_false (fun h => (len hp).1 h.symm)]
    · rw [if_neg (len hx).1]
  · rw [if_pos rfl]
    rcases hx with rfl | hx
    · rw [if_pos rfl]; simp
    · rw [if_neg (len hx).1, decide_eq_false (len hx).2, decide_eq_false (len hx).1]
theorem par_ty {nm : List Int} {l : List (List Int)} (h : par nm = some l) : ∀ x ∈ l, x = [] ∨ isTy x = true := by
  unfold par at h
  repeat (split at h; · simp at h; subst h; decide)
  simp at h
theorem any_eq {p : List Int} (hp : isTy p = true ∨ p = []) : ∀ {l : List (List Int)}, (∀ x ∈ l, x = [] ∨ isTy x = true) → (l.any fun x => decide (outer x = outer p)) = l.any fun x => decide (x = p)
  | [], _ => rfl
  | x :: l, h => by
    simp only [List.any_cons]
    rw [outer_eq hp (h x (by simp)), any_eq hp fun y hy => h y (by simp [hy])]
theorem mayP_eq {p : List Int} (hp : isTy p = true ∨ p = []) (nm : List Int) : mayP nm (outer p) = may nm p := by
  unfold mayP may
  cases h : par nm with
  | none => rfl
  | some l => exact any_eq hp (par_ty h)
theorem outer_ok {p : List Int} (hp : isTy p = true ∨ p = []) (hb : okBy p) : okBy (outer p) := by
  unfold outer
  split
  · intro x hx; simp at hx; omega
  · exact hb
theorem outer_ty {p : List Int} (hp : isTy p = true) : outer p = p := by
  unfold outer
  rw [if_neg (by rintro rfl; have := ty4 hp; simp at this)]
/-- What a reading comes to, in the program. -/
def EndP {R : Type} (b : List Int) (X0 : List D1 → List Int → Int → List D0 → Option R) (X1 : Int → Int → List Int → Int → List D0 → Option R) : Res → Option R → Prop
  | .bad c a, r => ∃ nd pl, r = X1 c (a : Int) b nd pl
  | .fine kids nd pl, r => r = X0 kids b (nd : Int) pl
/-- A choice of one of two measures. -/
def IsSel (sel : Nat → Nat → Nat) : Prop := ∀ a q, a ≤ q → ∀ j, a ≤ j → a ≤ sel q j
theorem sel_ev {sel : Nat → Nat → Nat} (hs : IsSel sel) {p : Nat → Prop} (h : Ev p) : EvB fun q j => p (sel q j) := by
  obtain ⟨a, ha⟩ := h
  exact ⟨a, fun q hq j hj => ha _ (hs a q hq j hj)⟩
theorem lev_prog (R : Type) {b : List Int} (hb : okBy b) (hl : b.length ≤ 1048576) : ∀ (n : Nat) {sel : Nat → Nat → Nat}, IsSel sel → ∀ {en dp : Nat} {p : List Int} {at_ nd : Nat} {pl : List D0} {acc : List D1} {r : Res}, at_ ≤ en → en ≤ b.length → dp ≤ 9 → (isTy p = true ∨ p = []) → okBy p → nd ≤ 4000 → pl.length ≤ 1048576 + at_ → acc.length ≤ 1048576 + at_ → lev b n en dp p at_ nd pl acc = some r →
    EvB fun q j => ∀ (fr : Int) (X0 : List D1 → List Int → Int → List D0 → Option R) (X1 : Int → Int → List Int → Int → List D0 → Option R), EndP b X0 X1 r (f76_2_l3 (fun i => f76_2 (sel q i)) j (at_ : Int) b (nd : Int) pl (strOf (outer p)) fr (en : Int) (dp : Int) acc X0 X1) := by
  intro n
  induction n with
  | zero => intro sel hsel en dp p at_ nd pl acc r _ _ _ _ _ _ _ _ e; simp [lev] at e
  | succ n ih =>
    intro sel hsel en dp p at_ nd pl acc r hat hen hdp hp hpb hnd hpl hacc e
    rw [lev] at e
    by_cases lt : at_ < en
    · rw [if_pos lt] at e
      have lt' : decide ((at_ : Int) < (en : Int)) = true := decide_eq_true (by omega)
      have h89 := f89_2_v R b hb hl at_ en dp lt hen hdp
      cases hd : headR b at_ en dp with
      | bad c =>
        rw [hd] at e h89
        obtain rfl := Option.some.inj e
        refine EvB.suc ((EvB.right h89).imp fun q j h89 fr X0 X1 => ?_)
        rw [f76_2_l3, lt', cond_true, h89]
        exact ⟨_, _, rfl⟩
      | ok h sz nm =>
        rw [hd] at e h89
        obtain ⟨q1, q2, q3, q4, q5⟩ := head_ok hd
        dsimp only at e h89
        have hnb : okBy nm := by rw [q4]; exact (hb.drop _).take _
        have hnl : nm.length = 4 := by rw [q4]; simp; omega
        have h26 := f26_v R (strOf nm)
        have h70 := f70_v R (strOf nm) (strOf (outer p))
        rw [bytesOf_strOf hnb] at h26 h70
        rw [bytesOf_strOf (outer_ok hp hpb), mayP_eq hp] at h70
        have w1 : IntKind.i64.wrap ((at_ : Int) + (sz : Int)) = ((at_ + sz : Nat) : Int) := wrapAdd (by omega)
        have w2 : IntKind.i64.wrap ((at_ : Int) + (h : Int)) = ((at_ + h : Nat) : Int) := wrapAdd (by omega)
        have w3 : IntKind.i64.wrap ((sz : Int) - (h : Int)) = ((sz - h : Nat) : Int) := wrapSub (by omega) (by omega)
        have w4 : IntKind.i64.wrap (((at_ + sz : Nat) : Int) - (sz : Int)) = (at_ : Int) := by rw [wr (by omega)]; omega
        have w5 : IntKind.i64.wrap ((nd : Int) + 1) = ((nd + 1 : Nat) : Int) := wrapSuc (by omega)
        have w6 : IntKind.i64.wrap ((dp : Int) + 1) = ((dp + 1 : Nat) : Int) := wrapSuc (by omega)
        -- up to the checks
        have base := EvB.right (h89.imp3 h26 h70 fun k h1 h2 h3 => (⟨h1, h2, h3⟩ : _ ∧ _ ∧ _))
        by_cases c0 : isTy nm = true
        rotate_left
        · have c0 : isTy nm = false := Bool.eq_false_iff.2 c0
          have ce : chkE nm p dp = 80 := by rw [chkE, if_pos c0]
          rw [ce, if_pos (by decide)] at e
          obtain rfl := Option.some.inj e
          refine EvB.suc (base.imp fun q j hh fr X0 X1 => ?_)
          obtain ⟨h89, h26, h70⟩ := hh
          obtain ⟨s, h59⟩ := f59_v (R := R) j (strOf nm)
          rw [f76_2_l3, lt', cond_true, h89, h26, if_neg (by simp [c0]), h59, bnT (by decide), cond_true]
          exact ⟨_, _, rfl⟩
        by_cases c1 : may nm p = true
        rotate_left
        · have c1 : may nm p = false := Bool.eq_false_iff.2 c1
          have ce : chkE nm p dp = 42 := by rw [chkE, if_neg (by simp [c0]), if_pos c1]
          rw [ce, if_pos (by decide)] at e
          obtain rfl := Option.some.inj e
          refine EvB.suc (base.imp fun q j hh fr X0 X1 => ?_)
          obtain ⟨h89, h26, h70⟩ := hh
          obtain ⟨s, h59⟩ := f59_v (R := R) j (strOf nm)
          rw [f76_2_l3, lt', cond_true, h89, h26, if_pos c0, h59, bnF rfl, cond_false, h70, c1, Bool.not_false, cond_true]
          exact ⟨_, _, rfl⟩
        by_cases c2 : 8 < dp
        · have ce : chkE nm p dp = 43 := by rw [chkE, if_neg (by simp [c0]), if_neg (by simp [c1]), if_pos c2]
          rw [ce, if_pos (by decide)] at e
          obtain rfl := Option.some.inj e
          refine EvB.suc (base.imp fun q j hh fr X0 X1 => ?_)
          obtain ⟨h89, h26, h70⟩ := hh
          obtain ⟨s, h59⟩ := f59_v (R := R) j (strOf nm)
          rw [f76_2_l3, lt', cond_true, h89, h26, if_pos c0, h59, bnF rfl, cond_false, h70, c1, Bool.not_true, cond_false, deT (show (dp : Int) > 8 by omega), cond_true]
          exact ⟨_, _, rfl⟩
        have ce : chkE nm p dp = 0 := by rw [chkE, if_neg (by simp [c0]), if_neg (by simp [c1]), if_neg c2]
        rw [ce, if_neg (by decide)] at e
        have rm : room 40 (pl.length + [plc nm at_ h sz dp].length) = true := roT (by simp; omega)
        have pe : (valF nm 0, (at_ : Int), (h : Int), ((sz - h : Nat) : Int), (dp : Int)) = plc nm at_ h sz dp := rfl
        -- behind the checks
        have start : ∀ (g : Nat → f76_2_T R) (j : Nat), (∀ (name : ByteArray) (fr nd : Int) (pl : List D0) (K0 : Int → Int → ByteArray → Int → Int → List Int → Int → List D0 → Option R) (K1 : Int → Int → ByteArray → List Int → Int → List D0 → Option R), f89_2 j (at_ : Int) name fr (en : Int) (dp : Int) b nd pl K0 K1 = K1 (h : Int) (sz : Int) (strOf nm) b nd pl) →
            (∀ (K : Int → Int → Option R), f26 j (strOf nm) K = if isTy nm = true then K (valF nm 0) 0 else K 0 80) → (∀ (K : Bool → Option R), f70 j (strOf nm) (strOf (outer p)) K = K (may nm p)) →
            ∀ (fr : Int) (X0 : List D1 → List Int → Int → List D0 → Option R) (X1 : Int → Int → List Int → Int → List D0 → Option R),
            f76_2_l3 g (j + 1) (at_ : Int) b (nd : Int) pl (strOf (outer p)) fr (en : Int) (dp : Int) acc X0 X1 =
            bif decide (nm = n_free) then f76_2_l3 g j ((at_ + sz : Nat) : Int) b (nd : Int) (pl ++ [plc nm at_ h sz dp]) (strOf (outer p)) fr (en : Int) (dp : Int) acc X0 X1
            else bif decide (((nd + 1 : Nat) : Int) > 4000) then X1 2 (at_ : Int) b ((nd + 1 : Nat) : Int) (pl ++ [plc nm at_ h sz dp])
            else bif isG nm then g j (strOf nm) ((at_ + h : Nat) : Int) ((at_ + sz : Nat) : Int) ((dp + 1 : Nat) : Int) b ((nd + 1 : Nat) : Int) (pl ++ [plc nm at_ h sz dp]) (fun v29 v30 v31 v32 =>
                bif room 64 (acc.length + ([(D1.mk (valF nm 0) ([]) v31 (isG nm))]).length) then
                f76_2_l3 g j ((at_ + sz : Nat) : Int) v29 v30 v32 (strOf (outer p)) fr (en : Int) (dp : Int) (acc ++ ([(D1.mk (valF nm 0) ([]) v31 (isG nm))])) X0 X1 else none) X1
            else f76_2_l3 g j ((at_ + sz : Nat) : Int) b ((nd + 1 : Nat) : Int) (pl ++ [plc nm at_ h sz dp]) (strOf (outer p)) fr (en : Int) (dp : Int) (acc ++ [D1.mk (valF nm 0) ((b.take (at_ + sz)).drop (at_ + h)) [] (isG nm)]) X0 X1 := by
          intro g j h89 h26 h70 fr X0 X1
          obtain ⟨s, h59⟩ := f59_v (R := R) j (strOf nm)
          rw [bytesOf_strOf hnb] at h59
          rw [f76_2_l3, lt', cond_true, h89, h26, if_pos c0, h59, bnF rfl, cond_false, h70, c1, Bool.not_true, cond_false, deF (show ¬ (dp : Int) > 8 by omega), cond_false, w1, w2, w3, w5, w6, pe, rm, cond_true, str_beq, bytesOf_strOf hnb, show bytesOf (⟨#[102, 114, 101, 101]⟩ : ByteArray) = n_free from rfl, w4]
          have u1 : upto ((at_ + sz : Nat) : Int) b.length = true := upT (by omega)
          have u2 : (decide (0 ≤ ((at_ + h : Nat) : Int)) && decide (((at_ + h : Nat) : Int) ≤ ((at_ + sz : Nat) : Int))) = true := by rw [deT (by omega), deT (by omega)]; rfl
          rw [u1, u2, cond_true, cond_true, Int.toNat_natCast, Int.toNat_natCast, f61_v _ _ (by simp; omega), roT (show (acc.length + [D1.mk (valF nm 0) ((b.take (at_ + sz)).drop (at_ + h)) [] (isG nm)].length) * 64 ≤ 140737488355328 by simp; omega)]
          rfl
        by_cases c3 : nm = n_free
        · rw [if_pos c3] at e
          have ih1 := ih hsel (by omega) hen hdp hp hpb hnd (by simp; omega) (by omega) e
          refine EvB.suc ((base.and ih1).imp fun q j hh fr X0 X1 => ?_)
          obtain ⟨⟨h89, h26, h70⟩, ih1⟩ := hh
          rw [start _ j h89 h26 h70, deT c3, cond_true]
          exact ih1 fr X0 X1
        · rw [if_neg c3] at e
          by_cases c4 : 4000 < nd + 1
          · rw [if_pos c4] at e
            obtain rfl := Option.some.inj e
            refine EvB.suc (base.imp fun q j hh fr X0 X1 => ?_)
            obtain ⟨h89, h26, h70⟩ := hh
            rw [start _ j h89 h26 h70, deF c3, cond_false, deT (show ((nd + 1 : Nat) : Int) > 4000 by omega), cond_true]
            exact ⟨_, _, rfl⟩
          · rw [if_neg c4] at e
            by_cases c5 : isG nm = true
            · rw [if_pos c5] at e
              have hnp : outer nm = nm := outer_ty c0
              have go : ∀ (r' : Res), lev b n (at_ + sz) (dp + 1) nm (at_ + h) (nd + 1) (pl ++ [plc nm at_ h sz dp]) [] = some r' → Ev fun q => ∀ (K0 : List Int → Int → List D1 → List D0 → Option R) (K1 : Int → Int → List Int → Int → List D0 → Option R),
                  EndP b (fun kids b nd pl => K0 b nd kids pl) K1 r' (f76_2 q (strOf nm) ((at_ + h : Nat) : Int) ((at_ + sz : Nat) : Int) ((dp + 1 : Nat) : Int) b ((nd + 1 : Nat) : Int) (pl ++ [plc nm at_ h sz dp]) K0 K1) := by
                intro r' e'
                have := ih (sel := fun q _ => q) (fun a q h _ _ => h) (p := nm) (by omega) (by omega) (by omega) (.inl c0) hnb (by omega) (by simp; omega) (by simp) e'
                refine .suc (this.diag.imp fun k hk K0 K1 => ?_)
                rw [hnp] at hk
                have hk := hk ((at_ + h : Nat) : Int) (fun v39 v40 v41 v42 => K0 v40 v41 v39 v42) K1
                rw [f76_2_step, f76_2_s]
                exact hk
              cases hr : lev b n (at_ + sz) (dp + 1) nm (at_ + h) (nd + 1) (pl ++ [plc nm at_ h sz dp]) [] with
              | none => rw [hr] at e; simp at e
              | some r' =>
                rw [hr] at e
                have g := go r' hr
                cases r' with
                | bad c a =>
                  obtain rfl := Option.some.inj e
                  refine EvB.suc ((base.and (sel_ev hsel g)).imp fun q j hh fr X0 X1 => ?_)
                  obtain ⟨⟨h89, h26, h70⟩, g⟩ := hh
                  rw [start _ j h89 h26 h70, deF c3, cond_false, deF (show ¬ ((nd + 1 : Nat) : Int) > 4000 by omega), cond_false, c5, cond_true]
                  exact g _ X1
                | fine kids nd' pl' =>
                  dsimp only at e
                  have hi := lev_inv n (by omega) hr
                  dsimp only at hi
                  simp only [List.length_append, List.length_cons, List.length_nil] at hi
                  have ih1 := ih hsel (by omega) hen hdp hp hpb (by omega) (by omega) (by simp; omega) e
                  refine EvB.suc (((base.and (sel_ev hsel g)).and ih1).imp fun q j hh fr X0 X1 => ?_)
                  obtain ⟨⟨⟨h89, h26, h70⟩, g⟩, ih1⟩ := hh
                  rw [start _ j h89 h26 h70, deF c3, cond_false, deF (show ¬ ((nd + 1 : Nat) : Int) > 4000 by omega), cond_false, c5, cond_true, g]
                  dsimp only
                  rw [roT (by simp; omega), cond_true]
                  exact ih1 fr X0 X1
            · have c5 : isG nm = false := Bool.eq_false_iff.2 c5
              rw [if_neg (by simp [c5])] at e
              have ih1 := ih hsel (by omega) hen hdp hp hpb (by omega) (by simp; omega) (by simp; omega) e
              refine EvB.suc ((base.and ih1).imp fun q j hh fr X0 X1 => ?_)
              obtain ⟨⟨h89, h26, h70⟩, ih1⟩ := hh
              rw [start _ j h89 h26 h70, deF c3, cond_false, deF (show ¬ ((nd + 1 : Nat) : Int) > 4000 by omega), cond_false, c5, cond_false]
              exact ih1 fr X0 X1
    · rw [if_neg lt] at e
      obtain rfl := Option.some.inj e
      refine EvB.suc (.all fun q j fr X0 X1 => ?_)
      rw [f76_2_l3, deF (by omega)]
      exact rfl
theorem _root_.Go.Am.EvB.up {p : Nat → Nat → Prop} (h : EvB p) : EvB fun q j => p q (j + 1) := by
  obtain ⟨a, ha⟩ := h
  exact ⟨a, fun q hq j hj => ha q hq (j + 1) (by omega)⟩
theorem f18_loop (R : Type) (l : List D1) (hb : l.length * 64 ≤ reachBytes) (h : ∀ i (h : i < l.length), Ev fun k => ∀ (K : Bool → Option R), f34_2 k l[i].c0 l[i].c1 l[i].c2 l[i].c3 l[i].c0 l[i].c1 l[i].c2 l[i].c3 K = K true) :
    ∀ i, i ≤ l.length → EvB fun q j => ∀ (X0 : Option R) (X1 : Bool → Option R), f18_l4 (fun _ => f34_2 q) j l l (i : Int) X0 X1 = X0 := by
  rw [reachV] at hb
  refine EvB.down l.length ?_ ?_
  · refine EvB.suc (.all fun q j X0 X1 => ?_)
    rw [f18_l4, ifF (by omega)]
  · intro i hi ih
    refine EvB.suc ((ih.and (.left (h i hi))).imp fun q j hk X0 X1 => ?_)
    obtain ⟨hk, h34⟩ := hk
    rw [f18_l4, lt_nat, inb_nat, wrapSuc (by omega)]
    simp only [hi, decide_true, cond_true, Int.toNat_natCast, getD_get hi, h34, hk, Bool.not_true, cond_false]
theorem f34_v (R : Type) : ∀ n : D1, OkN n → Ev fun k => ∀ (K : Bool → Option R), f34_2 k n.c0 n.c1 n.c2 n.c3 n.c0 n.c1 n.c2 n.c3 K = K true := by
  intro n
  refine D1.ind (P := fun n => OkN n → Ev fun k => ∀ (K : Bool → Option R), f34_2 k n.c0 n.c1 n.c2 n.c3 n.c0 n.c1 n.c2 n.c3 K = K true) (fun i d ks g ih ho => ?_) n
  have hk := ho.kids
  have hd : d.length ≤ reachBytes := ho.len
  rw [reachV] at hd
  refine .suc ?_
  have loop := (f18_loop R ks hk.1 (fun i hi => ih _ (List.getElem_mem hi) (hk.2 _ (List.getElem_mem hi))) 0 (Nat.zero_le _)).diag
  have h18 : Ev fun k => ∀ (K : Bool → Option R), f18 k ks ks K = K true := .suc (loop.imp fun k h K => by
    rw [f18_step, f18_s, bnF rfl, cond_false]
    exact h _ K)
  refine (f25_v R d d (by omega)).imp2 h18 fun k h25 h18 K => ?_
  show f34_2 (k + 1) i d ks g i d ks g K = _
  rw [f34_2_step, f34_2_s, beT rfl, h25, deT rfl]
  simp [h18]
theorem f18_v (R : Type) (l : List D1) (h : OkL l) : Ev fun k => ∀ (K : Bool → Option R), f18 k l l K = K true := by
  refine .suc ((f18_loop R l h.1 (fun i hi => f34_v R _ (h.2 _ (List.getElem_mem hi))) 0 (Nat.zero_le _)).diag.imp fun k h K => ?_)
  rw [f18_step, f18_s, bnF rfl, cond_false]
  exact h _ K
theorem f76_l3_eq {R : Type} : ∀ (k : Nat) (v1 : Int) (v2 : List Int) (v3 : Int) (v4 : List D0) (v5 : ByteArray) (v6 v7 v8 : Int) (v9 : List D1) (X0 : List D1 → List Int → Int → List D0 → Option R) (X1 : Int → Int → List Int → Int → List D0 → Option R), f76_l3 k v1 v2 v3 v4 v5 v6 v7 v8 v9 X0 X1 = f76_2_l3 (fun i => f76_2 i) k v1 v2 v3 v4 v5 v6 v7 v8 v9 X0 X1 := by
  intro k
  induction k with
  | zero => intros; rfl
  | succ k ih => intros; rw [f76_l3, f76_2_l3]; simp only [ih]
/-- What a document comes to: the error's place and name, the boxes, the places. -/
def docR (b : List Int) : Res :=
  if b.length ≤ 1048576 then (lev b (b.length + 1) b.length 1 [] 0 0 [] []).getD (.bad 2 0) else .bad 2 0
def Res.a : Res → Int | .bad _ a => a | .fine _ _ _ => 0
def Res.c : Res → Int | .bad c _ => c | .fine _ _ _ => 0
def Res.kids : Res → List D1 | .bad _ _ => [] | .fine kids _ _ => kids
def Res.pls : Res → List D0 | .bad _ _ => [] | .fine _ _ pl => pl
theorem doc_lev {b : List Int} (h : b.length ≤ 1048576) : lev b (b.length + 1) b.length 1 [] 0 0 [] [] = some (docR b) := by
  obtain ⟨r, hr⟩ := lev_some (b := b) (b.length + 1) b.length 1 [] 0 0 [] [] (by omega) (by omega)
  rw [docR, if_pos h, hr]; rfl
theorem f49_v (R : Type) (b : List Int) (hb : okBy b) : Ev fun k => ∀ (K : Int → Int → List D1 → List D0 → Option R), f49 k b K = K (docR b).a (docR b).c (docR b).kids (docR b).pls := by
  by_cases h : b.length ≤ 1048576
  · refine (lev_prog R hb h (b.length + 1) (sel := fun _ j => j) (fun a q _ j h => h) (by omega) (by omega) (by omega) (.inr rfl) (by intro x hx; cases hx) (by omega) (by simp) (by simp) (doc_lev h)).diag.imp fun k hk K => ?_
    have e : f76 k (⟨#[45]⟩ : ByteArray) 0 (b.length : Int) 1 b 0 = fun K0 K1 => f76_2_l3 (R := R) (fun i => f76_2 i) k ((0 : Nat) : Int) b ((0 : Nat) : Int) [] (strOf (outer [])) 0 (b.length : Int) ((1 : Nat) : Int) [] (fun v39 v40 v41 v42 => K0 v40 v41 v39 v42) K1 := by
      funext K0 K1; rw [f76, f76_l3_eq]; rfl
    rw [f49, deT (by omega), cond_true, e]
    dsimp only
    have hk := hk 0
    cases hd : docR b with
    | bad c a =>
      rw [hd] at hk
      obtain ⟨x, y, hk⟩ := hk (fun v39 v40 v41 v42 => asNil k 0 0 (fun v5 v6 v7 => bif v5 then K v7 v6 ([] : List D1) ([] : List D0) else K 0 0 v39 v42)) (fun v8 v9 _v10 _v11 v12 => asHit k v8 v9 0 0 (fun v13 v14 v15 => bif v13 then K v15 v14 ([] : List D1) ([] : List D0) else K 0 0 ([] : List D1) v12))
      exact hk
    | fine kids nd pl =>
      rw [hd] at hk
      exact hk _ _
  · refine .all fun k K => ?_
    rw [f49, deF (by omega), cond_false, docR, if_neg h]; rfl
def nameB (id : Int) : List Int := if okId id = true then beB 4 id else []
theorem nameB_ok (id : Int) : okBy (nameB id) := by
  unfold nameB
  split
  · exact beB_ok 4 id
  · intro x hx; cases hx
theorem f28_n (R : Type) (id : Int) : Ev fun k => ∀ (K : ByteArray → Int → Option R), f28 k id K = K (strOf (nameB id)) (if okId id = true then 0 else 80) := by
  refine (f28_v R id).imp fun k h K => ?_
  rw [h, nameB]
  split <;> rfl
theorem grp_name (id : Int) : grp id = isG (nameB id) := by
  unfold grp nameB
  cases okId id with
  | true => rfl
  | false => rfl
mutual
/-- Whether a look finds something in a tree. -/
def flN (o : List Int → Int → D1 → Bool) (p : List Int) (dp : Int) : D1 → Bool
  | .mk id d ks g => o p dp (.mk id d ks g) || flL o (nameB id) (IntKind.i64.wrap (dp + 1)) ks
def flL (o : List Int → Int → D1 → Bool) (p : List Int) (dp : Int) : List D1 → Bool
  | [] => false
  | x :: l => flN o p dp x || flL o p dp l
end
def own1 (_p : List Int) (_dp : Int) (n : D1) : Bool := !okId n.c0
def own2 (_p : List Int) (_dp : Int) (n : D1) : Bool := !(n.c3 == isG (nameB n.c0)) || ((!n.c3 && decide (0 < n.c2.length)) || ((n.c3 && decide (0 < n.c1.length)) || decide (nameB n.c0 = n_free)))
def own3P (p : List Int) (_dp : Int) (n : D1) : Bool := !mayP (nameB n.c0) p
def own3 (p : List Int) (_dp : Int) (n : D1) : Bool := !may (nameB n.c0) p
def own4 (_p : List Int) (dp : Int) (_n : D1) : Bool := decide (dp > 8)
theorem f67_v (R : Type) (i : Int) (d : List Int) (ks : List D1) (g : Bool) (p : ByteArray) (dp : Int) : Ev fun k => ∀ (K : Bool → Option R), f67 k i d ks g p dp K = K (own1 (bytesOf p) dp (.mk i d ks g)) := by
  refine (f28_n R i).imp fun k h K => ?_
  rw [f67, h, own1]
  show K ((if okId i = true then (0 : Int) else 80) != 0) = K (!okId i)
  cases okId i <;> rfl
theorem gt0 (n : Nat) : decide ((n : Int) > 0) = decide (0 < n) := by
  by_cases h : 0 < n
  · rw [deT h, deT (by omega)]
  · rw [deF h, deF (by omega)]
theorem f68_v (R : Type) (i : Int) (d : List Int) (ks : List D1) (g : Bool) (p : ByteArray) (dp : Int) : Ev fun k => ∀ (K : Bool → Option R), f68 k i d ks g p dp K = K (own2 (bytesOf p) dp (.mk i d ks g)) := by
  refine (f28_n R i).imp2 (f30_v R i) fun k h28 h30 K => ?_
  rw [f68, h28, h30, own2, grp_name]
  show _ = K (!(g == isG (nameB i)) || ((!g && decide (0 < ks.length)) || ((g && decide (0 < d.length)) || decide (nameB i = n_free))))
  rw [gt0, gt0, str_beq, bytesOf_strOf (nameB_ok i)]
  rw [show bytesOf (⟨#[102, 114, 101, 101]⟩ : ByteArray) = n_free from rfl]
  cases g <;> cases isG (nameB i) <;> cases decide (0 < ks.length) <;> cases decide (0 < d.length) <;> rfl
theorem f69_v (R : Type) (i : Int) (d : List Int) (ks : List D1) (g : Bool) (p : ByteArray) (dp : Int) : Ev fun k => ∀ (K : Bool → Option R), f69 k i d ks g p dp K = K (own3P (bytesOf p) dp (.mk i d ks g)) := by
  have h70 := f70_v R (strOf (nameB i)) p
  rw [bytesOf_strOf (nameB_ok i)] at h70
  refine (f28_n R i).imp2 h70 fun k h28 h70 K => ?_
  rw [f69, h28, h70]; rfl
theorem f71_v (R : Type) (i : Int) (d : List Int) (ks : List D1) (g : Bool) (p : ByteArray) (dp : Int) : Ev fun k => ∀ (K : Bool → Option R), f71 k i d ks g p dp K = K (own4 (bytesOf p) dp (.mk i d ks g)) :=
  .all fun k K => rfl
theorem f62_3_loop (R : Type) (l : List D1) (hb : l.length * 64 ≤ reachBytes) (p : ByteArray) (dp : Int) (h : ∀ i (h : i < l.length), Ev fun k => ∀ (K : Bool → ByteArray → Int → Option R), f87_2 k l[i].c0 l[i].c1 l[i].c2 l[i].c3 p dp K = K (flN own1 (bytesOf p) dp l[i]) p dp) :
    ∀ i, i ≤ l.length → EvB fun q j => ∀ (X0 : ByteArray → Int → Option R) (X1 : Int → ByteArray → Int → Option R), (flL own1 (bytesOf p) dp (l.drop i) = false → f62_3_l2 (fun _ => f87_2 q) j l (l.length : Int) (i : Int) p dp X0 X1 = X0 p dp) ∧ (flL own1 (bytesOf p) dp (l.drop i) = true → ∃ m : Nat, f62_3_l2 (fun _ => f87_2 q) j l (l.length : Int) (i : Int) p dp X0 X1 = X1 (m : Int) p dp) := by
  rw [reachV] at hb
  refine EvB.down l.length ?_ ?_
  · refine EvB.suc (.all fun q j X0 X1 => ?_)
    rw [List.drop_length, flL, f62_3_l2, ifF (by omega)]
    exact ⟨fun _ => rfl, fun h => by cases h⟩
  · intro i hi ih
    refine EvB.suc ((ih.and (.left (h i hi))).imp fun q j hk X0 X1 => ?_)
    obtain ⟨hk, hn⟩ := hk
    rw [List.drop_eq_getElem_cons hi, flL, f62_3_l2, lt_nat, inb_nat, wrapSuc (by omega)]
    simp only [hi, decide_true, cond_true, Int.toNat_natCast, getD_get hi, hn]
    cases hf : flN own1 (bytesOf p) dp l[i] with
    | true => exact ⟨fun h => (by cases h), fun _ => ⟨i, rfl⟩⟩
    | false => rw [Bool.false_or, cond_false]; exact hk X0 X1
theorem f73_of (R : Type) (l : List D1) (hb : l.length * 64 ≤ reachBytes) (p : ByteArray) (dp : Int) (h : ∀ i (h : i < l.length), Ev fun k => ∀ (K : Bool → ByteArray → Int → Option R), f87_2 k l[i].c0 l[i].c1 l[i].c2 l[i].c3 p dp K = K (flN own1 (bytesOf p) dp l[i]) p dp) : Ev fun k => ∀ (K : Bool → Option R), f73 k l p dp K = K (flL own1 (bytesOf p) dp l) := by
  refine .suc (.suc (.suc ((f62_3_loop R l hb p dp h 0 (Nat.zero_le _)).diag.imp fun k hk K => ?_)))
  rw [f73_step, f73_s, f86_2_step, f86_2_s, f62_3_step, f62_3_s]
  have hk := hk (fun v9 v10 => K (decide ((-1 : Int) ≥ 0))) (fun v1 v2 v3 => K (decide (v1 ≥ 0)))
  rw [List.drop_zero] at hk
  cases hf : flL own1 (bytesOf p) dp l with
  | false => exact hk.1 hf
  | true =>
    obtain ⟨m, hm⟩ := hk.2 hf
    refine hm.trans ?_
    rw [deT (by omega)]
theorem f87_2_v (R : Type) : ∀ n : D1, OkN n → ∀ (p : ByteArray) (dp : Int), Ev fun k => ∀ (K : Bool → ByteArray → Int → Option R), f87_2 k n.c0 n.c1 n.c2 n.c3 p dp K = K (flN own1 (bytesOf p) dp n) p dp := by
  intro n
  refine D1.ind (P := fun n => OkN n → ∀ (p : ByteArray) (dp : Int), Ev fun k => ∀ (K : Bool → ByteArray → Int → Option R), f87_2 k n.c0 n.c1 n.c2 n.c3 p dp K = K (flN own1 (bytesOf p) dp n) p dp) (fun i d ks g ih ho p dp => ?_) n
  have hk := ho.kids
  have kids := f73_of R ks hk.1 (strOf (nameB i)) (IntKind.i64.wrap (dp + 1)) fun j hj => ih _ (List.getElem_mem hj) (hk.2 _ (List.getElem_mem hj)) _ _
  rw [bytesOf_strOf (nameB_ok i)] at kids
  refine .suc ((f28_n R i).imp3 (f67_v R i d ks g p dp) kids fun k h28 hown kids K => ?_)
  show f87_2 (k + 1) i d ks g p dp K = _
  rw [f87_2_step, f87_2_s, h28, hown, flN]
  cases own1 (bytesOf p) dp (D1.mk i d ks g) with
  | true => rfl
  | false => rw [cond_false, kids]; rfl
theorem f73_v (R : Type) (l : List D1) (h : OkL l) (p : ByteArray) (dp : Int) : Ev fun k => ∀ (K : Bool → Option R), f73 k l p dp K = K (flL own1 (bytesOf p) dp l) :=
  f73_of R l h.1 p dp fun i hi => f87_2_v R _ (h.2 _ (List.getElem_mem hi)) p dp
theorem f62_5_loop (R : Type) (l : List D1) (hb : l.length * 64 ≤ reachBytes) (p : ByteArray) (dp : Int) (h : ∀ i (h : i < l.length), Ev fun k => ∀ (K : Bool → ByteArray → Int → Option R), f87_4 k l[i].c0 l[i].c1 l[i].c2 l[i].c3 p dp K = K (flN own2 (bytesOf p) dp l[i]) p dp) :
    ∀ i, i ≤ l.length → EvB fun q j => ∀ (X0 : ByteArray → Int → Option R) (X1 : Int → ByteArray → Int → Option R), (flL own2 (bytesOf p) dp (l.drop i) = false → f62_5_l2 (fun _ => f87_4 q) j l (l.length : Int) (i : Int) p dp X0 X1 = X0 p dp) ∧ (flL own2 (bytesOf p) dp (l.drop i) = true → ∃ m : Nat, f62_5_l2 (fun _ => f87_4 q) j l (l.length : Int) (i : Int) p dp X0 X1 = X1 (m : Int) p dp) := by
  rw [reachV] at hb
  refine EvB.down l.length ?_ ?_
  · refine EvB.suc (.all fun q j X0 X1 => ?_)
    rw [List.drop_length, flL, f62_5_l2, ifF (by omega)]
    exact ⟨fun _ => rfl, fun h => by cases h⟩
  · intro i hi ih
    refine EvB.suc ((ih.and (.left (h i hi))).imp fun q j hk X0 X1 => ?_)
    obtain ⟨hk, hn⟩ := hk
    rw [List.drop_eq_getElem_cons hi, flL, f62_5_l2, lt_nat, inb_nat, wrapSuc (by omega)]
    simp only [hi, decide_true, cond_true, Int.toNat_natCast, getD_get hi, hn]
    cases hf : flN own2 (bytesOf p) dp l[i] with
    | true => exact ⟨fun h => (by cases h), fun _ => ⟨i, rfl⟩⟩
    | false => rw [Bool.false_or, cond_false]; exact hk X0 X1
theorem f73_2_of (R : Type) (l : List D1) (hb : l.length * 64 ≤ reachBytes) (p : ByteArray) (dp : Int) (h : ∀ i (h : i < l.length), Ev fun k => ∀ (K : Bool → ByteArray → Int → Option R), f87_4 k l[i].c0 l[i].c1 l[i].c2 l[i].c3 p dp K = K (flN own2 (bytesOf p) dp l[i]) p dp) : Ev fun k => ∀ (K : Bool → Option R), f73_2 k l p dp K = K (flL own2 (bytesOf p) dp l) := by
  refine .suc (.suc (.suc ((f62_5_loop R l hb p dp h 0 (Nat.zero_le _)).diag.imp fun k hk K => ?_)))
  rw [f73_2_step, f73_2_s, f86_4_step, f86_4_s, f62_5_step, f62_5_s]
  have hk := hk (fun v9 v10 => K (decide ((-1 : Int) ≥ 0))) (fun v1 v2 v3 => K (decide (v1 ≥ 0)))
  rw [List.drop_zero] at hk
  cases hf : flL own2 (bytesOf p) dp l with
  | false => exact hk.1 hf
  | true =>
    obtain ⟨m, hm⟩ := hk.2 hf
    refine hm.trans ?_
    rw [deT (by omega)]
theorem f87_4_v (R : Type) : ∀ n : D1, OkN n → ∀ (p : ByteArray) (dp : Int), Ev fun k => ∀ (K : Bool → ByteArray → Int → Option R), f87_4 k n.c0 n.c1 n.c2 n.c3 p dp K = K (flN own2 (bytesOf p) dp n) p dp := by
  intro n
  refine D1.ind (P := fun n => OkN n → ∀ (p : ByteArray) (dp : Int), Ev fun k => ∀ (K : Bool → ByteArray → Int → Option R), f87_4 k n.c0 n.c1 n.c2 n.c3 p dp K = K (flN own2 (bytesOf p) dp n) p dp) (fun i d ks g ih ho p dp => ?_) n
  have hk := ho.kids
  have kids := f73_2_of R ks hk.1 (strOf (nameB i)) (IntKind.i64.wrap (dp + 1)) fun j hj => ih _ (List.getElem_mem hj) (hk.2 _ (List.getElem_mem hj)) _ _
  rw [bytesOf_strOf (nameB_ok i)] at kids
  refine .suc ((f28_n R i).imp3 (f68_v R i d ks g p dp) kids fun k h28 hown kids K => ?_)
  show f87_4 (k + 1) i d ks g p dp K = _
  rw [f87_4_step, f87_4_s, h28, hown, flN]
  cases own2 (bytesOf p) dp (D1.mk i d ks g) with
  | true => rfl
  | false => rw [cond_false, kids]; rfl
theorem f73_2_v (R : Type) (l : List D1) (h : OkL l) (p : ByteArray) (dp : Int) : Ev fun k => ∀ (K : Bool → Option R), f73_2 k l p dp K = K (flL own2 (bytesOf p) dp l) :=
  f73_2_of R l h.1 p dp fun i hi => f87_4_v R _ (h.2 _ (List.getElem_mem hi)) p dp
theorem f62_7_loop (R : Type) (l : List D1) (hb : l.length * 64 ≤ reachBytes) (p : ByteArray) (dp : Int) (h : ∀ i (h : i < l.length), Ev fun k => ∀ (K : Bool → ByteArray → Int → Option R), f87_6 k l[i].c0 l[i].c1 l[i].c2 l[i].c3 p dp K = K (flN own3P (bytesOf p) dp l[i]) p dp) :
    ∀ i, i ≤ l.length → EvB fun q j => ∀ (X0 : ByteArray → Int → Option R) (X1 : Int → ByteArray → Int → Option R), (flL own3P (bytesOf p) dp (l.drop i) = false → f62_7_l2 (fun _ => f87_6 q) j l (l.length : Int) (i : Int) p dp X0 X1 = X0 p dp) ∧ (flL own3P (bytesOf p) dp (l.drop i) = true → ∃ m : Nat, f62_7_l2 (fun _ => f87_6 q) j l (l.length : Int) (i : Int) p dp X0 X1 = X1 (m : Int) p dp) := by
  rw [reachV] at hb
  refine EvB.down l.length ?_ ?_
  · refine EvB.suc (.all fun q j X0 X1 => ?_)
    rw [List.drop_length, flL, f62_7_l2, ifF (by omega)]
    exact ⟨fun _ => rfl, fun h => by cases h⟩
  · intro i hi ih
    refine EvB.suc ((ih.and (.left (h i hi))).imp fun q j hk X0 X1 => ?_)
    obtain ⟨hk, hn⟩ := hk
    rw [List.drop_eq_getElem_cons hi, flL, f62_7_l2, lt_nat, inb_nat, wrapSuc (by omega)]
    simp only [hi, decide_true, cond_true, Int.toNat_natCast, getD_get hi, hn]
    cases hf : flN own3P (bytesOf p) dp l[i] with
    | true => exact ⟨fun h => (by cases h), fun _ => ⟨i, rfl⟩⟩
    | false => rw [Bool.false_or, cond_false]; exact hk X0 X1
theorem f73_3_of (R : Type) (l : List D1) (hb : l.length * 64 ≤ reachBytes) (p : ByteArray) (dp : Int) (h : ∀ i (h : i < l.length), Ev fun k => ∀ (K : Bool → ByteArray → Int → Option R), f87_6 k l[i].c0 l[i].c1 l[i].c2 l[i].c3 p dp K = K (flN own3P (bytesOf p) dp l[i]) p dp) : Ev fun k => ∀ (K : Bool → Option R), f73_3 k l p dp K = K (flL own3P (bytesOf p) dp l) := by
  refine .suc (.suc (.suc ((f62_7_loop R l hb p dp h 0 (Nat.zero_le _)).diag.imp fun k hk K => ?_)))
  rw [f73_3_step, f73_3_s, f86_6_step, f86_6_s, f62_7_step, f62_7_s]
  have hk := hk (fun v9 v10 => K (decide ((-1 : Int) ≥ 0))) (fun v1 v2 v3 => K (decide (v1 ≥ 0)))
  rw [List.drop_zero] at hk
  cases hf : flL own3P (bytesOf p) dp l with
  | false => exact hk.1 hf
  | true =>
    obtain ⟨m, hm⟩ := hk.2 hf
    refine hm.trans ?_
    rw [deT (by omega)]
theorem f87_6_v (R : Type) : ∀ n : D1, OkN n → ∀ (p : ByteArray) (dp : Int), Ev fun k => ∀ (K : Bool → ByteArray → Int → Option R), f87_6 k n.c0 n.c1 n.c2 n.c3 p dp K = K (flN own3P (bytesOf p) dp n) p dp := by
  intro n
  refine D1.ind (P := fun n => OkN n → ∀ (p : ByteArray) (dp : Int), Ev fun k => ∀ (K : Bool → ByteArray → Int → Option R), f87_6 k n.c0 n.c1 n.c2 n.c3 p dp K = K (flN own3P (bytesOf p) dp n) p dp) (fun i d ks g ih ho p dp => ?_) n
  have hk := ho.kids
  have kids := f73_3_of R ks hk.1 (strOf (nameB i)) (IntKind.i64.wrap (dp + 1)) fun j hj => ih _ (List.getElem_mem hj) (hk.2 _ (List.getElem_mem hj)) _ _
  rw [bytesOf_strOf (nameB_ok i)] at kids
  refine .suc ((f28_n R i).imp3 (f69_v R i d ks g p dp) kids fun k h28 hown kids K => ?_)
  show f87_6 (k + 1) i d ks g p dp K = _
  rw [f87_6_step, f87_6_s, h28, hown, flN]
  cases own3P (bytesOf p) dp (D1.mk i d ks g) with
  | true => rfl
  | false => rw [cond_false, kids]; rfl
theorem f73_3_v (R : Type) (l : List D1) (h : OkL l) (p : ByteArray) (dp : Int) : Ev fun k => ∀ (K : Bool → Option R), f73_3 k l p dp K = K (flL own3P (bytesOf p) dp l) :=
  f73_3_of R l h.1 p dp fun i hi => f87_6_v R _ (h.2 _ (List.getElem_mem hi)) p dp
theorem f62_9_loop (R : Type) (l : List D1) (hb : l.length * 64 ≤ reachBytes) (p : ByteArray) (dp : Int) (h : ∀ i (h : i < l.length), Ev fun k => ∀ (K : Bool → ByteArray → Int → Option R), f87_8 k l[i].c0 l[i].c1 l[i].c2 l[i].c3 p dp K = K (flN own4 (bytesOf p) dp l[i]) p dp) :
    ∀ i, i ≤ l.length → EvB fun q j => ∀ (X0 : ByteArray → Int → Option R) (X1 : Int → ByteArray → Int → Option R), (flL own4 (bytesOf p) dp (l.drop i) = false → f62_9_l2 (fun _ => f87_8 q) j l (l.length : Int) (i : Int) p dp X0 X1 = X0 p dp) ∧ (flL own4 (bytesOf p) dp (l.drop i) = true → ∃ m : Nat, f62_9_l2 (fun _ => f87_8 q) j l (l.length : Int) (i : Int) p dp X0 X1 = X1 (m : Int) p dp) := by
  rw [reachV] at hb
  refine EvB.down l.length ?_ ?_
  · refine EvB.suc (.all fun q j X0 X1 => ?_)
    rw [List.drop_length, flL, f62_9_l2, ifF (by omega)]
    exact ⟨fun _ => rfl, fun h => by cases h⟩
  · intro i hi ih
    refine EvB.suc ((ih.and (.left (h i hi))).imp fun q j hk X0 X1 => ?_)
    obtain ⟨hk, hn⟩ := hk
    rw [List.drop_eq_getElem_cons hi, flL, f62_9_l2, lt_nat, inb_nat, wrapSuc (by omega)]
    simp only [hi, decide_true, cond_true, Int.toNat_natCast, getD_get hi, hn]
    cases hf : flN own4 (bytesOf p) dp l[i] with
    | true => exact ⟨fun h => (by cases h), fun _ => ⟨i, rfl⟩⟩
    | false => rw [Bool.false_or, cond_false]; exact hk X0 X1
theorem f73_4_of (R : Type) (l : List D1) (hb : l.length * 64 ≤ reachBytes) (p : ByteArray) (dp : Int) (h : ∀ i (h : i < l.length), Ev fun k => ∀ (K : Bool → ByteArray → Int → Option R), f87_8 k l[i].c0 l[i].c1 l[i].c2 l[i].c3 p dp K = K (flN own4 (bytesOf p) dp l[i]) p dp) : Ev fun k => ∀ (K : Bool → Option R), f73_4 k l p dp K = K (flL own4 (bytesOf p) dp l) := by
  refine .suc (.suc (.suc ((f62_9_loop R l hb p dp h 0 (Nat.zero_le _)).diag.imp fun k hk K => ?_)))
  rw [f73_4_step, f73_4_s, f86_8_step, f86_8_s, f62_9_step, f62_9_s]
  have hk := hk (fun v9 v10 => K (decide ((-1 : Int) ≥ 0))) (fun v1 v2 v3 => K (decide (v1 ≥ 0)))
  rw [List.drop_zero] at hk
  cases hf : flL own4 (bytesOf p) dp l with
  | false => exact hk.1 hf
  | true =>
    obtain ⟨m, hm⟩ := hk.2 hf
    refine hm.trans ?_
    rw [deT (by omega)]
theorem f87_8_v (R : Type) : ∀ n : D1, OkN n → ∀ (p : ByteArray) (dp : Int), Ev fun k => ∀ (K : Bool → ByteArray → Int → Option R), f87_8 k n.c0 n.c1 n.c2 n.c3 p dp K = K (flN own4 (bytesOf p) dp n) p dp := by
  intro n
  refine D1.ind (P := fun n => OkN n → ∀ (p : ByteArray) (dp : Int), Ev fun k => ∀ (K : Bool → ByteArray → Int → Option R), f87_8 k n.c0 n.c1 n.c2 n.c3 p dp K = K (flN own4 (bytesOf p) dp n) p dp) (fun i d ks g ih ho p dp => ?_) n
  have hk := ho.kids
  have kids := f73_4_of R ks hk.1 (strOf (nameB i)) (IntKind.i64.wrap (dp + 1)) fun j hj => ih _ (List.getElem_mem hj) (hk.2 _ (List.getElem_mem hj)) _ _
  rw [bytesOf_strOf (nameB_ok i)] at kids
  refine .suc ((f28_n R i).imp3 (f71_v R i d ks g p dp) kids fun k h28 hown kids K => ?_)
  show f87_8 (k + 1) i d ks g p dp K = _
  rw [f87_8_step, f87_8_s, h28, hown, flN]
  cases own4 (bytesOf p) dp (D1.mk i d ks g) with
  | true => rfl
  | false => rw [cond_false, kids]; rfl
theorem f73_4_v (R : Type) (l : List D1) (h : OkL l) (p : ByteArray) (dp : Int) : Ev fun k => ∀ (K : Bool → Option R), f73_4 k l p dp K = K (flL own4 (bytesOf p) dp l) :=
  f73_4_of R l h.1 p dp fun i hi => f87_8_v R _ (h.2 _ (List.getElem_mem hi)) p dp
mutual
def cntN : D1 → Nat
  | .mk _ _ ks _ => 1 + cntL ks
def cntL : List D1 → Nat
  | [] => 0
  | x :: l => cntN x + cntL l
end
mutual
def cgN : D1 → Int → Bool × Int
  | .mk _ _ ks _, c => if decide (IntKind.i64.wrap (c + 1) > 4000) = true then (true, IntKind.i64.wrap (c + 1)) else cgL ks (IntKind.i64.wrap (c + 1))
def cgL : List D1 → Int → Bool × Int
  | [], c => (false, c)
  | x :: l, c => if (cgN x c).1 = true then cgN x c else cgL l (cgN x c).2
end
theorem f62_11_loop (R : Type) (l : List D1) (hb : l.length * 64 ≤ reachBytes) (p : ByteArray) (dp : Int) (h : ∀ i (h : i < l.length), Ev fun k => ∀ (c : Int) (K : Bool → Int → ByteArray → Int → Option R), f87_10 k l[i].c0 l[i].c1 l[i].c2 l[i].c3 c p dp K = K (cgN l[i] c).1 (cgN l[i] c).2 p dp) :
    ∀ i, i ≤ l.length → EvB fun q j => ∀ (c : Int) (X0 : Int → ByteArray → Int → Option R) (X1 : Int → Int → ByteArray → Int → Option R), ((cgL (l.drop i) c).1 = false → f62_11_l2 (fun _ => f87_10 q) j l (l.length : Int) (i : Int) c p dp X0 X1 = X0 (cgL (l.drop i) c).2 p dp) ∧ ((cgL (l.drop i) c).1 = true → ∃ m : Nat, f62_11_l2 (fun _ => f87_10 q) j l (l.length : Int) (i : Int) c p dp X0 X1 = X1 (m : Int) (cgL (l.drop i) c).2 p dp) := by
  rw [reachV] at hb
  refine EvB.down l.length ?_ ?_
  · refine EvB.suc (.all fun q j c X0 X1 => ?_)
    rw [List.drop_length, cgL, f62_11_l2, ifF (by omega)]
    exact ⟨fun _ => rfl, fun h => by cases h⟩
  · intro i hi ih
    refine EvB.suc ((ih.and (.left (h i hi))).imp fun q j hk c X0 X1 => ?_)
    obtain ⟨hk, hn⟩ := hk
    rw [List.drop_eq_getElem_cons hi, cgL, f62_11_l2, lt_nat, inb_nat, wrapSuc (by omega)]
    simp only [hi, decide_true, cond_true, Int.toNat_natCast, getD_get hi, hn]
    cases hf : (cgN l[i] c).1 with
    | true => rw [if_pos rfl, hf]; exact ⟨fun h => (by cases h), fun _ => ⟨i, rfl⟩⟩
    | false => rw [if_neg (by decide), cond_false]; exact hk _ X0 X1
theorem f73_5_of (R : Type) (l : List D1) (hb : l.length * 64 ≤ reachBytes) (p : ByteArray) (dp : Int) (h : ∀ i (h : i < l.length), Ev fun k => ∀ (c : Int) (K : Bool → Int → ByteArray → Int → Option R), f87_10 k l[i].c0 l[i].c1 l[i].c2 l[i].c3 c p dp K = K (cgN l[i] c).1 (cgN l[i] c).2 p dp) : Ev fun k => ∀ (c : Int) (K : Bool → Int → Option R), f73_5 k l p dp c K = K (cgL l c).1 (cgL l c).2 := by
  refine .suc (.suc (.suc ((f62_11_loop R l hb p dp h 0 (Nat.zero_le _)).diag.imp fun k hk c K => ?_)))
  rw [f73_5_step, f73_5_s, f86_10_step, f86_10_s, f62_11_step, f62_11_s]
  have hk := hk c (fun v11 v12 v13 => K (decide ((-1 : Int) ≥ 0)) v11) (fun v1 v2 v3 v4 => K (decide (v1 ≥ 0)) v2)
  rw [List.drop_zero] at hk
  cases hf : (cgL l c).1 with
  | false => exact hk.1 hf
  | true =>
    obtain ⟨m, hm⟩ := hk.2 hf
    refine hm.trans ?_
    rw [deT (by omega)]
theorem f87_10_v (R : Type) : ∀ n : D1, OkN n → ∀ (p : ByteArray) (dp : Int), Ev fun k => ∀ (c : Int) (K : Bool → Int → ByteArray → Int → Option R), f87_10 k n.c0 n.c1 n.c2 n.c3 c p dp K = K (cgN n c).1 (cgN n c).2 p dp := by
  intro n
  refine D1.ind (P := fun n => OkN n → ∀ (p : ByteArray) (dp : Int), Ev fun k => ∀ (c : Int) (K : Bool → Int → ByteArray → Int → Option R), f87_10 k n.c0 n.c1 n.c2 n.c3 c p dp K = K (cgN n c).1 (cgN n c).2 p dp) (fun i d ks g ih ho p dp => ?_) n
  have hk := ho.kids
  have kids := f73_5_of R ks hk.1 (strOf (nameB i)) (IntKind.i64.wrap (dp + 1)) fun j hj => ih _ (List.getElem_mem hj) (hk.2 _ (List.getElem_mem hj)) _ _
  refine .suc ((f28_n R i).imp2 kids fun k h28 kids c K => ?_)
  show f87_10 (k + 1) i d ks g c p dp K = _
  rw [f87_10_step, f87_10_s, h28, f72, cgN]
  by_cases hc : IntKind.i64.wrap (c + 1) > 4000
  · rw [deT hc, cond_true, if_pos rfl]
  · rw [deF hc, cond_false, if_neg (by decide), kids]
theorem f73_5_v (R : Type) (l : List D1) (h : OkL l) (p : ByteArray) (dp : Int) : Ev fun k => ∀ (c : Int) (K : Bool → Int → Option R), f73_5 k l p dp c K = K (cgL l c).1 (cgL l c).2 :=
  f73_5_of R l h.1 p dp fun i hi => f87_10_v R _ (h.2 _ (List.getElem_mem hi)) p dp
theorem cg_closed : ∀ n : D1, ∀ c : Int, 0 ≤ c → c ≤ 4000 → (cgN n c).1 = decide (4000 < c + (cntN n : Int)) ∧ (c + (cntN n : Int) ≤ 4000 → (cgN n c).2 = c + (cntN n : Int)) := by
  intro n
  refine D1.rec (motive_1 := fun n => ∀ c : Int, 0 ≤ c → c ≤ 4000 → (cgN n c).1 = decide (4000 < c + (cntN n : Int)) ∧ (c + (cntN n : Int) ≤ 4000 → (cgN n c).2 = c + (cntN n : Int)))
    (motive_2 := fun l => ∀ c : Int, 0 ≤ c → c ≤ 4000 → (cgL l c).1 = decide (4000 < c + (cntL l : Int)) ∧ (c + (cntL l : Int) ≤ 4000 → (cgL l c).2 = c + (cntL l : Int))) ?_ ?_ ?_ n
  · intro i d ks g ih c h0 h1
    rw [cgN, cntN, wr (by omega)]
    by_cases hc : c + 1 > 4000
    · rw [deT hc, if_pos rfl]
      exact ⟨(deT (by omega)).symm, fun h => by omega⟩
    · rw [deF hc, if_neg (by decide)]
      obtain ⟨a, b⟩ := ih (c + 1) (by omega) (by omega)
      refine ⟨by rw [a]; exact decide_eq_decide.2 (by omega), fun h => by rw [b (by omega)]; omega⟩
  · intro c h0 h1
    rw [cgL, cntL]
    exact ⟨(deF (by omega)).symm, fun _ => by simp⟩
  · intro x l ih1 ih2 c h0 h1
    rw [cgL, cntL]
    obtain ⟨a, b⟩ := ih1 c h0 h1
    by_cases hc : 4000 < c + (cntN x : Int)
    · rw [if_pos (by rw [a, deT hc]), a, deT hc]
      exact ⟨(deT (by omega)).symm, fun h => by omega⟩
    · rw [if_neg (by rw [a, deF hc]; decide), b (by omega)]
      obtain ⟨a2, b2⟩ := ih2 (c + (cntN x : Int)) (by omega) (by omega)
      refine ⟨by rw [a2]; exact decide_eq_decide.2 (by omega), fun h => by rw [b2 (by omega)]; omega⟩
theorem cgL_closed (l : List D1) : (cgL l 0).1 = decide (4000 < cntL l) := by
  have h := (cg_closed (.mk 0 [] l true) 0 (by omega) (by omega)).1
  rw [cgN, cntN] at h
  -- one more node
  have e : ∀ c : Int, 0 ≤ c → c ≤ 4000 → (cgL l c).1 = decide (4000 < c + (cntL l : Int)) := by
    induction l with
    | nil => intro c h0 h1; rw [cgL, cntL]; exact (deF (by omega)).symm
    | cons x l ih =>
      intro c h0 h1
      rw [cgL, cntL]
      obtain ⟨a, b⟩ := cg_closed x c h0 h1
      by_cases hc : 4000 < c + (cntN x : Int)
      · rw [if_pos (by rw [a, deT hc]), a, deT hc]
        exact (deT (by omega)).symm
      · rw [if_neg (by rw [a, deF hc]; decide), b (by omega)]
        have h' : (cgN (.mk 0 [] l true) 0).1 = decide (4000 < (0 : Int) + (cntN (.mk 0 [] l true) : Int)) := (cg_closed (.mk 0 [] l true) 0 (by omega) (by omega)).1
        rw [cgN, cntN] at h'
        rw [ih h' _ (by omega) (by omega)]
        exact decide_eq_decide.2 (by omega)
  rw [e 0 (by omega) (by omega)]
  exact decide_eq_decide.2 (by omega)
def chkR (l : List D1) : Int :=
  if flL own1 [] 1 l = true then 80 else if flL own2 [] 1 l = true then 4 else if flL own3 [] 1 l = true then 42 else if flL own4 [] 1 l = true then 43 else if 4000 < cntL l then 2 else 0
/-- Where all names are names, both looks at the holders agree. -/
theorem fl3_eq : ∀ n : D1, (∀ (dp dp' : Int) (p : List Int) (p' : List Int), (isTy p = true ∨ p = []) → flN own1 p' dp' n = false → flN own3P (outer p) dp n = flN own3 p dp n) := by
  intro n
  refine D1.rec (motive_1 := fun n => (∀ (dp dp' : Int) (p : List Int) (p' : List Int), (isTy p = true ∨ p = []) → flN own1 p' dp' n = false → flN own3P (outer p) dp n = flN own3 p dp n))
    (motive_2 := fun l => (∀ (dp dp' : Int) (p : List Int) (p' : List Int), (isTy p = true ∨ p = []) → flL own1 p' dp' l = false → flL own3P (outer p) dp l = flL own3 p dp l)) ?_ ?_ ?_ n
  · intro i d ks g ih dp dp' p p' hp h
    rw [flN, Bool.or_eq_false_iff] at h
    have hid : okId i = true := by have := h.1; simpa [own1, D1.c0] using this
    have hty : isTy (nameB i) = true := by
      rw [nameB, if_pos hid]
      simp only [okId, Bool.and_eq_true] at hid
      exact hid.2
    rw [flN, flN, own3P, own3, mayP_eq hp]
    have := ih (IntKind.i64.wrap (dp + 1)) _ (nameB i) _ (.inl hty) h.2
    rw [outer_ty hty] at this
    rw [this]
  · intro dp dp' p p' hp h; rw [flL, flL]
  · intro x l ih1 ih2 dp dp' p p' hp h
    rw [flL, Bool.or_eq_false_iff] at h
    rw [flL, flL, ih1 dp dp' p p' hp h.1, ih2 dp dp' p p' hp h.2]
theorem fl3L (l : List D1) (h : flL own1 [] 1 l = false) : flL own3P [45] 1 l = flL own3 [] 1 l := by
  induction l with
  | nil => rw [flL, flL]
  | cons x l ih =>
    rw [flL, Bool.or_eq_false_iff] at h
    rw [flL, flL, ih h.2]
    have := fl3_eq x 1 1 [] [] (.inr rfl) h.1
    rw [show outer [] = [45] from rfl] at this
    rw [this]
mutual
theorem fl1N : ∀ (p p' : List Int) (dp dp' : Int) (n : D1), flN own1 p dp n = flN own1 p' dp' n
  | p, p', dp, dp', .mk i d ks g => by rw [flN, flN, fl1L _ (nameB i) _ (IntKind.i64.wrap (dp' + 1)) ks]; rfl
theorem fl1L : ∀ (p p' : List Int) (dp dp' : Int) (l : List D1), flL own1 p dp l = flL own1 p' dp' l
  | _, _, _, _, [] => by rw [flL, flL]
  | p, p', dp, dp', x :: l => by rw [flL, flL, fl1N p p' dp dp' x, fl1L p p' dp dp' l]
end
mutual
theorem fl2N : ∀ (p p' : List Int) (dp dp' : Int) (n : D1), flN own2 p dp n = flN own2 p' dp' n
  | p, p', dp, dp', .mk i d ks g => by rw [flN, flN, fl2L _ (nameB i) _ (IntKind.i64.wrap (dp' + 1)) ks]; rfl
theorem fl2L : ∀ (p p' : List Int) (dp dp' : Int) (l : List D1), flL own2 p dp l = flL own2 p' dp' l
  | _, _, _, _, [] => by rw [flL, flL]
  | p, p', dp, dp', x :: l => by rw [flL, flL, fl2N p p' dp dp' x, fl2L p p' dp dp' l]
end
mutual
theorem fl4N : ∀ (p p' : List Int) (dp : Int) (n : D1), flN own4 p dp n = flN own4 p' dp n
  | p, p', dp, .mk i d ks g => by rw [flN, flN]; rfl
theorem fl4L : ∀ (p p' : List Int) (dp : Int) (l : List D1), flL own4 p dp l = flL own4 p' dp l
  | _, _, _, [] => by rw [flL, flL]
  | p, p', dp, x :: l => by rw [flL, flL, fl4N p p' dp x, fl4L p p' dp l]
end
theorem f47_v (R : Type) (l : List D1) (h : OkL l) : Ev fun k => ∀ (K : Int → Option R), f47 k l K = K (chkR l) := by
  have h1 := f73_v R l h (⟨#[45]⟩ : ByteArray) 1
  have h2 := f73_2_v R l h (⟨#[45]⟩ : ByteArray) 1
  have h3 := f73_3_v R l h (⟨#[45]⟩ : ByteArray) 1
  have h4 := f73_4_v R l h (⟨#[45]⟩ : ByteArray) 1
  have h5 := f73_5_v R l h (⟨#[45]⟩ : ByteArray) 1
  have up : ∀ (a : Nat) {q : Nat → Prop}, Ev q → Ev fun k => q (k + a) := fun a q hq => by obtain ⟨k0, hk⟩ := hq; exact ⟨k0, fun k h => hk _ (by omega)⟩
  refine .plus 6 (((up 5 h1).imp4 (up 4 h2) (up 3 h3) (up 2 h4) fun k a b c d => (⟨a, b, c, d⟩ : _ ∧ _ ∧ _ ∧ _)).imp2 (up 1 h5) fun k hh h5 K => ?_)
  obtain ⟨h1, h2, h3, h4⟩ := hh
  have eb : bytesOf (⟨#[45]⟩ : ByteArray) = [45] := rfl
  rw [f47, f47_l4, deT (by decide), cond_true, show inb 0 5 = true from rfl, cond_true, deT (by decide), cond_true, h1, chkR, eb, fl1L [45] [] 1 1]
  cases hf1 : flL own1 [] 1 l with
  | true => rfl
  | false =>
    rw [cond_false, if_neg (by decide), show IntKind.i64.wrap ((0 : Int) + 1) = 1 from rfl, f47_l4, deT (by decide), cond_true, show inb 1 5 = true from rfl, cond_true, deF (by decide), cond_false, deT (by decide), cond_true, h2, eb, fl2L [45] [] 1 1]
    cases flL own2 [] 1 l with
    | true => rfl
    | false =>
      rw [cond_false, if_neg (by decide), show IntKind.i64.wrap ((1 : Int) + 1) = 2 from rfl, f47_l4, deT (by decide), cond_true, show inb 2 5 = true from rfl, cond_true, deF (by decide), cond_false, deF (by decide), cond_false, deT (by decide), cond_true, h3, eb, fl3L l hf1]
      cases flL own3 [] 1 l with
      | true => rfl
      | false =>
        rw [cond_false, if_neg (by decide), show IntKind.i64.wrap ((2 : Int) + 1) = 3 from rfl, f47_l4, deT (by decide), cond_true, show inb 3 5 = true from rfl, cond_true, deF (by decide), cond_false, deF (by decide), cond_false, deF (by decide), cond_false, deT (by decide), cond_true, h4, eb, fl4L [45] [] 1]
        cases flL own4 [] 1 l with
        | true => rfl
        | false =>
          rw [cond_false, if_neg (by decide), show IntKind.i64.wrap ((3 : Int) + 1) = 4 from rfl, f47_l4, deT (by decide), cond_true, show inb 4 5 = true from rfl, cond_true, deF (by decide), cond_false, deF (by decide), cond_false, deF (by decide), cond_false, deF (by decide), cond_false, deT (by decide), cond_true, h5, cgL_closed]
          by_cases c : 4000 < cntL l
          · rw [if_pos c, deT c]; rfl
          · rw [if_neg c, deF c, cond_false, show IntKind.i64.wrap ((4 : Int) + 1) = 5 from rfl, f47_l4, deF (by decide)]; rfl
mutual
def wtN : D1 → Nat
  | .mk _ d ks _ => 1 + d.length + wtL ks
def wtL : List D1 → Nat
  | [] => 0
  | x :: l => wtN x + wtL l
end
mutual
/-- The bytes of a tree. -/
def wrN (long : Bool) : D1 → List Int
  | .mk id d ks g => boxB id (if g = true then wrL long ks else d) long
def wrL (long : Bool) : List D1 → List Int
  | [] => []
  | x :: l => wrN long x ++ wrL long l
end
theorem wt_mem : ∀ {l : List D1} {x : D1}, x ∈ l → wtN x ≤ wtL l
  | y :: l, x, h => by
    rw [wtL]
    rcases List.mem_cons.1 h with rfl | h
    · omega
    · have := wt_mem h; omega
theorem wt_len (l : List D1) : l.length ≤ wtL l := by
  induction l with
  | nil => simp
  | cons x l ih =>
    cases x with
    | mk i d ks g => rw [wtL, wtN, List.length_cons]; omega
theorem wrN_len (long : Bool) : ∀ n : D1, (wrN long n).length ≤ 16 * wtN n := by
  intro n
  refine D1.rec (motive_1 := fun n => (wrN long n).length ≤ 16 * wtN n) (motive_2 := fun l => (wrL long l).length ≤ 16 * wtL l) ?_ ?_ ?_ n
  · intro i d ks g ih
    rw [wrN, boxB_len, wtN]
    cases g <;> cases long <;> simp <;> omega
  · rw [wrL]; simp
  · intro x l h1 h2; rw [wrL, wtL, List.length_append]; omega
theorem wrL_len (long : Bool) : ∀ l : List D1, (wrL long l).length ≤ 16 * wtL l
  | [] => by rw [wrL]; simp
  | x :: l => by have := wrN_len long x; have := wrL_len long l; rw [wrL, wtL, List.length_append]; omega
theorem okId_range {id : Int} (h : okId id = true) : 0 ≤ id ∧ id < 4294967296 := by
  simp only [okId, Bool.and_eq_true, decide_eq_true_eq] at h
  exact h.1
theorem fl1_cons {x : D1} {l : List D1} (h : flL own1 [] 1 (x :: l) = false) : okId x.c0 = true ∧ flL own1 [] 1 x.c2 = false ∧ flL own1 [] 1 l = false := by
  rw [flL, Bool.or_eq_false_iff] at h
  cases x with
  | mk i d ks g =>
    rw [flN, Bool.or_eq_false_iff, fl1L (nameB i) [] _ 1] at h
    exact ⟨by simpa [own1, D1.c0] using h.1.1, h.1.2, h.2⟩
theorem fl1_mem : ∀ {l : List D1}, flL own1 [] 1 l = false → ∀ x ∈ l, okId x.c0 = true ∧ flL own1 [] 1 x.c2 = false
  | y :: l, h, x, hx => by
    have := fl1_cons h
    rcases List.mem_cons.1 hx with rfl | hx
    · exact ⟨this.1, this.2.1⟩
    · exact fl1_mem this.2.2 x hx
theorem f82_loop (R : Type) (long : Bool) (l : List D1) (hb : wtL l ≤ 2097152) (hid : flL own1 [] 1 l = false) (h : ∀ i (h : i < l.length), Ev fun k => ∀ (K : List Int → Option R), f82 k l[i].c2 long K = K (wrL long l[i].c2)) :
    ∀ i, i ≤ l.length → EvB fun q j => ∀ (out : List Int) (X0 : List Int → Option R), out.length + 16 * wtL (l.drop i) ≤ 67108864 → f82_l3 (fun _ => f82 q) j long l (l.length : Int) (i : Int) out X0 = X0 (out ++ wrL long (l.drop i)) := by
  have hl := wt_len l
  refine EvB.down l.length ?_ ?_
  · refine EvB.suc (.all fun q j out X0 _ => ?_)
    rw [List.drop_length, wrL, f82_l3, ifF (by omega), List.append_nil]
  · intro i hi ih
    have hm := fl1_mem hid _ (List.getElem_mem hi)
    have hr := okId_range hm.1
    refine EvB.suc (((ih.and (.left (h i hi))).and (EvB.right (f51_v R))).imp fun q j hk out X0 ho => ?_)
    obtain ⟨⟨hk, hn⟩, h51⟩ := hk
    have hw := wt_mem (List.getElem_mem hi)
    rw [List.drop_eq_getElem_cons hi, wtL] at ho
    rw [List.drop_eq_getElem_cons hi, wrL, f82_l3, lt_nat, inb_nat, wrapSuc (by omega)]
    simp only [hi, decide_true, cond_true, Int.toNat_natCast, getD_get hi, hn]
    have hn16 := wrN_len long l[i]
    have ew : wrN long l[i] = boxB l[i].c0 (if l[i].c3 = true then wrL long l[i].c2 else l[i].c1) long := by
      cases l[i] with
      | mk a b c d => rw [wrN]; rfl
    have ewt : 1 + l[i].c1.length + wtL l[i].c2 = wtN l[i] := by
      cases l[i] with
      | mk a b c d => rw [wtN]; rfl
    have hkl := wrL_len long l[i].c2
    cases hg : l[i].c3 with
    | true =>
      rw [hg, if_pos rfl] at ew
      rw [cond_true, h51 _ _ _ _ hr.1 hr.2 (by omega), ← ew, roT (by omega), cond_true, hk _ _ (by rw [List.length_append]; omega), List.append_assoc]
    | false =>
      rw [hg, if_neg (by decide)] at ew
      rw [cond_false, h51 _ _ _ _ hr.1 hr.2 (by omega), ← ew, roT (by omega), cond_true, hk _ _ (by rw [List.length_append]; omega), List.append_assoc]
theorem f82_n (R : Type) (long : Bool) : ∀ n : D1, wtN n ≤ 2097153 → flL own1 [] 1 n.c2 = false → Ev fun k => ∀ (K : List Int → Option R), f82 k n.c2 long K = K (wrL long n.c2) := by
  intro n
  refine D1.ind (P := fun n => wtN n ≤ 2097153 → flL own1 [] 1 n.c2 = false → Ev fun k => ∀ (K : List Int → Option R), f82 k n.c2 long K = K (wrL long n.c2)) (fun i d ks g ih hw hid => ?_) n
  rw [wtN] at hw
  have hid : flL own1 [] 1 ks = false := hid
  refine .suc ((f82_loop R long ks (by omega) hid (fun j hj => ih _ (List.getElem_mem hj) (by have := wt_mem (List.getElem_mem hj); omega) (fl1_mem hid _ (List.getElem_mem hj)).2) 0 (Nat.zero_le _)).diag.imp fun k hk K => ?_)
  show f82 (k + 1) ks long K = K (wrL long ks)
  rw [f82_step, f82_s]
  exact hk [] K (by rw [List.drop_zero]; simp; omega)
theorem f82_v (R : Type) (long : Bool) (l : List D1) (hw : wtL l ≤ 2097152) (hid : flL own1 [] 1 l = false) : Ev fun k => ∀ (K : List Int → Option R), f82 k l long K = K (wrL long l) :=
  f82_n R long (.mk 0 [] l true) (by rw [wtN]; simp; omega) hid
theorem wrN_8 (long : Bool) (n : D1) : 8 ≤ (wrN long n).length := by
  cases n with
  | mk i d ks g => rw [wrN, boxB_len]; split <;> omega
theorem chk_own1 {l : List D1} (h : chkR l = 0) : flL own1 [] 1 l = false ∧ flL own2 [] 1 l = false ∧ flL own3 [] 1 l = false ∧ flL own4 [] 1 l = false ∧ cntL l ≤ 4000 := by
  unfold chkR at h
  split at h
  · simp at h
  · split at h
    · simp at h
    · split at h
      · simp at h
      · split at h
        · simp at h
        · split at h
          · simp at h
          · rename_i a b c d e
            exact ⟨Bool.eq_false_iff.2 a, Bool.eq_false_iff.2 b, Bool.eq_false_iff.2 c, Bool.eq_false_iff.2 d, by omega⟩
theorem f65_v (R : Type) (long : Bool) (l : List D1) (h : OkL l) (hw : wtL l ≤ 2097152 / 2) : Ev fun k => ∀ (K : Int → List Int → Option R), f65 k l long K = if chkR l ≠ 0 then K (chkR l) [] else if 1048576 < (wrL long l).length then K 2 [] else K 0 (wrL long l) := by
  by_cases c : chkR l = 0
  · refine (f47_v R l h).imp2 (f82_v R long l (by omega) (chk_own1 c).1) fun k h47 h82 K => ?_
    rw [f65, h47, bnF c, cond_false, h82, if_neg (fun h => h c)]
    by_cases c2 : 1048576 < (wrL long l).length
    · rw [if_pos c2, deT (by omega)]; rfl
    · rw [if_neg c2, deF (by omega)]; rfl
  · refine (f47_v R l h).imp fun k h47 K => ?_
    rw [f65, h47, bnT c, cond_true, if_pos c]
theorem lev_mono {b : List Int} : ∀ (n : Nat) {en dp : Nat} {p : List Int} {at_ nd : Nat} {pl : List D0} {acc : List D1} {r : Res}, lev b n en dp p at_ nd pl acc = some r → lev b (n + 1) en dp p at_ nd pl acc = some r := by
  intro n
  induction n with
  | zero => intro en dp p at_ nd pl acc r e; simp [lev] at e
  | succ n ih =>
    intro en dp p at_ nd pl acc r e
    rw [lev] at e ⊢
    split at e
    · rename_i lt
      rw [if_pos lt]
      split at e
      · exact e
      · rename_i h sz nm hd
        first | (rw [hd]; dsimp only) | skip
        split at e
        · rename_i c; rw [if_pos c]; exact e
        · rename_i c
          rw [if_neg c]
          split at e
          · rename_i c; rw [if_pos c]; exact ih e
          · rename_i c
            rw [if_neg c]
            split at e
            · rename_i c; rw [if_pos c]; exact e
            · rename_i c
              rw [if_neg c]
              split at e
              · rename_i c
                rw [if_pos c]
                split at e
                · rename_i kids nd' pl' he
                  rw [ih he]; exact ih e
                · rename_i hr
                  rw [ih e]
                  cases r with
                  | bad c a => rfl
                  | fine kids nd' pl' => exact absurd e (hr kids nd' pl')
              · rename_i c
                rw [if_neg c]; exact ih e
    · rename_i lt
      rw [if_neg lt]; exact e
theorem lev_le {b : List Int} {n m : Nat} (h : n ≤ m) {en dp : Nat} {p : List Int} {at_ nd : Nat} {pl : List D0} {acc : List D1} {r : Res} (e : lev b n en dp p at_ nd pl acc = some r) : lev b m en dp p at_ nd pl acc = some r := by
  obtain ⟨d, rfl⟩ := Nat.le.dest h
  induction d with
  | zero => exact e
  | succ d ih => exact lev_mono _ (ih (by omega))
theorem doc_of {b : List Int} (hl : b.length ≤ 1048576) {r : Res} (h : Ev fun m => lev b m b.length 1 [] 0 0 [] [] = some r) : docR b = r := by
  obtain ⟨k, hk⟩ := h
  have h1 := lev_le (Nat.le_max_left (b.length + 1) k) (doc_lev hl)
  have h2 : lev b (max (b.length + 1) k) b.length 1 [] 0 0 [] [] = some r := hk (max (b.length + 1) k) (Nat.le_max_right _ _)
  rw [h1] at h2
  exact Option.some.inj h2
theorem valF_app : ∀ (l m : List Int) (v : Int), valF (l ++ m) v = valF m (valF l v)
  | [], m, v => by simp [valF]
  | x :: l, m, v => by rw [List.cons_append, valF_cons, valF_cons, valF_app l m]
theorem valF_beB : ∀ (n : Nat) (w : Int), 0 ≤ w → w < 256 ^ n → valF (beB n w) 0 = w
  | 0, w, h0, h1 => by rw [beB]; simp [valF] at *; omega
  | n + 1, w, h0, h1 => by
    rw [Int.pow_succ] at h1
    rw [beB, valF_app, valF_beB n (w / 256) (by omega) (by omega)]
    simp only [valF_cons, valF, List.foldl]
    omega
theorem drop_at {b u v : List Int} {at_ : Nat} (h : b.drop at_ = u ++ v) : b.drop (at_ + u.length) = v := by
  rw [← List.drop_drop, h, List.drop_left]
theorem take_at {b u v : List Int} {at_ n : Nat} (h : b.drop at_ = u ++ v) (hn : n = u.length) : (b.drop at_).take n = u := by
  rw [h, hn, List.take_left]
theorem len_at {b u v : List Int} {at_ : Nat} (h : b.drop at_ = u ++ v) (hu : 0 < u.length) : at_ + u.length ≤ b.length := by
  have := congrArg List.length h
  rw [List.length_drop, List.length_append] at this
  omega
theorem head_box {b rest d : List Int} {id : Int} {long : Bool} {at_ en dp : Nat} (h : b.drop at_ = boxB id d long ++ rest) (hd : d.length ≤ 4294967000) (hen : at_ + (boxB id d long).length ≤ en) (hb : en ≤ b.length) :
    headR b at_ en dp = .ok (if long = true then 16 else 8) (boxB id d long).length (beB 4 id) ∧ (b.take (at_ + (boxB id d long).length)).drop (at_ + (if long = true then 16 else 8)) = d := by
  have len := boxB_len id d long
  have p4 : (256 : Int) ^ 4 = 4294967296 := by decide
  have p8 : (256 : Int) ^ 8 = 18446744073709551616 := by decide
  cases long with
  | false =>
    rw [if_neg (by decide)] at len ⊢
    have e : boxB id d false = beB 4 (8 + (d.length : Int)) ++ (beB 4 id ++ d) := by rw [boxB, if_neg (by decide), List.append_assoc]
    rw [e, List.append_assoc] at h
    have n1 : numB b at_ 4 = 8 + (d.length : Int) := by
      rw [numB, take_at h (by rw [beB_len]), valF_beB 4 _ (by omega) (by omega)]
    have h2 := drop_at h
    rw [beB_len, List.append_assoc] at h2
    have n2 : (b.drop (at_ + 4)).take 4 = beB 4 id := take_at h2 (by rw [beB_len])
    have h3 := drop_at h2
    rw [beB_len, Nat.add_assoc] at h3
    refine ⟨?_, ?_⟩
    · rw [headR, if_neg (by omega), if_neg (by omega), if_neg (by omega), if_neg (by omega), if_neg (by omega), n1, n2, len]
      congr 1 <;> omega
    · rw [List.drop_take, h3, len, show at_ + (8 + d.length) - (at_ + 8) = d.length by omega, List.take_left]
  | true =>
    rw [if_pos rfl] at len ⊢
    have e : boxB id d true = beB 4 1 ++ (beB 4 id ++ (beB 8 (16 + (d.length : Int)) ++ d)) := by rw [boxB, if_pos rfl]; simp only [List.append_assoc]
    rw [e, List.append_assoc] at h
    have n1 : numB b at_ 4 = 1 := by
      rw [numB, take_at h (by rw [beB_len]), valF_beB 4 _ (by omega) (by omega)]
    have h2 := drop_at h
    rw [beB_len, List.append_assoc] at h2
    have n2 : (b.drop (at_ + 4)).take 4 = beB 4 id := take_at h2 (by rw [beB_len])
    have h3 := drop_at h2
    rw [beB_len, Nat.add_assoc, List.append_assoc] at h3
    have n3 : numB b (at_ + 8) 8 = 16 + (d.length : Int) := by
      rw [numB, take_at h3 (by rw [beB_len]), valF_beB 8 _ (by omega) (by omega)]
    have h4 := drop_at h3
    rw [beB_len, Nat.add_assoc] at h4
    refine ⟨?_, ?_⟩
    · rw [headR, if_neg (by omega), if_pos n1, if_neg (by omega), if_neg (by omega), if_neg (by omega), n3, n2, len]
      congr 1 <;> omega
    · rw [List.drop_take, h4, len, show at_ + (16 + d.length) - (at_ + (8 + 8)) = d.length by omega, List.take_left]
theorem nameB_nm {id : Int} (h : okId id = true) : nameB id = beB 4 id ∧ isTy (nameB id) = true ∧ valF (nameB id) 0 = id := by
  have hr := okId_range h
  have p4 : (256 : Int) ^ 4 = 4294967296 := by decide
  have e : nameB id = beB 4 id := by rw [nameB, if_pos h]
  refine ⟨e, ?_, by rw [e]; exact valF_beB 4 id hr.1 (by omega)⟩
  rw [e]
  simp only [okId, Bool.and_eq_true] at h
  exact h.2
/-- What every look says of one node. -/
structure Fair (p : List Int) (dp : Nat) (i : Int) (d : List Int) (ks : List D1) (g : Bool) : Prop where
  id : okId i = true
  gr : isG (nameB i) = g
  leaf : g = false → ks = []
  data : g = true → d = []
  notFree : nameB i ≠ n_free
  may : may (nameB i) p = true
  deep : dp ≤ 8
  k1 : flL own1 [] 1 ks = false
  k2 : flL own2 [] 1 ks = false
  k3 : flL own3 (nameB i) 1 ks = false
  k4 : flL own4 [] ((dp + 1 : Nat) : Int) ks = false
mutual
theorem fl3dN : ∀ (p : List Int) (dp dp' : Int) (n : D1), flN own3 p dp n = flN own3 p dp' n
  | p, dp, dp', .mk i d ks g => by rw [flN, flN, fl3dL _ (IntKind.i64.wrap (dp + 1)) (IntKind.i64.wrap (dp' + 1)) ks]; rfl
theorem fl3dL : ∀ (p : List Int) (dp dp' : Int) (l : List D1), flL own3 p dp l = flL own3 p dp' l
  | _, _, _, [] => by rw [flL, flL]
  | p, dp, dp', x :: l => by rw [flL, flL, fl3dN p dp dp' x, fl3dL p dp dp' l]
end
theorem fair {p : List Int} {dp : Nat} {i : Int} {d : List Int} {ks : List D1} {g : Bool} (h1 : flN own1 [] 1 (.mk i d ks g) = false) (h2 : flN own2 [] 1 (.mk i d ks g) = false) (h3 : flN own3 p 1 (.mk i d ks g) = false) (h4 : flN own4 [] (dp : Int) (.mk i d ks g) = false) : Fair p dp i d ks g := by
  rw [flN, Bool.or_eq_false_iff] at h1 h2 h3 h4
  have hid : okId i = true := by simpa [own1, D1.c0] using h1.1
  have o2 := h2.1
  simp only [own2, D1.c0, D1.c1, D1.c2, D1.c3, Bool.or_eq_false_iff, Bool.not_eq_false', beq_iff_eq, Bool.and_eq_false_iff, decide_eq_false_iff_not] at o2
  obtain ⟨g1, g2, g3, g4⟩ := o2
  have o3 : may (nameB i) p = true := by simpa [own3, D1.c0] using h3.1
  have o4 : (dp : Int) ≤ 8 := by have := h4.1; simp only [own4, decide_eq_false_iff_not] at this; omega
  have k1 := h1.2
  have k2 := h2.2
  have k3 := h3.2
  have k4 := h4.2
  rw [fl1L _ [] _ 1] at k1
  rw [fl2L _ [] _ 1] at k2
  rw [fl3dL _ _ 1] at k3
  rw [fl4L _ [], wrapSuc (by omega)] at k4
  refine ⟨hid, g1.symm, fun hg => ?_, fun hg => ?_, of_decide_eq_false g4, o3, by omega, k1, k2, k3, k4⟩
  · subst hg
    rcases g2 with g2 | g2
    · simp at g2
    · have g2 := of_decide_eq_false g2
      exact List.length_eq_zero_iff.1 (by omega)
  · subst hg
    rcases g3 with g3 | g3
    · simp at g3
    · have g3 := of_decide_eq_false g3
      exact List.length_eq_zero_iff.1 (by omega)
/-- One box that is read. -/
theorem lev_step {b : List Int} {p : List Int} {dp : Nat} {i : Int} {d : List Int} {ks : List D1} {g : Bool} (f : Fair p dp i d ks g) {at_ en nd h sz : Nat} {pl : List D0} {acc : List D1} (lt : at_ < en) (hd : headR b at_ en dp = .ok h sz (beB 4 i)) :
    (4000 < nd + 1 → Ev fun m => lev b m en dp p at_ nd pl acc = some (.bad 2 at_)) ∧ (nd + 1 ≤ 4000 →
      (g = false → (b.take (at_ + sz)).drop (at_ + h) = d → ∀ r, (Ev fun m => lev b m en dp p (at_ + sz) (nd + 1) (pl ++ [plc (beB 4 i) at_ h sz dp]) (acc ++ [.mk i d ks g]) = some r) → Ev fun m => lev b m en dp p at_ nd pl acc = some r) ∧
      (g = true → (∀ nd' pl', (Ev fun m => lev b m (at_ + sz) (dp + 1) (nameB i) (at_ + h) (nd + 1) (pl ++ [plc (beB 4 i) at_ h sz dp]) [] = some (.fine ks nd' pl')) → ∀ r, (Ev fun m => lev b m en dp p (at_ + sz) nd' pl' (acc ++ [.mk i d ks g]) = some r) → Ev fun m => lev b m en dp p at_ nd pl acc = some r) ∧
        (∀ c a, (Ev fun m => lev b m (at_ + sz) (dp + 1) (nameB i) (at_ + h) (nd + 1) (pl ++ [plc (beB 4 i) at_ h sz dp]) [] = some (.bad c a)) → Ev fun m => lev b m en dp p at_ nd pl acc = some (.bad c a)))) := by
  obtain ⟨en1, ety, ev⟩ := nameB_nm f.id
  have hc : chkE (beB 4 i) p dp = 0 := by
    rw [← en1, chkE, if_neg (by rw [ety]; decide), if_neg (by rw [f.may]; decide), if_neg (by have := f.deep; omega)]
  have hf : beB 4 i ≠ n_free := by rw [← en1]; exact f.notFree
  have start : ∀ m, lev b (m + 1) en dp p at_ nd pl acc = if 4000 < nd + 1 then some (.bad 2 at_)
        else if isG (beB 4 i) = true then
          match lev b m (at_ + sz) (dp + 1) (beB 4 i) (at_ + h) (nd + 1) (pl ++ [plc (beB 4 i) at_ h sz dp]) [] with
          | some (.fine kids nd' pl') => lev b m en dp p (at_ + sz) nd' pl' (acc ++ [D1.mk (valF (beB 4 i) 0) [] kids true])
          | r => r
        else lev b m en dp p (at_ + sz) (nd + 1) (pl ++ [plc (beB 4 i) at_ h sz dp]) (acc ++ [D1.mk (valF (beB 4 i) 0) ((b.take (at_ + sz)).drop (at_ + h)) [] false]) := by
    intro m
    rw [lev, if_pos lt, hd]
    dsimp only
    rw [hc, if_neg (by decide), if_neg hf]
    try rfl
  refine ⟨fun hn => .suc (.all fun m => by rw [start, if_pos hn]), fun hn => ⟨fun hg hdata r hr => ?_, fun hg => ⟨fun nd' pl' hk r hr => ?_, fun c a hk => ?_⟩⟩⟩
  · refine .suc (hr.imp fun m hm => ?_)
    rw [start, if_neg (by omega), ← en1, f.gr, hg, if_neg (by decide), hdata, ev]
    have := f.leaf hg
    rw [hg, this, ← en1] at hm
    exact hm
  · refine .suc (hk.imp2 hr fun m hk hm => ?_)
    rw [start, if_neg (by omega), ← en1, f.gr, hg, if_pos rfl]
    rw [← en1] at hk
    rw [hk, ev]
    have := f.data hg
    rw [hg, this] at hm
    exact hm
  · refine .suc (hk.imp fun m hk => ?_)
    rw [start, if_neg (by omega), ← en1, f.gr, hg, if_pos rfl]
    rw [← en1] at hk
    rw [hk]
/-- What reading a written list comes to. -/
def Reads (b : List Int) (en dp : Nat) (p : List Int) (at_ nd : Nat) (pl : List D0) (acc : List D1) (len cnt : Nat) (l : List D1) : Prop :=
  (nd + cnt ≤ 4000 → ∃ new, ∀ r, (Ev fun m => lev b m en dp p (at_ + len) (nd + cnt) (pl ++ new) (acc ++ l) = some r) → Ev fun m => lev b m en dp p at_ nd pl acc = some r) ∧
  (4000 < nd + cnt → nd ≤ 4000 → ∃ a, Ev fun m => lev b m en dp p at_ nd pl acc = some (.bad 2 a))
theorem lev_wr (long : Bool) {b : List Int} (hb : b.length ≤ 1048576) : ∀ n : D1, ∀ (en dp : Nat) (p : List Int) (at_ nd : Nat) (pl : List D0) (acc : List D1) (rest : List Int), b.drop at_ = wrN long n ++ rest → at_ + (wrN long n).length ≤ en → en ≤ b.length →
    flN own1 [] 1 n = false → flN own2 [] 1 n = false → flN own3 p 1 n = false → flN own4 [] (dp : Int) n = false → Reads b en dp p at_ nd pl acc (wrN long n).length (cntN n) [n] := by
  intro n
  refine D1.rec (motive_1 := fun n => ∀ (en dp : Nat) (p : List Int) (at_ nd : Nat) (pl : List D0) (acc : List D1) (rest : List Int), b.drop at_ = wrN long n ++ rest → at_ + (wrN long n).length ≤ en → en ≤ b.length →
    flN own1 [] 1 n = false → flN own2 [] 1 n = false → flN own3 p 1 n = false → flN own4 [] (dp : Int) n = false → Reads b en dp p at_ nd pl acc (wrN long n).length (cntN n) [n])
    (motive_2 := fun l => ∀ (en dp : Nat) (p : List Int) (at_ nd : Nat) (pl : List D0) (acc : List D1) (rest : List Int), b.drop at_ = wrL long l ++ rest → at_ + (wrL long l).length ≤ en → en ≤ b.length →
    flL own1 [] 1 l = false → flL own2 [] 1 l = false → flL own3 p 1 l = false → flL own4 [] (dp : Int) l = false → Reads b en dp p at_ nd pl acc (wrL long l).length (cntL l) l) ?_ ?_ ?_ n
  · intro i d ks g ih en dp p at_ nd pl acc rest hdrop hlen hen h1 h2 h3 h4
    have f := fair h1 h2 h3 h4
    have h8 := wrN_8 long (.mk i d ks g)
    have hat := len_at hdrop (by omega)
    have ew : wrN long (.mk i d ks g) = boxB i (if g = true then wrL long ks else d) long := by rw [wrN]
    have hcl : (if g = true then wrL long ks else d).length ≤ 4294967000 := by
      have := boxB_len i (if g = true then wrL long ks else d) long
      rw [← ew] at this
      have : (if g = true then wrL long ks else d).length ≤ (wrN long (.mk i d ks g)).length := by omega
      omega
    have hdrop' := hdrop
    have el0 : (wrN long (.mk i d ks g)).length = (boxB i (if g = true then wrL long ks else d) long).length := congrArg _ ew
    rw [ew] at hdrop' hlen
    obtain ⟨hd, hsl⟩ := head_box (dp := dp) hdrop' hcl hlen hen
    rw [← ew] at hd hsl
    have st := lev_step f (pl := pl) (acc := acc) (nd := nd) (by omega) hd
    rw [cntN]
    cases g with
    | false =>
      have hks := f.leaf rfl
      subst hks
      simp only [Bool.false_eq_true, ↓reduceIte] at hsl
      rw [cntL]
      refine ⟨fun hn => ⟨_, fun r hr => (st.2 (by omega)).1 rfl hsl r hr⟩, fun hn h0 => ⟨_, st.1 (by omega)⟩⟩
    | true =>
      simp only [↓reduceIte] at hsl ew hcl hlen
      -- the kids
      have hlenb := boxB_len i (wrL long ks) long
      rw [← ew] at hlenb hlen
      generalize hh : (if long = true then 16 else 8 : Nat) = hsz at *
      have kat : b.drop (at_ + hsz) = wrL long ks ++ rest := by
        have e : wrN long (.mk i d ks true) = (wrN long (.mk i d ks true)).take hsz ++ wrL long ks := by
          rw [ew, boxB]
          cases long with
          | true =>
            obtain rfl : (16 : Nat) = hsz := by simpa using hh
            rw [if_pos rfl, List.take_append_of_le_length (by simp [beB_len]), List.take_of_length_le (by simp [beB_len])]
          | false =>
            obtain rfl : (8 : Nat) = hsz := by simpa using hh
            rw [if_neg (by decide), List.take_append_of_le_length (by simp [beB_len]), List.take_of_length_le (by simp [beB_len])]
        have el : ((wrN long (.mk i d ks true)).take hsz).length = hsz := by rw [List.length_take]; omega
        rw [e, List.append_assoc] at hdrop
        have := drop_at hdrop
        rw [el] at this
        exact this
      have hend : at_ + hsz + (wrL long ks).length = at_ + (wrN long (.mk i d ks true)).length := by omega
      have kids := ih (at_ + (wrN long (.mk i d ks true)).length) (dp + 1) (nameB i) (at_ + hsz) (nd + 1) (pl ++ [plc (beB 4 i) at_ hsz (wrN long (.mk i d ks true)).length dp]) [] rest kat (by omega) (by omega) f.k1 f.k2 f.k3 f.k4
      refine ⟨fun hn => ?_, fun hn h0 => ?_⟩
      · obtain ⟨new, hk⟩ := kids.1 (by omega)
        have hk := hk (.fine ks (nd + 1 + cntL ks) ((pl ++ [plc (beB 4 i) at_ hsz (wrN long (.mk i d ks true)).length dp]) ++ new)) (.suc (.all fun m => by
          rw [lev, if_neg (by omega)]; rfl))
        refine ⟨[plc (beB 4 i) at_ hsz (wrN long (.mk i d ks true)).length dp] ++ new, fun r hr => ?_⟩
        refine ((st.2 (by omega)).2 rfl).1 _ _ hk r ?_
        rw [List.append_assoc, Nat.add_assoc]
        exact hr
      · by_cases c : 4000 < nd + 1
        · exact ⟨_, st.1 c⟩
        · obtain ⟨a, hk⟩ := kids.2 (by omega) (by omega)
          exact ⟨a, ((st.2 (by omega)).2 rfl).2 _ _ hk⟩
  · intro en dp p at_ nd pl acc rest _ _ _ _ _ _ _
    rw [wrL, cntL]
    refine ⟨fun _ => ⟨[], fun r hr => ?_⟩, fun h h0 => by omega⟩
    simpa using hr
  · intro x l ih1 ih2 en dp p at_ nd pl acc rest hdrop hlen hen h1 h2 h3 h4
    rw [flL, Bool.or_eq_false_iff] at h1 h2 h3 h4
    rw [wrL, List.append_assoc] at hdrop
    rw [wrL, List.length_append] at hlen
    rw [wrL, cntL, List.length_append]
    have a := ih1 en dp p at_ nd pl acc _ hdrop (by omega) hen h1.1 h2.1 h3.1 h4.1
    have b' : ∀ (nd : Nat) (pl : List D0) (acc : List D1), Reads b en dp p (at_ + (wrN long x).length) nd pl acc (wrL long l).length (cntL l) l := fun nd pl acc => ih2 en dp p _ nd pl acc rest (drop_at hdrop) (by omega) hen h1.2 h2.2 h3.2 h4.2
    refine ⟨fun hn => ?_, fun hn h0 => ?_⟩
    · obtain ⟨n1, f1⟩ := a.1 (by omega)
      obtain ⟨n2, f2⟩ := (b' (nd + cntN x) (pl ++ n1) (acc ++ [x])).1 (by omega)
      refine ⟨n1 ++ n2, fun r hr => f1 r (f2 r ?_)⟩
      rw [Nat.add_assoc, Nat.add_assoc nd, List.append_assoc, List.append_assoc]
      exact hr
    · by_cases c : 4000 < nd + cntN x
      · exact a.2 c h0
      · obtain ⟨n1, f1⟩ := a.1 (by omega)
        obtain ⟨e, f2⟩ := (b' (nd + cntN x) (pl ++ n1) (acc ++ [x])).2 (by omega) (by omega)
        exact ⟨e, f1 _ f2⟩
theorem lev_wrL (long : Bool) {b : List Int} (hb : b.length ≤ 1048576) : ∀ (l : List D1) (en dp : Nat) (p : List Int) (at_ nd : Nat) (pl : List D0) (acc : List D1) (rest : List Int), b.drop at_ = wrL long l ++ rest → at_ + (wrL long l).length ≤ en → en ≤ b.length →
    flL own1 [] 1 l = false → flL own2 [] 1 l = false → flL own3 p 1 l = false → flL own4 [] (dp : Int) l = false → Reads b en dp p at_ nd pl acc (wrL long l).length (cntL l) l := by
  intro l
  induction l with
  | nil =>
    intro en dp p at_ nd pl acc rest _ _ _ _ _ _ _
    rw [wrL, cntL]
    refine ⟨fun _ => ⟨[], fun r hr => ?_⟩, fun h h0 => by omega⟩
    simpa using hr
  | cons x l ih =>
    intro en dp p at_ nd pl acc rest hdrop hlen hen h1 h2 h3 h4
    rw [flL, Bool.or_eq_false_iff] at h1 h2 h3 h4
    rw [wrL, List.append_assoc] at hdrop
    rw [wrL, List.length_append] at hlen
    rw [wrL, cntL, List.length_append]
    have a := lev_wr long hb x en dp p at_ nd pl acc _ hdrop (by omega) hen h1.1 h2.1 h3.1 h4.1
    have b' : ∀ (nd : Nat) (pl : List D0) (acc : List D1), Reads b en dp p (at_ + (wrN long x).length) nd pl acc (wrL long l).length (cntL l) l := fun nd pl acc => ih en dp p _ nd pl acc rest (drop_at hdrop) (by omega) hen h1.2 h2.2 h3.2 h4.2
    refine ⟨fun hn => ?_, fun hn h0 => ?_⟩
    · obtain ⟨n1, f1⟩ := a.1 (by omega)
      obtain ⟨n2, f2⟩ := (b' (nd + cntN x) (pl ++ n1) (acc ++ [x])).1 (by omega)
      refine ⟨n1 ++ n2, fun r hr => f1 r (f2 r ?_)⟩
      rw [Nat.add_assoc, Nat.add_assoc nd, List.append_assoc, List.append_assoc]
      exact hr
    · by_cases c : 4000 < nd + cntN x
      · exact a.2 c h0
      · obtain ⟨n1, f1⟩ := a.1 (by omega)
        obtain ⟨e, f2⟩ := (b' (nd + cntN x) (pl ++ n1) (acc ++ [x])).2 (by omega) (by omega)
        exact ⟨e, f1 _ f2⟩
theorem okBy_app {l m : List Int} (h : okBy l) (h' : okBy m) : okBy (l ++ m) := fun x hx => (List.mem_append.1 hx).elim (h x) (h' x)
theorem boxB_ok {id : Int} {d : List Int} {long : Bool} (h : okBy d) : okBy (boxB id d long) := by
  unfold boxB
  split
  · exact okBy_app (okBy_app (okBy_app (beB_ok _ _) (beB_ok _ _)) (beB_ok _ _)) h
  · exact okBy_app (okBy_app (beB_ok _ _) (beB_ok _ _)) h
theorem wrN_ok (long : Bool) : ∀ n : D1, OkN n → okBy (wrN long n) := by
  intro n
  refine D1.rec (motive_1 := fun n => OkN n → okBy (wrN long n)) (motive_2 := fun l => (∀ x ∈ l, OkN x) → okBy (wrL long l)) ?_ ?_ ?_ n
  · intro i d ks g ih ho
    rw [wrN]
    refine boxB_ok ?_
    split
    · exact ih ho.kids.2
    · exact ho.by
  · intro _; rw [wrL]; intro x hx; cases hx
  · intro x l h1 h2 ho
    rw [wrL]
    exact okBy_app (h1 (ho x (by simp))) (h2 fun y hy => ho y (by simp [hy]))
theorem wrL_ok (long : Bool) : ∀ l : List D1, (∀ x ∈ l, OkN x) → okBy (wrL long l)
  | [], _ => by rw [wrL]; intro x hx; cases hx
  | x :: l, h => by
    rw [wrL]
    exact okBy_app (wrN_ok long x (h x (by simp))) (wrL_ok long l fun y hy => h y (by simp [hy]))
theorem lev_fin {b : List Int} {en dp : Nat} {p : List Int} {nd : Nat} {pl : List D0} {acc : List D1} : Ev fun m => lev b m en dp p en nd pl acc = some (.fine acc nd pl) :=
  .suc (.all fun m => by rw [lev, if_neg (by omega)])
theorem f14_v (R : Type) (b : List Int) (hb : okBy b) : Ev fun k => ∀ (K : Int → Int → List D1 → Option R), f14 k b K = K (docR b).a (docR b).c (docR b).kids :=
  (f49_v R b hb).imp fun k h K => by rw [f14, h]
theorem lev_free {b d rest : List Int} {at_ nd : Nat} {pl : List D0} {acc : List D1} (hd : d.length ≤ 4294967000) (h : b.drop at_ = boxB 1718773093 d false ++ rest) : ∃ q, ∀ r, (Ev fun m => lev b m b.length 1 [] (at_ + (boxB 1718773093 d false).length) nd (pl ++ [q]) acc = some r) → Ev fun m => lev b m b.length 1 [] at_ nd pl acc = some r := by
  have len := boxB_len 1718773093 d false
  rw [if_neg (by decide)] at len
  have hat := len_at h (by omega)
  have hh := (head_box (dp := 1) h hd hat (Nat.le_refl _)).1
  have en : beB 4 1718773093 = n_free := by decide
  rw [en] at hh
  rw [if_neg (by decide)] at hh
  refine ⟨plc n_free at_ 8 (boxB 1718773093 d false).length 1, fun r hr => .suc (hr.imp fun m hm => ?_)⟩
  rw [lev, if_pos (by rw [len] at hat; omega), hh]
  dsimp only
  rw [show chkE n_free [] 1 = 0 by decide, if_neg (by decide), if_pos rfl]
  exact hm
theorem freed_v {a b : List D1} (ha : chkR a = 0) (hb : chkR b = 0) {d : List Int} (hd : d.length ≤ 4294967000) : (∃ c, docR ((wrL false a ++ boxB 1718773093 d false) ++ wrL true b) = .bad 2 c) ∨ ∃ nd pl, docR ((wrL false a ++ boxB 1718773093 d false) ++ wrL true b) = .fine (a ++ b) nd pl := by
  generalize hx : (wrL false a ++ boxB 1718773093 d false) ++ wrL true b = x
  by_cases hl : x.length ≤ 1048576
  rotate_left
  · exact .inl ⟨0, by rw [docR, if_neg hl]⟩
  obtain ⟨a1, a2, a3, a4, a5⟩ := chk_own1 ha
  obtain ⟨b1, b2, b3, b4, b5⟩ := chk_own1 hb
  have e0 : x.drop 0 = wrL false a ++ (boxB 1718773093 d false ++ wrL true b) := by rw [List.drop_zero, ← hx, List.append_assoc]
  have elen : x.length = (wrL false a).length + ((boxB 1718773093 d false).length + (wrL true b).length) := by rw [← hx]; simp
  obtain ⟨n1, f1⟩ := (lev_wrL false hl a x.length 1 [] 0 0 [] [] _ e0 (by omega) (by omega) a1 a2 a3 a4).1 (by omega)
  have e1 := drop_at e0
  obtain ⟨q, f2⟩ := lev_free (nd := 0 + cntL a) (pl := [] ++ n1) (acc := [] ++ a) hd e1
  have e2 := drop_at e1
  have g := lev_wrL true hl b x.length 1 [] _ (0 + cntL a) (([] ++ n1) ++ [q]) ([] ++ a) [] (by rw [e2, List.append_nil]) (by omega) (by omega) b1 b2 b3 b4
  by_cases c : 0 + cntL a + cntL b ≤ 4000
  · obtain ⟨n3, f3⟩ := g.1 c
    refine .inr ⟨0 + cntL a + cntL b, (([] ++ n1) ++ [q]) ++ n3, doc_of hl (f1 _ (f2 _ (f3 _ ?_)))⟩
    rw [show 0 + (wrL false a).length + (boxB 1718773093 d false).length + (wrL true b).length = x.length by omega]
    exact lev_fin
  · obtain ⟨e, f3⟩ := g.2 (by omega) (by omega)
    exact .inl ⟨e, doc_of hl (f1 _ (f2 _ f3))⟩
theorem okL_app {a b : List D1} (ha : OkL a) (hb : OkL b) (h : a.length + b.length ≤ 4194304) : OkL (a ++ b) :=
  ⟨by rw [reachV, List.length_append]; omega, fun x hx => (List.mem_append.1 hx).elim (ha.2 x) (hb.2 x)⟩
theorem boxFreed_plain (a b : List D1) (n : Int) (ha : OkL a) (hb : OkL b) (hwa : wtL a ≤ 2097152 / 2) (hwb : wtL b ≤ 2097152 / 2) : ∃ k, f11 (R := Bool) k a b n some = some true := by
  have h41 := f65_v Bool false a ha hwa
  have h42 := f65_v Bool true b hb hwb
  have h23 := f23_v Bool n
  have la := wrL_len false a
  have lb := wrL_len true b
  have na := wt_len a
  have nb := wt_len b
  have z0 : okBy (List.replicate (n - 8).toNat (0 : Int)) := fun x hx => by rw [(List.mem_replicate.1 hx).2]; decide
  have h14 := f14_v Bool ((wrL false a ++ boxB 1718773093 (List.replicate (n - 8).toNat 0) false) ++ wrL true b) (okBy_app (okBy_app (wrL_ok false a ha.2) (boxB_ok z0)) (wrL_ok true b hb.2))
  have h18 := f18_v Bool (a ++ b) (okL_app ha hb (by omega))
  refine ((h41.imp3 h42 h23 fun k a b c => (⟨a, b, c⟩ : _ ∧ _ ∧ _)).imp4 h14 h18 (awake_v Bool) fun k hh h14 h18 h20 => ?_ : Ev fun k => f11 (R := Bool) k a b n some = some true).some
  obtain ⟨h41, h42, h23⟩ := hh
  rw [f11, f41, h41]
  have same : ∀ {p : Prop} [Decidable p] (x y : Option Bool), x = some true → y = some true → (if p then x else y) = some true := fun x y hx hy => by split <;> assumption
  by_cases ca : chkR a = 0
  rotate_left
  · rw [if_pos ca, f42, h42]
    refine same _ _ ?_ (same _ _ ?_ ?_) <;> rw [h23] <;> refine same _ _ ?_ ?_ <;> rw [bnT ca, cond_true, h20]
  rw [if_neg (fun h => h ca)]
  by_cases ca2 : 1048576 < (wrL false a).length
  · rw [if_pos ca2, f42, h42]
    refine same _ _ ?_ (same _ _ ?_ ?_) <;> rw [h23] <;> refine same _ _ ?_ ?_ <;> rw [bnT (by decide), cond_true, h20]
  rw [if_neg ca2, f42, h42]
  by_cases cb : chkR b = 0
  rotate_left
  · rw [if_pos cb, h23]
    refine same _ _ ?_ ?_ <;> rw [bnF rfl, cond_false, bnT cb, cond_true, h20]
  rw [if_neg (fun h => h cb)]
  by_cases cb2 : 1048576 < (wrL true b).length
  · rw [if_pos cb2, h23]
    refine same _ _ ?_ ?_ <;> rw [bnF rfl, cond_false, bnT (by decide), cond_true, h20]
  rw [if_neg cb2, h23]
  by_cases cn : n < 8 ∨ 1048576 < n
  · rw [if_pos cn, bnF rfl, cond_false, cond_false, bnT (by decide), cond_true, h20]
  rw [if_neg cn, bnF rfl, cond_false, cond_false, cond_false]
  have hz : (boxB 1718773093 (List.replicate (n - 8).toNat 0) false).length ≤ 1048576 := by rw [boxB_len]; simp; omega
  rw [roT (by omega), cond_true, roT (by omega), cond_true, roT (by rw [List.length_append]; omega), cond_true, h14, roT (by omega), cond_true, roT (by omega), cond_true]
  rcases freed_v ca cb (d := List.replicate (n - 8).toNat 0) (by simp; omega) with ⟨c, e⟩ | ⟨nd, pl, e⟩
  · rw [e]; show (bif ((2 : Int) == 2) then _ else _) = _
    rw [beT rfl, cond_true, h20]
  · rw [e]; show (bif ((0 : Int) == 2) then _ else bif ((0 : Int) == 0) then f18 k (a ++ b) (a ++ b) _ else _) = _
    rw [beF (by decide), cond_false, beT rfl, cond_true, h18, cond_true, h20]
theorem ownKn : ownKnob Tryd.prog.godebug = none := by kernel_rfl
theorem laidOut : laidOutB Tryd.prog = true := by kernel_rfl
noncomputable def naming : Naming cx where
  flds := flds
  toT := toT
  ofT := ofT
  plain := fun r => match r with
    | 0 => rfl
    | 1 => rfl
    | 2 => rfl
    | 3 => rfl
    | 4 => rfl
    | 5 => rfl
    | 6 => rfl
    | _n + 7 => rfl
  to_of := fun r x => match r, x with
    | 0, _ => rfl
    | 1, _ => rfl
    | 2, _ => rfl
    | 3, _ => rfl
    | 4, _ => rfl
    | 5, _ => rfl
    | 6, _ => rfl
    | _n + 7, _ => rfl
  deep := fun r v => match r, v with
    | 0, _ => rfl
    | 1, v => deep1_eq v
    | 2, _ => rfl
    | 3, _ => rfl
    | 4, _ => rfl
    | 5, _ => rfl
    | 6, _ => rfl
    | _n + 7, _ => rfl
theorem fit : Fit naming Tryd.prog := fit_of (tab := tab) rfl (by kernel_rfl)
theorem wf_bytes {z : Nat} {l : List Int} (h : WfIV (.list z (l.map fun y => [.int .u8 y]))) : l.length ≤ reachBytes ∧ ∀ n ∈ l, 0 ≤ n ∧ n < 256 := by
  cases h with
  | list h1 h2 _ =>
    refine ⟨by simpa using h1, fun n hn => ?_⟩
    have := h2 _ (List.mem_map.2 ⟨n, hn, rfl⟩) _ (List.mem_singleton.2 rfl)
    cases this with
    | int h3 => simp [Lit.wf, IntKind.min, IntKind.max, IntKind.signed, IntKind.bits] at h3; omega
theorem wf_int {n : Int} (h : WfIV (.int .i64 n)) : -9223372036854775808 ≤ n ∧ n < 9223372036854775808 := by
  cases h with
  | int h3 => simp [Lit.wf, IntKind.min, IntKind.max, IntKind.signed, IntKind.bits] at h3; omega
theorem gErr : Tryd.prog.globalNamed "errors.errorType" = some 0 := by kernel_rfl
theorem gTab : Tryd.prog.globalNamed "strings.asciiSpace" = some 1 := by kernel_rfl
theorem gTabType : (Tryd.prog.globals[1]?).map (·.type) = some 145 := by kernel_rfl
theorem cells145 : Tryd.prog.cellsOf 145 = 256 := by kernel_rfl
theorem cells5 : Tryd.prog.cellsOf 5 = 1 := by kernel_rfl
theorem rt149 : (Tryd.prog.cutTypes.find? (·.1 == "internal/reflectlite.rtype")).map (·.2) = some 149 := by kernel_rfl
theorem oneRow : ((List.range 209).filter fun t => Tryd.prog.rowNamed t [101, 114, 114, 111, 114]) = [108] := by kernel_rfl
theorem nTypes : Tryd.prog.types.size = 209 := by kernel_rfl
def laidL : List (String × DataW Unit) := [("errors.errorType", Rows.laid_errors_errorType), ("unicode.White_Space", Rows.laid_unicode_White_Space), ("strings.asciiSpace", Rows.laid_strings_asciiSpace)]
theorem tabData_eq : (Rows.laid_strings_asciiSpace : DataW Unit) = Lib.tabData .u8 asciiTab := by kernel_rfl
theorem laid_parts {W : World} (h : laidMetH Tryd.prog laidL W) : laidMet Tryd.prog [("unicode.White_Space", Rows.laid_unicode_White_Space), ("strings.asciiSpace", Rows.laid_strings_asciiSpace)] W ∧ handlesMet Tryd.prog [("errors.errorType", Rows.laid_errors_errorType)] W := h
theorem handle_of_laid {W : World} (h : laidMetH Tryd.prog laidL W) : W.cell? ⟨0, 0, none⟩ = some (.iface 149 (.agg #[.pointer (some ⟨4, 108, none⟩)])) := by
  obtain ⟨name, u, ty, e1, e2, e3, e4, e5⟩ := (laid_parts h).2 _ (List.mem_singleton.2 rfl)
  have en : name = [101, 114, 114, 111, 114] := (Option.some.inj e1).symm
  subst en
  obtain rfl := Option.some.inj (rt149.symm.trans e2)
  have hm : ty ∈ (List.range 209).filter fun t => Tryd.prog.rowNamed t [101, 114, 114, 111, 114] := List.mem_filter.2 ⟨List.mem_range.2 (by rw [← nTypes]; exact e3), e4⟩
  rw [oneRow] at hm
  obtain rfl := List.mem_singleton.1 hm
  have hh : typeHandle Tryd.prog 108 = .pointer (some ⟨4, 108, none⟩) := by kernel_rfl
  rw [hh] at e5
  simpa using World.var?_cell gErr e5 0
theorem tab_of_laid {W : World} (h : laidMetH Tryd.prog laidL W) : Lib.TabIs Tryd.prog W "strings.asciiSpace" .u8 asciiTab := by
  obtain ⟨ps, ⟨g', t', cs, fuel, p, q, hg', ht', hvar, hd, ⟨g2, t2, cs2, fuel2, p2, q2, hg2, ht2, hvar2, hd2, _, _⟩, _⟩, _⟩ := (laid_parts h).1
  obtain rfl := Option.some.inj (gTab.symm.trans hg2)
  obtain rfl := Option.some.inj (gTabType.symm.trans ht2)
  unfold Lib.TabIs
  rw [tabData_eq] at hd2
  rw [hvar2, ← Lib.cells_of_tab Tryd.underlying145 Tryd.underlying5 cells5 cells145 hd2]
theorem ginv {W : World} (h : laidMetH Tryd.prog laidL W) : GInv cx (fun b => b < W.heap.size) W := by
  have hh := handle_of_laid h
  have ht := tab_of_laid h
  have hcell : ∀ i, i < 256 → W.cell? ⟨1, i, none⟩ = some (.int .u8 (asciiTab.getD i 0)) := fun i hi => ht.cell gTab i hi
  have lt : ∀ (b : Nat) (v : Value), W.cell? ⟨b, 0, none⟩ = some v → b < W.heap.size := by
    intro b v hv
    by_cases hb : b < W.heap.size
    · exact hb
    · have h0 : W.heap[b]? = none := Array.getElem?_eq_none (by omega)
      simp [World.cell?, h0] at hv
  refine ⟨fun g => ?_, fun p hp => ?_⟩
  · by_cases hg : g = 1
    · subst hg
      refine ⟨rfl, ?_⟩
      show PRep cx _ _ _ W (.lelem (.int .u8) asciiTab 0 0) _
      have hl : asciiTab.length = 256 := rfl
      refine ⟨by rw [hl]; omega, ⟨1, 0, none⟩, 256, ?_, rfl⟩
      have hm : (asciiTab.map (deep cx (.int .u8))).length = 256 := by rw [List.length_map, hl]
      have : Rep (fun b => b < W.heap.size) W (.slice (some ⟨1, 0, none⟩) (asciiTab.map (deep cx (.int .u8))).length 256) (.list 1 (asciiTab.map (deep cx (.int .u8)))) := by
        refine .list (fun i j => .int .u8 (asciiTab.getD i 0)) (by rw [hm]; exact Nat.le_refl _) (fun _ => lt 1 _ (hcell 0 (by omega))) (fun i l j x h1 h2 => ?_) (fun i l j x h1 h2 => ?_)
        · have hi : i < 256 := by have := (List.getElem?_eq_some_iff.1 h1).1; omega
          have hj : j = 0 := by
            simp only [List.getElem?_map, Option.map_eq_some_iff] at h1
            obtain ⟨y, _, rfl⟩ := h1
            have := (List.getElem?_eq_some_iff.1 h2).1
            simp [deep] at this; exact this
          subst hj
          have e : (⟨1, 0, none⟩ : Addr).add (i * 1 + 0) = ⟨1, i, none⟩ := by rw [add_at]; simp
          rw [e]; exact hcell i hi
        · have hi : i < asciiTab.length := by have := (List.getElem?_eq_some_iff.1 h1).1; rw [hl]; omega
          simp only [List.getElem?_map, Option.map_eq_some_iff] at h1
          obtain ⟨y, hy, rfl⟩ := h1
          have hj : j = 0 := by
            have := (List.getElem?_eq_some_iff.1 h2).1
            simp [deep] at this; exact this
          subst hj
          simp [deep] at h2
          subst h2
          have : asciiTab.getD i 0 = y := by simp [List.getD, hy]
          rw [this]; exact .int
      rw [hm] at this
      exact this
    · have e : cx.gv g = .undef := by
        show gvs g = _
        have : Nat.beq g 1 = false := by rw [Bool.eq_false_iff]; intro hb; exact hg (Nat.eq_of_beq_eq_true hb)
        simp [gvs, this]
      rw [e]; exact ⟨rfl, trivial⟩
  · have hp : p ∈ gcs := hp
    simp only [gcs, List.mem_singleton] at hp
    subst hp
    exact ⟨lt 0 _ hh, hh⟩
/-- A world in which they lie so. -/
noncomputable def laidWorld (os : Os) : World :=
  { World.holding Tryd.prog os ⟨#[], #[], []⟩ with heap := (((((World.holding Tryd.prog os ⟨#[], #[], []⟩).heap.modify 0 fun
      | .cells _ t frozen => .cells #[.iface 149 (.agg #[.pointer (some ⟨4, 108, none⟩)])] t frozen
      | o => o).modify 1 fun
      | .cells _ t frozen => .cells (asciiTab.map fun n => Value.int .u8 n).toArray t frozen
      | o => o).modify 2 fun
      | .cells _ t frozen => .cells #[.pointer (some ⟨9, 0, none⟩)] t frozen
      | o => o).push (.cells #[.slice (some ⟨10, 0, none⟩) 7 7, .slice none 0 0, .int .i64 2] 171)).push (.cells (([9, 13, 1, 32, 133, 101, 160, 5760, 5600, 8192, 8202, 1, 8232, 8233, 1, 8239, 8287, 48, 12288, 12288, 1] : List Int).map fun n => Value.int .u16 n).toArray 174) }
theorem deep1_mk (i : Int) (d : List Int) (ks : List D1) (g : Bool) : deep1 (.mk i d ks g) = [.int .i64 i, .list 1 (d.map fun y => [.int .u8 y]), .list 4 (deep1s ks), .bool g] := by rw [deep1]; rfl
theorem okL_wf {ks : List D1} (h : WfIV (.list 4 (deep1s ks))) (ih : ∀ x ∈ ks, (∀ iv ∈ deep1 x, WfIV iv) → OkN x) : OkL ks := by
  rw [deep1s_map] at h
  cases h with
  | list h1 h2 h3 =>
    refine ⟨?_, fun x hx => ih x hx (h2 _ (List.mem_map.2 ⟨x, hx, rfl⟩))⟩
    cases ks with
    | nil => simp
    | cons x ks =>
      have h4 := h3 (deep1 x) (by simp)
      obtain ⟨i, d, k, g⟩ := x
      rw [deep1_mk] at h4
      have e : lay (List.map cellB [IV.int IntKind.i64 i, IV.list 1 (d.map fun y => [.int .u8 y]), IV.list 4 (deep1s k), IV.bool g]) = 64 := by kernel_rfl
      rw [List.length_map, e] at h4
      exact h4
theorem okN_wf (n : D1) : (∀ iv ∈ deep1 n, WfIV iv) → OkN n := by
  refine D1.ind (P := fun n => (∀ iv ∈ deep1 n, WfIV iv) → OkN n) (fun i d ks g ih h => ?_) n
  rw [deep1_mk] at h
  have hd := wf_bytes (h (.list 1 (d.map fun y => [.int .u8 y])) (by simp))
  have hk := okL_wf (h (.list 4 (deep1s ks)) (by simp)) ih
  exact .mk (wf_int (h (.int .i64 i) (by simp))) hd.2 hd.1 hk.1 hk.2
theorem okL_arg {l : List D1} (h : ∀ iv ∈ deep cx (.slice (.named 1)) l, WfIV iv) : OkL l := by
  refine okL_wf (ks := l) ?_ fun x _ => okN_wf x
  have := h _ (List.mem_singleton.2 rfl)
  rw [deep1s_map]; exact this
mutual
theorem bulkD_eq {H : Type} : ∀ d : DataW H, bulkD d = Rows.uptoBulk d
  | .lit (.string _) => by rw [bulkD, Rows.uptoBulk]
  | .lit (.bool _) => by rw [bulkD, Rows.uptoBulk] <;> simp
  | .lit (.int _ _) => by rw [bulkD, Rows.uptoBulk] <;> simp
  | .lit (.float _ _) => by rw [bulkD, Rows.uptoBulk] <;> simp
  | .lit .nil => by rw [bulkD, Rows.uptoBulk] <;> simp
  | .nil => by rw [bulkD, Rows.uptoBulk]
  | .ptr d => by rw [bulkD, Rows.uptoBulk, bulkD_eq d]
  | .slice e s => by rw [bulkD, Rows.uptoBulk, bulkA_eq e, bulkA_eq s]
  | .agg p => by rw [bulkD, Rows.uptoBulk, bulkA_eq p]
  | .iface _ d => by rw [bulkD, Rows.uptoBulk, bulkD_eq d]
  | .map e => by rw [bulkD, Rows.uptoBulk, bulkEs_eq e]
  | .held _ => by rw [bulkD, Rows.uptoBulk]
theorem bulkA_eq {H : Type} : ∀ l : List (DataW H), bulkA l = Rows.uptoBulkAll l
  | [] => by rw [bulkA, Rows.uptoBulkAll]
  | d :: r => by rw [bulkA, Rows.uptoBulkAll, bulkD_eq d, bulkA_eq r]
theorem bulkEs_eq {H : Type} : ∀ l : List (Lit × DataW H), bulkEs l = Rows.uptoBulkEntries l
  | [] => by rw [bulkEs, Rows.uptoBulkEntries]
  | x :: r => by rw [bulkEs, Rows.uptoBulkEntries, bulkE_eq x, bulkEs_eq r]
theorem bulkE_eq {H : Type} : ∀ x : Lit × DataW H, bulkE x = Rows.uptoBulkEntry x
  | (.string _, d) => by rw [bulkE, Rows.uptoBulkEntry, bulkD_eq d]
  | (.bool _, d) => by rw [bulkE, Rows.uptoBulkEntry, bulkD_eq d] <;> simp
  | (.int _ _, d) => by rw [bulkE, Rows.uptoBulkEntry, bulkD_eq d] <;> simp
  | (.float _ _, d) => by rw [bulkE, Rows.uptoBulkEntry, bulkD_eq d] <;> simp
  | (.nil, d) => by rw [bulkE, Rows.uptoBulkEntry, bulkD_eq d] <;> simp
end
theorem small_bulk (H : Type) (ds : List (DataW H)) (h : Rows.uptoSmall H ds = true) : bulkA ds ≤ 1048576 := by
  rw [bulkA_eq]; exact of_decide_eq_true h
theorem bulk_bytes : ∀ d : List Int, ivBB (d.map fun y => [IV.int .u8 y]) = d.length
  | [] => by rw [List.map_nil, ivBB]; rfl
  | x :: d => by rw [List.map_cons, ivBB, bulk_bytes d, ivBL, ivBL, ivB, List.length_cons]; omega
theorem wt_bulk (n : D1) : wtN n ≤ ivBL (deep1 n) := by
  refine D1.ind (P := fun n => wtN n ≤ ivBL (deep1 n)) (fun i d ks g ih => ?_) n
  have : ∀ l : List D1, (∀ x ∈ l, wtN x ≤ ivBL (deep1 x)) → wtL l ≤ ivBB (l.map deep1) := by
    intro l
    induction l with
    | nil => intro _; rw [wtL]; omega
    | cons x l ih =>
      intro h
      have h1 := h x (by simp)
      have h2 := ih fun y hy => h y (by simp [hy])
      rw [List.map_cons, ivBB, wtL]; omega
  have h := this ks ih
  rw [deep1_mk, wtN, deep1s_map]
  simp only [ivBL, ivB, bulk_bytes]
  omega
theorem wtL_bulk : ∀ l : List D1, wtL l ≤ ivBB (l.map deep1)
  | [] => by rw [wtL]; omega
  | x :: l => by
    have h1 := wt_bulk x
    have h2 := wtL_bulk l
    rw [List.map_cons, ivBB, wtL]; omega
theorem wtL_arg (l : List D1) : wtL l ≤ ivBL (deep cx (.slice (.named 1)) l) := by
  have h := wtL_bulk l
  have e : ivBL (deep cx (.slice (.named 1)) l) = ivBB (l.map deep1) + 1 := by
    show ivBL [.list _ (l.map fun x => deep1 x)] = _
    rw [ivBL, ivBL, ivB]
  omega
end Go.Proofs.YtehmahdngjdhpaaDoor
