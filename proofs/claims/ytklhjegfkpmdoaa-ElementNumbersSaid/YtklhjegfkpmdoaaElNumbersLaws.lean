/- Proved: the plain laws of ElementNumbers. Conditions: none. -/
import Derived.Test.YtklhjegfkpmdoaaElWalk1
import Derived.Test.YtklhjegfkpmdoaaRows
import Derived.JoinedOf

set_option maxRecDepth 100000
namespace Go.Proofs.Ytklhjegfkpmdoaa
open Go Go.Am
theorem awake_v : Ev fun k => ∀ (R : Type) (K : Bool → Option R), f18 k K = K true := by
  refine .plus 100 (.all fun k R K => ?_)
  kernel_rfl
theorem wrapU8 (x : Int) : IntKind.u8.wrap x = x % 256 := by
  simp [IntKind.wrap, IntKind.signed, IntKind.bits]
theorem wrapU64 {x : Int} (h : 0 ≤ x) (h' : x < 18446744073709551616) : IntKind.u64.wrap x = x := by
  simp [IntKind.wrap, IntKind.signed, IntKind.bits]; omega
theorem shr8 (w : Int) : shrI .u64 w 8 = w / 256 := by
  have : (min (8 : Int).toNat IntKind.u64.bits) = 8 := rfl
  unfold shrI
  rw [this, Int.fdiv_eq_ediv_of_nonneg _ (by decide)]
  rfl
def c1 (w : Int) : List Int := [w % 256]
def c2 (w : Int) : List Int := [w / 256 % 256, w % 256]
def c3 (w : Int) : List Int := [w / 256 / 256 % 256, w / 256 % 256, w % 256]
theorem _root_.Go.Am.Ev.up {p : Nat → Prop} (h : Ev p) : Ev fun k => p (k + 1) := by
  obtain ⟨a, ha⟩ := h
  exact ⟨a, fun k hk => ha (k + 1) (by omega)⟩
theorem reachV : reachBytes = 140737488351232 := rfl
def okBy (b : List Int) : Prop := ∀ n ∈ b, 0 ≤ n ∧ n < 256
theorem okBy.drop {b : List Int} (h : okBy b) (i : Nat) : okBy (b.drop i) := fun n hn => h n (List.mem_of_mem_drop hn)
theorem okBy.take {b : List Int} (h : okBy b) (i : Nat) : okBy (b.take i) := fun n hn => h n (List.mem_of_mem_take hn)
theorem okBy.get {b : List Int} (h : okBy b) {i : Nat} (hi : i < b.length) : 0 ≤ b[i] ∧ b[i] < 256 := h _ (List.getElem_mem hi)
def valF (l : List Int) (v : Int) : Int := l.foldl (fun v c => v * 256 + c) v
theorem valF_cons (c : Int) (l : List Int) (v : Int) : valF (c :: l) v = valF l (v * 256 + c) := rfl
theorem pow_pos256 (n : Nat) : (0 : Int) < 256 ^ n := Int.pow_pos (by decide)
theorem valF_bound : ∀ {l : List Int}, okBy l → ∀ (v : Int), v * 256 ^ l.length ≤ valF l v ∧ valF l v < (v + 1) * 256 ^ l.length
  | [], _, v => by simp [valF]; omega
  | c :: l, h, v => by
    have hc := h c (by simp)
    obtain ⟨h1, h2⟩ := valF_bound (l := l) (fun n hn => h n (by simp [hn])) (v * 256 + c)
    have hp := pow_pos256 l.length
    rw [valF_cons, List.length_cons, Int.pow_succ, Int.mul_comm (256 ^ l.length) 256, ← Int.mul_assoc, ← Int.mul_assoc]
    constructor
    · refine Int.le_trans ?_ h1
      exact Int.mul_le_mul_of_nonneg_right (by omega) (Int.le_of_lt hp)
    · refine Int.lt_of_lt_of_le h2 ?_
      exact Int.mul_le_mul_of_nonneg_right (by omega) (Int.le_of_lt hp)
theorem ofInt_nat {n : Nat} (h : n < 18446744073709551616) : (BitVec.ofInt 64 (n : Int)).toNat = n := by
  rw [BitVec.toNat_ofInt]
  have e : (2 ^ 64 : Nat) = 18446744073709551616 := by decide
  rw [e, Int.emod_eq_of_lt (by omega) (by omega)]
  omega
theorem or_byteU {a c : Int} (h : 0 ≤ a) (h' : a < 72057594037927936) (hc : 0 ≤ c) (hc' : c < 256) : orI .u64 (shlI .u64 a 8) (IntKind.u64.wrap c) = a * 256 + c := by
  obtain ⟨n, rfl⟩ : ∃ n : Nat, a = n := ⟨a.toNat, by omega⟩
  obtain ⟨m, rfl⟩ : ∃ n : Nat, c = n := ⟨c.toNat, by omega⟩
  have s : shlI .u64 (n : Int) 8 = ((256 * n : Nat) : Int) := by
    have : (min (8 : Int).toNat IntKind.u64.bits) = 8 := rfl
    unfold shlI
    rw [this]
    have e : (n : Int) * 2 ^ 8 = ((256 * n : Nat) : Int) := by
      have : (2 : Int) ^ 8 = 256 := by decide
      rw [this]; omega
    rw [e, wrapU64 (by omega) (by omega)]
  rw [s, wrapU64 (by omega) (by omega)]
  have e1 : (BitVec.ofInt IntKind.u64.bits ((256 * n : Nat) : Int)).toNat = 256 * n := ofInt_nat (by omega)
  have e2 : (BitVec.ofInt IntKind.u64.bits (m : Int)).toNat = m := ofInt_nat (by omega)
  unfold orI
  rw [BitVec.toNat_or, e1, e2]
  have e3 : 256 * n = 2 ^ 8 * n := rfl
  rw [e3, ← Nat.two_pow_add_eq_or_of_lt (i := 8) (by omega) n, wrapU64 (by omega) (by omega)]
  omega
theorem f64_loop (l : List Int) (hl : okBy l) (h8 : l.length ≤ 8) : ∀ i, i ≤ l.length → Ev fun k => ∀ (R : Type) (v : Int) (X : Int → Option R), 0 ≤ v → v < 256 ^ i → f64_l7 k v l (l.length : Int) (i : Int) X = X (valF (l.drop i) v) := by
  refine Ev.down l.length ?_ ?_
  · exact Ev.suc (.all fun k R v X _ _ => by simp [f64_l7, valF])
  · intro i hi h
    refine Ev.suc (h.imp fun k hk R v X h0 h1 => ?_)
    have hc := hl.get hi
    have hp : (256 : Int) ^ i ≤ 72057594037927936 := by
      have h2 : (256 : Nat) ^ i ≤ 72057594037927936 := Nat.le_trans (Nat.pow_le_pow_right (by decide) (show i ≤ 7 by omega)) (by decide)
      have e : ((256 ^ i : Nat) : Int) = (256 : Int) ^ i := Int.natCast_pow 256 i
      omega
    have ho := or_byteU h0 (by omega) hc.1 hc.2
    rw [f64_l7, lt_nat, inb_nat, wrapSuc (by omega)]
    simp only [hi, decide_true, cond_true, Int.toNat_natCast, getD_get hi, ho]
    have hv : v * 256 + l[i] < 256 ^ (i + 1) := by
      rw [Int.pow_succ]; omega
    rw [hk R _ X (by omega) hv, List.drop_eq_getElem_cons hi, valF_cons]
/-- The number of so many bytes at a place. -/
def numB (b : List Int) (at_ n : Nat) : Int := valF ((b.drop at_).take n) 0
theorem numB_bound {b : List Int} (hb : okBy b) {at_ n : Nat} (h : at_ + n ≤ b.length) : 0 ≤ numB b at_ n ∧ numB b at_ n < 256 ^ n := by
  have := valF_bound ((hb.drop at_).take n) 0
  have e : ((b.drop at_).take n).length = n := by simp; omega
  rw [e] at this
  unfold numB
  omega
theorem f64_v (b : List Int) (hb : okBy b) (hl : b.length ≤ reachBytes) {at_ n : Nat} (h1 : 1 ≤ n) (h8 : n ≤ 8) (h : at_ + n ≤ b.length) : Ev fun k => ∀ (R : Type) (K : Int → Int → Option R),
    f64 k b (at_ : Int) (n : Int) K = if 9223372036854775807 < numB b at_ n then K 0 1 else K (numB b at_ n) 0 := by
  rw [reachV] at hl
  have e : (b.take (at_ + n)).drop at_ = (b.drop at_).take n := by rw [List.drop_take]; congr 1; omega
  have el : ((b.drop at_).take n).length = n := by simp; omega
  refine (f64_loop ((b.drop at_).take n) ((hb.drop at_).take n) (by omega) 0 (by omega)).imp fun k hk R K => ?_
  have t1 : decide ((n : Int) < 1) = false := decide_eq_false (by omega)
  have t2 : decide ((n : Int) > 8) = false := decide_eq_false (by omega)
  have t3 : decide ((at_ : Int) < 0) = false := decide_eq_false (by omega)
  have t4 : decide ((at_ : Int) > (b.length : Int)) = false := decide_eq_false (by omega)
  have w1 : IntKind.i64.wrap ((b.length : Int) - (at_ : Int)) = ((b.length - at_ : Nat) : Int) := by rw [wrap64 (by omega) (by omega)]; omega
  have w2 : IntKind.i64.wrap ((at_ : Int) + (n : Int)) = ((at_ + n : Nat) : Int) := by rw [wrap64 (by omega) (by omega)]; omega
  have t5 : decide (((b.length - at_ : Nat) : Int) < (n : Int)) = false := decide_eq_false (by omega)
  have t6 : decide ((0 : Int) ≤ (at_ : Int)) = true := decide_eq_true (by omega)
  have t7 : decide ((at_ : Int) ≤ ((at_ + n : Nat) : Int)) = true := decide_eq_true (by omega)
  simp only [Int.natCast_zero, List.drop_zero] at hk
  simp only [f64, t1, t2, t3, t4, w1, w2, t5, t6, t7, cond_false, upto_nat, h, decide_true, Bool.and_self, cond_true, Int.toNat_natCast, e]
  rw [hk R 0 _ (by omega) (by decide)]
  have hbd := numB_bound hb h
  show (bif decide (numB b at_ n > 9223372036854775807) then K 0 1 else K (IntKind.i64.wrap (numB b at_ n)) 0) = _
  by_cases hx : 9223372036854775807 < numB b at_ n
  · rw [if_pos hx, decide_eq_true (show numB b at_ n > 9223372036854775807 from hx)]; rfl
  · rw [if_neg hx, decide_eq_false (show ¬ numB b at_ n > 9223372036854775807 from hx), wrap64 (by omega) (by omega)]; rfl
/-- A number with the mark of so many bytes. -/
def Marked (v : Int) (n : Nat) : Prop := (2 : Int) ^ (7 * n) ≤ v ∧ v < 2 * 2 ^ (7 * n)
theorem D2.ind {P : D2 → Prop} (h : ∀ i d ks g, (∀ x ∈ ks, P x) → P (.mk i d ks g)) : ∀ n, P n := by
  intro n
  refine D2.rec (motive_1 := P) (motive_2 := fun l => ∀ x ∈ l, P x) (fun i d ks g ih => h i d ks g ih) (by simp) (fun a l ha hl => ?_) n
  intro x hx
  rcases List.mem_cons.1 hx with rfl | hx
  · exact ha
  · exact hl x hx
/-- A tree as it lies in memory. -/
inductive OkN : D2 → Prop
  | mk {i : Int} {d : List Int} {ks : List D2} {g : Bool} : -9223372036854775808 ≤ i ∧ i < 9223372036854775808 → okBy d → d.length ≤ reachBytes → ks.length * 64 ≤ reachBytes → (∀ x ∈ ks, OkN x) → OkN (.mk i d ks g)
def OkL (l : List D2) : Prop := l.length * 64 ≤ reachBytes ∧ ∀ x ∈ l, OkN x
theorem OkN.id {n : D2} (h : OkN n) : -9223372036854775808 ≤ n.c0 ∧ n.c0 < 9223372036854775808 := by cases h; assumption
theorem OkN.by {n : D2} (h : OkN n) : okBy n.c1 := by cases h; assumption
theorem OkN.kids {n : D2} (h : OkN n) : OkL n.c2 := by cases h; exact ⟨by assumption, by assumption⟩
def eqB (a b : List Int) : Bool := (strOf a).toList == (strOf b).toList
theorem eqB_self (a : List Int) : eqB a a = true := by simp [eqB]
mutual
def sameN : D2 → D2 → Bool
  | .mk i d ks g, .mk i' d' ks' g' => (i == i') && (g == g') && eqB d d' && sameL ks ks'
def sameL : List D2 → List D2 → Bool
  | [], [] => true
  | [], _ :: _ => false
  | _ :: _, [] => false
  | x :: l, y :: l' => sameN x y && sameL l l'
end
theorem sameL_of {l : List D2} (h : ∀ x ∈ l, sameN x x = true) : sameL l l = true := by
  induction l with
  | nil => rw [sameL]
  | cons x l ih => rw [sameL, h x (by simp), ih fun y hy => h y (by simp [hy])]; rfl
theorem sameN_self (n : D2) : sameN n n = true := by
  refine D2.ind (P := fun n => sameN n n = true) (fun i d ks g ih => ?_) n
  rw [sameN, sameL_of ih, eqB_self]; simp
theorem sameL_self (l : List D2) : sameL l l = true := sameL_of fun x _ => sameN_self x
theorem sameL_len : ∀ {l l' : List D2}, l.length ≠ l'.length → sameL l l' = false
  | [], [], h => by simp at h
  | [], _ :: _, _ => by rw [sameL]
  | _ :: _, [], _ => by rw [sameL]
  | x :: l, y :: l', h => by rw [sameL, sameL_len (by simpa using h), Bool.and_false]
theorem sameN_eta (x y : D2) : sameN x y = ((x.c0 == y.c0) && (x.c3 == y.c3) && eqB x.c1 y.c1 && sameL x.c2 y.c2) := by
  cases x; cases y; rw [sameN]; rfl
/-- Two fuels, both large. -/
def EvB (p : Nat → Nat → Prop) : Prop := ∃ k0, ∀ q, k0 ≤ q → ∀ j, k0 ≤ j → p q j
theorem EvB.suc {p : Nat → Nat → Prop} (h : EvB fun q j => p q (j + 1)) : EvB p := by
  obtain ⟨a, ha⟩ := h
  refine ⟨a + 1, fun q hq j hj => ?_⟩
  obtain ⟨j, rfl⟩ : ∃ i, j = i + 1 := ⟨j - 1, by omega⟩
  exact ha q (by omega) j (by omega)
theorem EvB.all {p : Nat → Nat → Prop} (h : ∀ q j, p q j) : EvB p := ⟨0, fun q _ j _ => h q j⟩
theorem EvB.imp {p p' : Nat → Nat → Prop} (h : EvB p) (f : ∀ q j, p q j → p' q j) : EvB p' := by
  obtain ⟨a, ha⟩ := h
  exact ⟨a, fun q hq j hj => f q j (ha q hq j hj)⟩
theorem EvB.and {p p' : Nat → Nat → Prop} (h : EvB p) (h' : EvB p') : EvB fun q j => p q j ∧ p' q j := by
  obtain ⟨a, ha⟩ := h
  obtain ⟨b, hb⟩ := h'
  exact ⟨max a b, fun q hq j hj => ⟨ha q (by omega) j (by omega), hb q (by omega) j (by omega)⟩⟩
theorem EvB.left {p : Nat → Prop} (h : Ev p) : EvB fun q _ => p q := by
  obtain ⟨a, ha⟩ := h
  exact ⟨a, fun q hq j _ => ha q hq⟩
theorem EvB.diag {p : Nat → Nat → Prop} (h : EvB p) : Ev fun k => p k k := by
  obtain ⟨a, ha⟩ := h
  exact ⟨a, fun k hk => ha k hk k hk⟩
theorem EvB.down {p : Nat → Nat → Nat → Prop} (n : Nat) (h0 : EvB (p n)) (hs : ∀ i, i < n → EvB (p (i + 1)) → EvB (p i)) : ∀ i, i ≤ n → EvB (p i) := by
  intro i hi
  obtain ⟨m, rfl⟩ : ∃ m, n = i + m := ⟨n - i, by omega⟩
  clear hi
  induction m generalizing i with
  | zero => exact h0
  | succ m ih => exact hs i (by omega) (ih (i + 1) (by rw [show i + 1 + m = i + (m + 1) by omega]; exact h0) (fun j hj => hs j (by omega)))
theorem f23_loop (R : Type) (l l' : List D2) (hl : l.length = l'.length) (hb : l.length * 64 ≤ reachBytes) (h : ∀ i (h : i < l.length) (h' : i < l'.length), Ev fun k => ∀ (K : Bool → Option R), f23 k l[i].c2 l'[i].c2 K = K (sameL l[i].c2 l'[i].c2)) :
    ∀ i, i ≤ l.length → EvB fun q j => ∀ (X0 : Option R) (X1 : Bool → Option R), f23_l4 (fun _ => f23 q) j l l' (i : Int) X0 X1 = if sameL (l.drop i) (l'.drop i) = true then X0 else X1 false := by
  rw [reachV] at hb
  refine EvB.down l.length ?_ ?_
  · refine EvB.suc (.all fun q j X0 X1 => ?_)
    rw [List.drop_length, hl, List.drop_length, sameL, f23_l4, hl]
    simp
  · intro i hi ih
    have hi' : i < l'.length := by omega
    refine EvB.suc ((ih.and (.left (h i hi hi'))).imp fun q j hk X0 X1 => ?_)
    obtain ⟨hk, h23⟩ := hk
    rw [List.drop_eq_getElem_cons hi, List.drop_eq_getElem_cons hi', sameL, sameN_eta, f23_l4, lt_nat, inb_nat, inb_nat, wrapSuc (by omega)]
    simp only [hi, hi', decide_true, cond_true, Int.toNat_natCast, getD_get hi, getD_get hi', f17, h23]
    rw [bne]
    cases l[i].c0 == l'[i].c0 with
    | false => simp
    | true =>
      cases l[i].c3 == l'[i].c3 with
      | false => simp
      | true =>
        unfold eqB
        cases (strOf l[i].c1).toList == (strOf l'[i].c1).toList with
        | false => simp
        | true =>
          cases sameL l[i].c2 l'[i].c2 with
          | false => simp
          | true => simp only [Bool.not_true, cond_false, Bool.and_self, Bool.true_and, hk]
theorem f23_list (R : Type) (l : List D2) (hb : l.length * 64 ≤ reachBytes) (h : ∀ x ∈ l, OkN x → ∀ l' : List D2, Ev fun k => ∀ (K : Bool → Option R), f23 k x.c2 l' K = K (sameL x.c2 l')) (ho : ∀ x ∈ l, OkN x) (l' : List D2) :
    Ev fun k => ∀ (K : Bool → Option R), f23 k l l' K = K (sameL l l') := by
  refine Ev.suc ?_
  by_cases hl : l.length = l'.length
  · refine (f23_loop R l l' hl hb (fun i hi hi' => h _ (List.getElem_mem hi) (ho _ (List.getElem_mem hi)) _) 0 (by omega)).diag.imp fun k hk K => ?_
    simp only [Int.natCast_zero, List.drop_zero] at hk
    rw [f23_step, f23_s, bne_len, hl]
    simp only [decide_true, Bool.not_true, cond_false, hk]
    cases sameL l l' <;> rfl
  · refine .all fun k K => ?_
    rw [f23_step, f23_s, bne_len, decide_eq_false hl, sameL_len hl]; rfl
theorem f23_v (R : Type) {l : List D2} (hl : OkL l) (l' : List D2) : Ev fun k => ∀ (K : Bool → Option R), f23 k l l' K = K (sameL l l') := by
  have key : ∀ n : D2, OkN n → ∀ l' : List D2, Ev fun k => ∀ (K : Bool → Option R), f23 k n.c2 l' K = K (sameL n.c2 l') := by
    intro n
    refine D2.ind (P := fun n => OkN n → ∀ l' : List D2, Ev fun k => ∀ (K : Bool → Option R), f23 k n.c2 l' K = K (sameL n.c2 l')) (fun i d ks g ih ho l' => ?_) n
    exact f23_list R ks ho.kids.1 ih ho.kids.2 l'
  exact f23_list R l hl.1 (fun x _ => key x) hl.2 l'
/-- So many bytes of a number. -/
def beB : Nat → Int → List Int
  | 0, _ => []
  | n + 1, w => beB n (w / 256) ++ [w % 256]
theorem beB_len : ∀ (n : Nat) (w : Int), (beB n w).length = n
  | 0, _ => rfl
  | n + 1, w => by rw [beB, List.length_append, beB_len n]; rfl
theorem beB_ok : ∀ (n : Nat) (w : Int), okBy (beB n w)
  | 0, _ => by intro x hx; simp [beB] at hx
  | n + 1, w => by
    intro x hx
    rw [beB] at hx
    rcases List.mem_append.1 hx with hx | hx
    · exact beB_ok n _ x hx
    · simp at hx; omega
theorem set_drop {out : List Int} {n : Nat} (h : n < out.length) (x : Int) : (out.set n x).drop n = x :: out.drop (n + 1) := by
  rw [List.drop_eq_getElem_cons (by simpa using h)]
  simp [List.drop_set]
theorem f91_loop (R : Type) : ∀ n, n ≤ 1000 → Ev fun k => ∀ (w : Int) (out : List Int) (X : List Int → Option R), n ≤ out.length → f91_l3 k w ((n : Int) - 1) out X = X (beB n w ++ out.drop n)
  | 0, _ => .suc (.all fun k w out X _ => by
    rw [f91_l3, deF (by omega)]; simp [beB])
  | n + 1, hn => by
    refine .suc ((f91_loop R n (by omega)).imp fun k hk w out X ho => ?_)
    have e : ((n + 1 : Nat) : Int) - 1 = (n : Int) := by omega
    rw [e, f91_l3, inb_nat, wr (by omega), wrapU8, shr8]
    simp only [deT (show (n : Int) ≥ 0 by omega), show n < out.length by omega, decide_true, cond_true, Int.toNat_natCast]
    rw [hk _ _ X (by simp; omega), set_drop (by omega), beB, List.append_assoc]; rfl
theorem mk_ok {n : Nat} (hn : n ≤ 1000) : ((decide ((0 : Int) ≤ (n : Int))) && (decide ((n : Int) ≤ (n : Int))) && (decide ((n : Int) * ((1 : Nat) : Int) ≤ 140737488355328))) = true := by
  simp; omega
theorem f91_v (R : Type) {n : Nat} (hn : n ≤ 1000) : Ev fun k => ∀ (w : Int) (K : List Int → Option R), f91 k w (n : Int) K = K (beB n w) :=
  (f91_loop R n hn).imp fun k hk w K => by
    simp only [f91, mk_ok hn, cond_true, Int.toNat_natCast]
    rw [wr (by omega), hk w _ K (by simp)]; simp
theorem p7 {n : Nat} (h : n ≤ 8) : (2 : Int) ^ (7 * n) ≤ 72057594037927936 := by
  have h2 : (2 : Nat) ^ (7 * n) ≤ 72057594037927936 := Nat.le_trans (Nat.pow_le_pow_right (by decide) (show 7 * n ≤ 56 by omega)) (by decide)
  have e : ((2 ^ (7 * n) : Nat) : Int) = (2 : Int) ^ (7 * n) := Int.natCast_pow 2 (7 * n)
  omega
instance (v : Int) (n : Nat) : Decidable (Marked v n) := inferInstanceAs (Decidable (_ ∧ _))
theorem wrapU8' {n : Int} (h0 : 0 ≤ n) (h1 : n < 256) : IntKind.u8.wrap n = n := by
  have := wrapU8 n
  rw [this]; omega
theorem pow256 (m : Nat) : (1 : Int) ≤ 256 ^ m := by
  have := Int.pow_pos (n := 256) (m := m) (by decide)
  omega
/-- The number of a node, and the error. -/
def numR (g : Bool) (d : List Int) : Int × Int := if g = true ∨ 8 < d.length then (0, 4) else if 9223372036854775807 < valF d 0 then (0, 1) else (valF d 0, 0)
theorem f31_v (R : Type) (i : Int) (d : List Int) (ks : List D2) (g : Bool) (hd : okBy d) : Ev fun k => ∀ (K : Int → Int → Option R), f31 k i d ks g K = K (numR g d).1 (numR g d).2 := by
  by_cases h8 : 8 < d.length
  · refine .all fun k K => ?_
    rw [f31, numR, if_pos (.inr h8), deT (by omega)]
    cases g <;> rfl
  · by_cases h0 : d = []
    · subst h0
      refine .all fun k K => ?_
      cases g <;> rfl
    · have hl : 1 ≤ d.length := by
        rcases d with _ | ⟨x, d⟩
        · exact absurd rfl h0
        · simp
      refine (f64_v d hd (by rw [reachV]; omega) (at_ := 0) (n := d.length) hl (by omega) (by omega)).imp fun k h64 K => ?_
      have e : numB d 0 d.length = valF d 0 := by rw [numB, List.drop_zero, List.take_length]
      rw [e] at h64
      have h64 : f64 k d 0 (d.length : Int) K = _ := h64 R K
      rw [f31, numR, deF (by omega), cond_false, beF (by omega), cond_false, h64]
      cases g with
      | true => rw [cond_true, if_pos (show true = true ∨ 8 < d.length from .inl rfl)]
      | false =>
        have hnn : ¬ (false = true ∨ 8 < d.length) := by rintro (h | h); · cases h
                                                         · exact h8 h
        rw [cond_false, if_neg hnn]
        by_cases c : 9223372036854775807 < valF d 0
        · rw [if_pos c, if_pos c]
        · rw [if_neg c, if_neg c]
theorem f32_loop (R : Type) (i : Int) (d : List Int) (ks : List D2) (g : Bool) (hd : okBy d) (h8 : d.length ≤ 8) : ∀ j, j ≤ d.length → Ev fun k => ∀ (v : Int) (X : Int → Option R), 0 ≤ v → (v + 1) * 256 ^ (d.length - j) ≤ 9223372036854775808 → f32_l7 k v (j : Int) i d ks g X = X (valF (d.drop j) v) := by
  refine Ev.down d.length ?_ ?_
  · exact Ev.suc (.all fun k v X _ _ => by simp [f32_l7, valF])
  · intro j hj h
    refine Ev.suc (h.imp fun k hk v X h0 h1 => ?_)
    have hc := hd d[j] (List.getElem_mem hj)
    obtain ⟨m, hm⟩ : ∃ m, d.length - j = m + 1 := ⟨d.length - j - 1, by omega⟩
    have hm' : d.length - (j + 1) = m := by omega
    rw [hm, Int.pow_succ] at h1
    have hp := pow256 m
    have e : (v + 1) * (256 ^ m * 256) = (v * 256 + 256) * 256 ^ m := by
      rw [Int.mul_comm (256 ^ m) 256, ← Int.mul_assoc, Int.add_mul v 1 256]; rfl
    rw [e] at h1
    have h2 : v * 256 + 256 ≤ 9223372036854775808 := by
      have : (v * 256 + 256) * 1 ≤ (v * 256 + 256) * 256 ^ m := Int.mul_le_mul_of_nonneg_left (by omega) (by omega)
      omega
    rw [f32_l7, lt_nat, inb_nat, wrapSuc (by omega)]
    simp only [hj, decide_true, cond_true, Int.toNat_natCast, getD_get hj]
    rw [wr (n := d[j]) (by omega), wr (n := v * 256) (by omega), wr (by omega)]
    have h3 : (v * 256 + d[j] + 1) * 256 ^ (d.length - (j + 1)) ≤ 9223372036854775808 := by
      rw [hm']
      refine Int.le_trans (Int.mul_le_mul_of_nonneg_right ?_ (by omega)) h1
      omega
    rw [hk _ X (by omega) h3, List.drop_eq_getElem_cons hj, valF_cons]
theorem valF_8 {d : List Int} (hd : okBy d) (h : d.length = 8) : d.getD 0 0 * 72057594037927936 ≤ valF d 0 ∧ valF d 0 < (d.getD 0 0 + 1) * 72057594037927936 := by
  cases d with
  | nil => simp at h
  | cons x d =>
    have hx := hd x (by simp)
    have := valF_bound (l := d) (fun y hy => hd y (by simp [hy])) (0 * 256 + x)
    have e7 : d.length = 7 := by simpa using h
    have p7 : (256 : Int) ^ 7 = 72057594037927936 := by decide
    rw [e7, p7] at this
    rw [valF_cons]
    simpa using this
theorem f32_v (R : Type) (i : Int) (d : List Int) (ks : List D2) (g : Bool) (hd : okBy d) : Ev fun k => ∀ (K : Int → Int → Option R), f32 k i d ks g K = K (numR g d).1 (numR g d).2 := by
  by_cases h8 : 8 < d.length
  · refine .all fun k K => ?_
    rw [f32, numR, if_pos (.inr h8), deT (by omega)]
    cases g <;> rfl
  · cases g with
    | true => exact .all fun k K => rfl
    | false =>
      by_cases e8 : d.length = 8
      · have b8 := valF_8 hd e8
        have hi : 0 < d.length := by omega
        have hx := hd d[0] (List.getElem_mem hi)
        have eg : d.getD 0 0 = d[0] := getD_get hi
        by_cases c : d.getD 0 0 ≥ 128
        · refine .all fun k K => ?_
          rw [f32, numR, if_neg (by simp; omega), if_pos (by omega), cond_false, deF (by omega), cond_false, beT (by omega), cond_true, inT (by omega), cond_true]
          show (bif decide (d.getD 0 0 ≥ 128) then _ else _) = _
          rw [deT c]; rfl
        · -- the first round by hand
          refine .suc ((f32_loop R i d ks false hd (by omega) 1 (by omega)).imp fun k hk K => ?_)
          rw [f32, numR, if_neg (by simp; omega), if_neg (by omega), cond_false, deF (by omega), cond_false, beT (by omega), cond_true, inT (by omega), cond_true]
          show (bif decide (d.getD 0 0 ≥ 128) then _ else _) = _
          rw [deF c, cond_false, f32_l7, deT (by omega), cond_true, inT (by omega), cond_true]
          have e0 : d.getD (0 : Int).toNat 0 = d[0] := eg
          rw [e0, show IntKind.i64.wrap ((0 : Int) * 256) = 0 from rfl, show IntKind.i64.wrap ((0 : Int) + 1) = ((1 : Nat) : Int) from rfl, wr (n := d[0]) (by omega), wr (by omega)]
          rw [hk _ _ (by omega) (by rw [e8, show (256 : Int) ^ (8 - 1) = 72057594037927936 from by decide]; omega)]
          have : valF d 0 = valF (d.drop 1) ((0 : Int) + d[0]) := by
            cases d with
            | nil => simp at hi
            | cons x d => rw [valF_cons]; simp
          rw [this]
      · have hp : (256 : Int) ^ d.length ≤ 72057594037927936 := by
          have h2 : (256 : Nat) ^ d.length ≤ 256 ^ 7 := Nat.pow_le_pow_right (by decide) (by omega)
          have e : ((256 ^ d.length : Nat) : Int) = (256 : Int) ^ d.length := Int.natCast_pow 256 d.length
          have e7 : (256 : Nat) ^ 7 = 72057594037927936 := by decide
          omega
        have vb := (valF_bound hd 0).2
        refine (f32_loop R i d ks false hd (by omega) 0 (by omega)).imp fun k hk K => ?_
        have hk := hk 0 (fun v8 => K v8 0) (by omega) (by rw [Nat.sub_zero]; omega)
        rw [List.drop_zero] at hk
        rw [f32, numR, if_neg (by simp; omega), if_neg (by omega), cond_false, deF (by omega), cond_false, beF (by omega), cond_false]
        exact hk
theorem wid {v : Int} (h0 : 0 < v) (h1 : v < 9223372036854775808) : ∃ m : Nat, m ≤ 7 ∧ (256 : Int) ^ m ≤ v ∧ v < 256 ^ (m + 1) := by
  have p : ∀ m : Nat, ∀ c : Int, (256 : Int) ^ m = c → (256 : Int) ^ m = c := fun _ _ h => h
  by_cases c1 : v < 256
  · exact ⟨0, by omega, by simp; omega, by rw [show (256 : Int) ^ (0 + 1) = 256 from by decide]; omega⟩
  by_cases c2 : v < 65536
  · exact ⟨1, by omega, by rw [show (256 : Int) ^ 1 = 256 from by decide]; omega, by rw [show (256 : Int) ^ (1 + 1) = 65536 from by decide]; omega⟩
  by_cases c3 : v < 16777216
  · exact ⟨2, by omega, by rw [show (256 : Int) ^ 2 = 65536 from by decide]; omega, by rw [show (256 : Int) ^ (2 + 1) = 16777216 from by decide]; omega⟩
  by_cases c4 : v < 4294967296
  · exact ⟨3, by omega, by rw [show (256 : Int) ^ 3 = 16777216 from by decide]; omega, by rw [show (256 : Int) ^ (3 + 1) = 4294967296 from by decide]; omega⟩
  by_cases c5 : v < 1099511627776
  · exact ⟨4, by omega, by rw [show (256 : Int) ^ 4 = 4294967296 from by decide]; omega, by rw [show (256 : Int) ^ (4 + 1) = 1099511627776 from by decide]; omega⟩
  by_cases c6 : v < 281474976710656
  · exact ⟨5, by omega, by rw [show (256 : Int) ^ 5 = 1099511627776 from by decide]; omega, by rw [show (256 : Int) ^ (5 + 1) = 281474976710656 from by decide]; omega⟩
  by_cases c7 : v < 72057594037927936
  · exact ⟨6, by omega, by rw [show (256 : Int) ^ 6 = 281474976710656 from by decide]; omega, by rw [show (256 : Int) ^ (6 + 1) = 72057594037927936 from by decide]; omega⟩
  · exact ⟨7, by omega, by rw [show (256 : Int) ^ 7 = 72057594037927936 from by decide]; omega, by rw [show (256 : Int) ^ (7 + 1) = 18446744073709551616 from by decide]; omega⟩
theorem shr_of (v : Int) (h : 0 ≤ v) (n : Nat) (h7 : n ≤ 7) : decide (IntKind.i64.wrap (8 * (n : Int)) < 0) = false ∧ shrI .i64 v (IntKind.i64.wrap (8 * (n : Int))) = v / 256 ^ n := by
  rw [wr (by omega)]
  refine ⟨decide_eq_false (by omega), ?_⟩
  unfold shrI
  have e1 : min (8 * (n : Int)).toNat IntKind.i64.bits = 8 * n := by
    have : IntKind.i64.bits = 64 := rfl
    omega
  rw [e1, Int.fdiv_eq_ediv_of_nonneg _ (by exact Int.le_of_lt (Int.pow_pos (by decide)))]
  have e2 : (2 : Int) ^ (8 * n) = 256 ^ n := by rw [Int.pow_mul]; rfl
  rw [e2]
theorem f61_2_less (R : Type) {v : Int} (h0 : 0 < v) {n : Nat} (h1 : 1 ≤ n) (h7 : n ≤ 7) (hv : (256 : Int) ^ n ≤ v) (k : Nat) (K : List Int → Bool → Int → Option R) : f61_2 k v (n : Int) K = K [] true 1 := by
  obtain ⟨s1, s2⟩ := shr_of v (by omega) n h7
  have : 0 < v / 256 ^ n := by
    have : 1 ≤ v / 256 ^ n := Int.le_ediv_of_mul_le (by have := pow256 n; omega) (by omega)
    omega
  rw [f61_2, deF (by omega), cond_false, deF (by omega), cond_false, deF (by omega), cond_false, deT (by omega), cond_true, s1, cond_false, s2, deT (by omega)]; rfl
theorem f61_2_fit (R : Type) {n : Nat} (h1 : 1 ≤ n) (h8 : n ≤ 8) : Ev fun k => ∀ (v : Int) (K : List Int → Bool → Int → Option R), 0 ≤ v → v < 9223372036854775808 → v < 256 ^ n → f61_2 k v (n : Int) K = K (beB n v) false 0 := by
  refine (f91_v R (n := n) (by omega)).imp fun k hk v K h0 hv hn => ?_
  have wu : IntKind.u64.wrap v = v := wrU (by omega)
  rw [f61_2, deF (by omega), cond_false, deF (by omega), cond_false, deF (by omega), cond_false]
  by_cases h7 : n < 8
  · obtain ⟨s1, s2⟩ := shr_of v h0 n (by omega)
    rw [deT (by omega), cond_true, s1, cond_false, s2, Int.ediv_eq_zero_of_lt h0 hn, deF (by decide), cond_false, wu, hk]
  · rw [deF (by omega), cond_false, wu, hk]
theorem f33_stop (R : Type) (i v : Int) (h0 : 0 < v) (n : Int) (b : List Int) (hb : b.isEmpty = false) (k : Nat) (X0 : Int → Bool → Int → List Int → Bool → Bool → Option R) : f33_l3 (k + 1) v n 0 false i b false false X0 = X0 0 false i b false false := by
  rw [f33_l3, deT (by omega), cond_true, hb]; rfl
theorem f33_v (R : Type) (i v : Int) (h0 : 0 < v) (h1 : v < 9223372036854775808) {m : Nat} (hm : m ≤ 7) (hv : (256 : Int) ^ m ≤ v) (hv' : v < 256 ^ (m + 1)) : Ev fun k => ∀ (K : Int → List Int → Bool → Bool → Option R), f33 k i v K = K i (beB (m + 1) v) false false := by
  have hne : (beB (m + 1) v).isEmpty = false := by
    have := beB_len (m + 1) v
    cases hb : beB (m + 1) v with
    | nil => rw [hb] at this; simp at this
    | cons x l => rfl
  -- from the n-th round on
  have go : ∀ (c n : Nat), n + c = m + 1 → 1 ≤ n → Ev fun k => ∀ (X0 : Int → Bool → Int → List Int → Bool → Bool → Option R), f33_l3 k v (n : Int) 0 false i [] true false X0 = X0 0 false i (beB (m + 1) v) false false := by
    intro c
    induction c with
    | zero =>
      intro n e hn
      obtain rfl : n = m + 1 := by omega
      have up : Ev fun k => ∀ (v : Int) (K : List Int → Bool → Int → Option R), 0 ≤ v → v < 9223372036854775808 → v < 256 ^ (m + 1) → f61_2 (k + 1) v ((m + 1 : Nat) : Int) K = K (beB (m + 1) v) false 0 := by
        obtain ⟨a, ha⟩ := f61_2_fit R (n := m + 1) (by omega) (by omega)
        exact ⟨a, fun k hk => ha (k + 1) (by omega)⟩
      refine .suc (.suc (up.imp fun k hk X0 => ?_))
      rw [f33_l3, deT (by omega), cond_true, Bool.true_or, cond_true, cond_true, hk v _ (by omega) h1 hv', wrapSuc (by omega), f33_stop R i v h0 _ _ hne]
    | succ c ih =>
      intro n e hn
      refine .suc ((ih (n + 1) (by omega) (by omega)).imp fun k ih X0 => ?_)
      have hvn : (256 : Int) ^ n ≤ v := Int.le_trans (by
        have h2 : (256 : Nat) ^ n ≤ 256 ^ m := Nat.pow_le_pow_right (by decide) (by omega)
        have e1 : ((256 ^ n : Nat) : Int) = (256 : Int) ^ n := Int.natCast_pow 256 n
        have e2 : ((256 ^ m : Nat) : Int) = (256 : Int) ^ m := Int.natCast_pow 256 m
        omega) hv
      rw [f33_l3, deT (by omega), cond_true, Bool.true_or, cond_true, cond_true, f61_2_less R h0 hn (by omega) hvn, wrapSuc (by omega)]
      exact ih X0
  refine (go m 1 (by omega) (by omega)).imp fun k hk K => ?_
  rw [f33]
  exact hk _
theorem f33_0 (R : Type) (i v : Int) (h0 : v ≤ 0) : Ev fun k => ∀ (K : Int → List Int → Bool → Bool → Option R), f33 k i v K = K i [] true false :=
  .suc (.all fun k K => by rw [f33, f33_l3, deF (by omega)]; rfl)
theorem f34_loop (R : Type) (i : Int) : ∀ (n : Nat) (v : Int), 0 ≤ v → v < 256 ^ n → v < 9223372036854775808 → n ≤ 8 → (n = 0 ∨ (256 : Int) ^ (n - 1) ≤ v) → Ev fun k => ∀ (acc : List Int) (X0 : Int → Bool → Int → Bool → List Int → Option R), acc.length + n ≤ 100 → f34_l2 k v 0 false i false acc X0 = X0 0 false i false (beB n v ++ acc) := by
  intro n
  induction n with
  | zero =>
    intro v h0 hv _ _ _
    refine .suc (.all fun k acc X0 _ => ?_)
    have : v = 0 := by simp at hv; omega
    rw [f34_l2, deF (by omega), beB]; rfl
  | succ n ih =>
    intro v h0 hv h63 hn hlo
    have hlo : (256 : Int) ^ n ≤ v := by
      rcases hlo with h | h
      · omega
      · simpa using h
    have hp := pow256 n
    rw [Int.pow_succ] at hv
    refine .suc ((ih (v / 256) (by omega) (by omega) (by omega) (by omega) ?_).imp fun k hk acc X0 ha => ?_)
    · cases n with
      | zero => exact .inl rfl
      | succ n =>
        refine .inr ?_
        rw [Int.pow_succ] at hlo
        simp only [Nat.add_sub_cancel]
        omega
    · have e1 : v.tmod 256 = v % 256 := Int.tmod_eq_emod_of_nonneg h0
      have e2 : v.tdiv 256 = v / 256 := Int.tdiv_eq_ediv_of_nonneg h0
      have e3 : IntKind.u8.wrap (v % 256) = v % 256 := wrapU8' (by omega) (by omega)
      rw [f34_l2, deT (by omega), cond_true, e1, e2, e3, roT (by simp; omega), cond_true, wr (n := v / 256) (by omega), hk _ _ (by simp; omega), beB, List.append_assoc]
theorem f34_v (R : Type) (i v : Int) (h0 : 0 < v) (h1 : v < 9223372036854775808) {m : Nat} (hm : m ≤ 7) (hv : (256 : Int) ^ m ≤ v) (hv' : v < 256 ^ (m + 1)) : Ev fun k => ∀ (K : Int → Bool → List Int → Option R), f34 k i v K = K i false (beB (m + 1) v) := by
  refine (f34_loop R i (m + 1) v (by omega) hv' h1 (by omega) (.inr (by simpa using hv))).imp fun k hk K => ?_
  rw [f34]
  refine (hk [] _ (by simp; omega)).trans ?_
  rw [List.append_nil]
theorem f34_0 (R : Type) (i v : Int) (h0 : v ≤ 0) : Ev fun k => ∀ (K : Int → Bool → List Int → Option R), f34 k i v K = K i false [] :=
  .suc (.all fun k K => by rw [f34, f34_l2, deF (by omega)]; rfl)
theorem elementNumbers_plain (i : Int) (d : List Int) (ks : List D2) (g : Bool) (v : Int) (hd : okBy d) (hi : -9223372036854775808 ≤ i ∧ i < 9223372036854775808) (hv : v < 9223372036854775808) : ∃ k, f8 (R := Bool) k i d ks g v some = some true := by
  have h31 := f31_v Bool i d ks g hd
  have h32 := f32_v Bool i d ks g hd
  have haw : Ev fun k => ∀ (K : Bool → Option Bool), f18 k K = K true := awake_v.imp fun k h K => h Bool K
  -- the two leaves are one
  have leaf : ∃ b : List Int, okBy b ∧ b.length ≤ 8 ∧ (∃ nl, Ev fun k => ∀ (K : Int → List Int → Bool → Bool → Option Bool), f33 k i v K = K i b nl false) ∧ (Ev fun k => ∀ (K : Int → Bool → List Int → Option Bool), f34 k i v K = K i false b) := by
    by_cases h0 : 0 < v
    · obtain ⟨m, hm, hlo, hhi⟩ := wid h0 hv
      exact ⟨beB (m + 1) v, beB_ok _ _, by rw [beB_len]; omega, ⟨false, f33_v Bool i v h0 hv hm hlo hhi⟩, f34_v Bool i v h0 hv hm hlo hhi⟩
    · exact ⟨[], (by intro x hx; cases hx), by simp, ⟨true, f33_0 Bool i v (by omega)⟩, f34_0 Bool i v (by omega)⟩
  obtain ⟨b, hb, hbl, ⟨nl, h33⟩, h34⟩ := leaf
  have ok : OkL [D2.mk i b [] false] := ⟨by rw [reachV]; simp, fun x hx => by
    rw [List.mem_singleton.1 hx]
    exact .mk hi hb (by rw [reachV]; omega) (by simp) (by intro x hx; cases hx)⟩
  have h23 := f23_v Bool ok [D2.mk i b [] false]
  refine ((h31.imp4 h32 h33 h34 fun k a b c d => (⟨a, b, c, d⟩ : _ ∧ _ ∧ _ ∧ _)).imp3 h23 haw fun k hh h23 h18 => ?_ : Ev fun k => f8 (R := Bool) k i d ks g v some = some true).some
  obtain ⟨h31, h32, h33, h34⟩ := hh
  rw [f8, h31, h32, h33, h34, beT rfl, cond_true, beT rfl, cond_true, h23, sameL_self, cond_true, h18]
theorem ownKn : ownKnob Try.prog.godebug = none := by kernel_rfl
theorem laidOut : laidOutB Try.prog = true := by kernel_rfl
noncomputable def naming : Naming cx where
  flds := flds
  toT := toT
  ofT := ofT
  plain := fun r => match r with
    | 0 => rfl
    | 1 => rfl
    | 2 => rfl
    | 3 => rfl
    | 4 => rfl
    | 5 => rfl
    | 6 => rfl
    | 7 => rfl
    | 8 => rfl
    | 9 => rfl
    | 10 => rfl
    | 11 => rfl
    | _n + 12 => rfl
  to_of := fun r x => match r, x with
    | 0, _ => rfl
    | 1, _ => rfl
    | 2, _ => rfl
    | 3, _ => rfl
    | 4, _ => rfl
    | 5, _ => rfl
    | 6, _ => rfl
    | 7, _ => rfl
    | 8, _ => rfl
    | 9, _ => rfl
    | 10, _ => rfl
    | 11, _ => rfl
    | _n + 12, _ => rfl
  deep := fun r v => match r, v with
    | 0, _ => rfl
    | 1, _ => rfl
    | 2, v => deep2_eq v
    | 3, _ => rfl
    | 4, _ => rfl
    | 5, _ => rfl
    | 6, _ => rfl
    | 7, _ => rfl
    | 8, _ => rfl
    | 9, _ => rfl
    | 10, _ => rfl
    | 11, _ => rfl
    | _n + 12, _ => rfl
theorem fit : Fit naming Try.prog := fit_of (tab := tab) rfl (by kernel_rfl)
theorem wf_bytes {z : Nat} {l : List Int} (h : WfIV (.list z (l.map fun y => [.int .u8 y]))) : l.length ≤ reachBytes ∧ ∀ n ∈ l, 0 ≤ n ∧ n < 256 := by
  cases h with
  | list h1 h2 _ =>
    refine ⟨by simpa using h1, fun n hn => ?_⟩
    have := h2 _ (List.mem_map.2 ⟨n, hn, rfl⟩) _ (List.mem_singleton.2 rfl)
    cases this with
    | int h3 => simp [Lit.wf, IntKind.min, IntKind.max, IntKind.signed, IntKind.bits] at h3; omega
theorem wf_int {n : Int} (h : WfIV (.int .i64 n)) : -9223372036854775808 ≤ n ∧ n < 9223372036854775808 := by
  cases h with
  | int h3 => simp [Lit.wf, IntKind.min, IntKind.max, IntKind.signed, IntKind.bits] at h3; omega
theorem deep2_mk (i : Int) (d : List Int) (ks : List D2) (g : Bool) : deep2 (.mk i d ks g) = [.int .i64 i, .list 1 (d.map fun y => [.int .u8 y]), .list 4 (deep2s ks), .bool g] := by rw [deep2]; rfl
theorem okL_wf {ks : List D2} (h : WfIV (.list 4 (deep2s ks))) (ih : ∀ x ∈ ks, (∀ iv ∈ deep2 x, WfIV iv) → OkN x) : OkL ks := by
  rw [deep2s_map] at h
  cases h with
  | list h1 h2 h3 =>
    refine ⟨?_, fun x hx => ih x hx (h2 _ (List.mem_map.2 ⟨x, hx, rfl⟩))⟩
    cases ks with
    | nil => simp
    | cons x ks =>
      have h4 := h3 (deep2 x) (by simp)
      obtain ⟨i, d, k, g⟩ := x
      rw [deep2_mk] at h4
      have e : lay (List.map cellB [IV.int IntKind.i64 i, IV.list 1 (d.map fun y => [.int .u8 y]), IV.list 4 (deep2s k), IV.bool g]) = 64 := by kernel_rfl
      rw [List.length_map, e] at h4
      exact h4
theorem okN_wf (n : D2) : (∀ iv ∈ deep2 n, WfIV iv) → OkN n := by
  refine D2.ind (P := fun n => (∀ iv ∈ deep2 n, WfIV iv) → OkN n) (fun i d ks g ih h => ?_) n
  rw [deep2_mk] at h
  have hd := wf_bytes (h (.list 1 (d.map fun y => [.int .u8 y])) (by simp))
  have hk := okL_wf (h (.list 4 (deep2s ks)) (by simp)) ih
  exact .mk (wf_int (h (.int .i64 i) (by simp))) hd.2 hd.1 hk.1 hk.2
end Go.Proofs.Ytklhjegfkpmdoaa
