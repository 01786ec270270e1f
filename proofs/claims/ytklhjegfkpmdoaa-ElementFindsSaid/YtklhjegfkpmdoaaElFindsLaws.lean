/- Proved: which nodes of any list have an id and whether two lists are the same. Conditions: the lists lie in memory. -/
import Derived.Test.YtklhjegfkpmdoaaElWalk2
import Derived.Test.YtklhjegfkpmdoaaRows
import Derived.JoinedOf

namespace Go.Proofs.Ytklhjegfkpmdoaa
open Go Go.Am
theorem awake_v : Ev fun k => ∀ (R : Type) (K : Bool → Option R), f18 k K = K true := by
  refine .plus 100 (.all fun k R K => ?_)
  kernel_rfl
def c1 (w : Int) : List Int := [w % 256]
def c2 (w : Int) : List Int := [w / 256 % 256, w % 256]
def c3 (w : Int) : List Int := [w / 256 / 256 % 256, w / 256 % 256, w % 256]
theorem reachV : reachBytes = 140737488351232 := rfl
def okBy (b : List Int) : Prop := ∀ n ∈ b, 0 ≤ n ∧ n < 256
theorem okBy.drop {b : List Int} (h : okBy b) (i : Nat) : okBy (b.drop i) := fun n hn => h n (List.mem_of_mem_drop hn)
/-- A number with the mark of so many bytes. -/
def Marked (v : Int) (n : Nat) : Prop := (2 : Int) ^ (7 * n) ≤ v ∧ v < 2 * 2 ^ (7 * n)
theorem D2.ind {P : D2 → Prop} (h : ∀ i d ks g, (∀ x ∈ ks, P x) → P (.mk i d ks g)) : ∀ n, P n := by
  intro n
  refine D2.rec (motive_1 := P) (motive_2 := fun l => ∀ x ∈ l, P x) (fun i d ks g ih => h i d ks g ih) (by simp) (fun a l ha hl => ?_) n
  intro x hx
  rcases List.mem_cons.1 hx with rfl | hx
  · exact ha
  · exact hl x hx
theorem D2.eta (n : D2) : D2.mk n.c0 n.c1 n.c2 n.c3 = n := by cases n; rfl
/-- A tree as it lies in memory. -/
inductive OkN : D2 → Prop
  | mk {i : Int} {d : List Int} {ks : List D2} {g : Bool} : -9223372036854775808 ≤ i ∧ i < 9223372036854775808 → okBy d → d.length ≤ reachBytes → ks.length * 64 ≤ reachBytes → (∀ x ∈ ks, OkN x) → OkN (.mk i d ks g)
def OkL (l : List D2) : Prop := l.length * 64 ≤ reachBytes ∧ ∀ x ∈ l, OkN x
theorem OkN.id {n : D2} (h : OkN n) : -9223372036854775808 ≤ n.c0 ∧ n.c0 < 9223372036854775808 := by cases h; assumption
theorem OkN.by {n : D2} (h : OkN n) : okBy n.c1 := by cases h; assumption
theorem OkN.len {n : D2} (h : OkN n) : n.c1.length ≤ reachBytes := by cases h; assumption
theorem OkN.kids {n : D2} (h : OkN n) : OkL n.c2 := by cases h; exact ⟨by assumption, by assumption⟩
def eqB (a b : List Int) : Bool := (strOf a).toList == (strOf b).toList
theorem eqB_self (a : List Int) : eqB a a = true := by simp [eqB]
mutual
def sameN : D2 → D2 → Bool
  | .mk i d ks g, .mk i' d' ks' g' => (i == i') && (g == g') && eqB d d' && sameL ks ks'
def sameL : List D2 → List D2 → Bool
  | [], [] => true
  | [], _ :: _ => false
  | _ :: _, [] => false
  | x :: l, y :: l' => sameN x y && sameL l l'
end
theorem sameL_of {l : List D2} (h : ∀ x ∈ l, sameN x x = true) : sameL l l = true := by
  induction l with
  | nil => rw [sameL]
  | cons x l ih => rw [sameL, h x (by simp), ih fun y hy => h y (by simp [hy])]; rfl
theorem sameN_self (n : D2) : sameN n n = true := by
  refine D2.ind (P := fun n => sameN n n = true) (fun i d ks g ih => ?_) n
  rw [sameN, sameL_of ih, eqB_self]; simp
theorem sameL_self (l : List D2) : sameL l l = true := sameL_of fun x _ => sameN_self x
theorem sameL_len : ∀ {l l' : List D2}, l.length ≠ l'.length → sameL l l' = false
  | [], [], h => by simp at h
  | [], _ :: _, _ => by rw [sameL]
  | _ :: _, [], _ => by rw [sameL]
  | x :: l, y :: l', h => by rw [sameL, sameL_len (by simpa using h), Bool.and_false]
theorem sameN_eta (x y : D2) : sameN x y = ((x.c0 == y.c0) && (x.c3 == y.c3) && eqB x.c1 y.c1 && sameL x.c2 y.c2) := by
  cases x; cases y; rw [sameN]; rfl
/-- Two fuels, both large. -/
def EvB (p : Nat → Nat → Prop) : Prop := ∃ k0, ∀ q, k0 ≤ q → ∀ j, k0 ≤ j → p q j
theorem EvB.suc {p : Nat → Nat → Prop} (h : EvB fun q j => p q (j + 1)) : EvB p := by
  obtain ⟨a, ha⟩ := h
  refine ⟨a + 1, fun q hq j hj => ?_⟩
  obtain ⟨j, rfl⟩ : ∃ i, j = i + 1 := ⟨j - 1, by omega⟩
  exact ha q (by omega) j (by omega)
theorem EvB.all {p : Nat → Nat → Prop} (h : ∀ q j, p q j) : EvB p := ⟨0, fun q _ j _ => h q j⟩
theorem EvB.imp {p p' : Nat → Nat → Prop} (h : EvB p) (f : ∀ q j, p q j → p' q j) : EvB p' := by
  obtain ⟨a, ha⟩ := h
  exact ⟨a, fun q hq j hj => f q j (ha q hq j hj)⟩
theorem EvB.and {p p' : Nat → Nat → Prop} (h : EvB p) (h' : EvB p') : EvB fun q j => p q j ∧ p' q j := by
  obtain ⟨a, ha⟩ := h
  obtain ⟨b, hb⟩ := h'
  exact ⟨max a b, fun q hq j hj => ⟨ha q (by omega) j (by omega), hb q (by omega) j (by omega)⟩⟩
theorem EvB.left {p : Nat → Prop} (h : Ev p) : EvB fun q _ => p q := by
  obtain ⟨a, ha⟩ := h
  exact ⟨a, fun q hq j _ => ha q hq⟩
theorem EvB.diag {p : Nat → Nat → Prop} (h : EvB p) : Ev fun k => p k k := by
  obtain ⟨a, ha⟩ := h
  exact ⟨a, fun k hk => ha k hk k hk⟩
theorem EvB.down {p : Nat → Nat → Nat → Prop} (n : Nat) (h0 : EvB (p n)) (hs : ∀ i, i < n → EvB (p (i + 1)) → EvB (p i)) : ∀ i, i ≤ n → EvB (p i) := by
  intro i hi
  obtain ⟨m, rfl⟩ : ∃ m, n = i + m := ⟨n - i, by omega⟩
  clear hi
  induction m generalizing i with
  | zero => exact h0
  | succ m ih => exact hs i (by omega) (ih (i + 1) (by rw [show i + 1 + m = i + (m + 1) by omega]; exact h0) (fun j hj => hs j (by omega)))
theorem f23_loop (R : Type) (l l' : List D2) (hl : l.length = l'.length) (hb : l.length * 64 ≤ reachBytes) (h : ∀ i (h : i < l.length) (h' : i < l'.length), Ev fun k => ∀ (K : Bool → Option R), f23 k l[i].c2 l'[i].c2 K = K (sameL l[i].c2 l'[i].c2)) :
    ∀ i, i ≤ l.length → EvB fun q j => ∀ (X0 : Option R) (X1 : Bool → Option R), f23_l4 (fun _ => f23 q) j l l' (i : Int) X0 X1 = if sameL (l.drop i) (l'.drop i) = true then X0 else X1 false := by
  rw [reachV] at hb
  refine EvB.down l.length ?_ ?_
  · refine EvB.suc (.all fun q j X0 X1 => ?_)
    rw [List.drop_length, hl, List.drop_length, sameL, f23_l4, hl]
    simp
  · intro i hi ih
    have hi' : i < l'.length := by omega
    refine EvB.suc ((ih.and (.left (h i hi hi'))).imp fun q j hk X0 X1 => ?_)
    obtain ⟨hk, h23⟩ := hk
    rw [List.drop_eq_getElem_cons hi, List.drop_eq_getElem_cons hi', sameL, sameN_eta, f23_l4, lt_nat, inb_nat, inb_nat, wrapSuc (by omega)]
    simp only [hi, hi', decide_true, cond_true, Int.toNat_natCast, getD_get hi, getD_get hi', f17, h23]
    rw [bne]
    cases l[i].c0 == l'[i].c0 with
    | false => simp
    | true =>
      cases l[i].c3 == l'[i].c3 with
      | false => simp
      | true =>
        unfold eqB
        cases (strOf l[i].c1).toList == (strOf l'[i].c1).toList with
        | false => simp
        | true =>
          cases sameL l[i].c2 l'[i].c2 with
          | false => simp
          | true => simp only [Bool.not_true, cond_false, Bool.and_self, Bool.true_and, hk]
theorem f23_list (R : Type) (l : List D2) (hb : l.length * 64 ≤ reachBytes) (h : ∀ x ∈ l, OkN x → ∀ l' : List D2, Ev fun k => ∀ (K : Bool → Option R), f23 k x.c2 l' K = K (sameL x.c2 l')) (ho : ∀ x ∈ l, OkN x) (l' : List D2) :
    Ev fun k => ∀ (K : Bool → Option R), f23 k l l' K = K (sameL l l') := by
  refine Ev.suc ?_
  by_cases hl : l.length = l'.length
  · refine (f23_loop R l l' hl hb (fun i hi hi' => h _ (List.getElem_mem hi) (ho _ (List.getElem_mem hi)) _) 0 (by omega)).diag.imp fun k hk K => ?_
    simp only [Int.natCast_zero, List.drop_zero] at hk
    rw [f23_step, f23_s, bne_len, hl]
    simp only [decide_true, Bool.not_true, cond_false, hk]
    cases sameL l l' <;> rfl
  · refine .all fun k K => ?_
    rw [f23_step, f23_s, bne_len, decide_eq_false hl, sameL_len hl]; rfl
theorem f23_v (R : Type) {l : List D2} (hl : OkL l) (l' : List D2) : Ev fun k => ∀ (K : Bool → Option R), f23 k l l' K = K (sameL l l') := by
  have key : ∀ n : D2, OkN n → ∀ l' : List D2, Ev fun k => ∀ (K : Bool → Option R), f23 k n.c2 l' K = K (sameL n.c2 l') := by
    intro n
    refine D2.ind (P := fun n => OkN n → ∀ l' : List D2, Ev fun k => ∀ (K : Bool → Option R), f23 k n.c2 l' K = K (sameL n.c2 l')) (fun i d ks g ih ho l' => ?_) n
    exact f23_list R ks ho.kids.1 ih ho.kids.2 l'
  exact f23_list R l hl.1 (fun x _ => key x) hl.2 l'
instance (v : Int) (n : Nat) : Decidable (Marked v n) := inferInstanceAs (Decidable (_ ∧ _))
theorem f76_loop (R : Type) (l l' : List D2) (hl : l.length = l'.length) (hb : l.length * 64 ≤ reachBytes) (h : ∀ i (h : i < l.length), Ev fun k => ∀ (y : D2) (K : Bool → Option R), y ∈ l' → f77_2 k l[i].c0 l[i].c1 l[i].c2 l[i].c3 y.c0 y.c1 y.c2 y.c3 K = K (sameN l[i] y)) :
    ∀ i, i ≤ l.length → EvB fun q j => ∀ (X0 : Option R) (X1 : Bool → Option R), f76_2_l4 (fun _ => f77_2 q) j l' l (l.length : Int) (i : Int) X0 X1 = if sameL (l.drop i) (l'.drop i) = true then X0 else X1 false := by
  rw [reachV] at hb
  refine EvB.down l.length ?_ ?_
  · refine EvB.suc (.all fun q j X0 X1 => ?_)
    rw [List.drop_length, hl, List.drop_length, sameL, f76_2_l4, ifF (by omega)]
    simp
  · intro i hi ih
    have hi' : i < l'.length := by omega
    refine EvB.suc ((ih.and (.left (h i hi))).imp fun q j hk X0 X1 => ?_)
    obtain ⟨hk, h77⟩ := hk
    rw [List.drop_eq_getElem_cons hi, List.drop_eq_getElem_cons hi', sameL, f76_2_l4, lt_nat, inb_nat, inb_nat, wrapSuc (by omega)]
    simp only [hi, hi', decide_true, cond_true, Int.toNat_natCast, getD_get hi, getD_get hi']
    rw [h77 _ _ (List.getElem_mem hi')]
    cases sameN l[i] l'[i] with
    | false => simp
    | true => simp only [Bool.not_true, cond_false, Bool.true_and, hk]
theorem Ev.forall_list {p : D2 → Nat → Prop} : ∀ {l : List D2}, (∀ y ∈ l, Ev (p y)) → Ev fun k => ∀ y, y ∈ l → p y k
  | [], _ => .all fun k y hy => by simp at hy
  | x :: l, h => (h x (by simp)).imp2 (Ev.forall_list (l := l) fun y hy => h y (by simp [hy])) fun k h1 h2 y hy => by
    rcases List.mem_cons.1 hy with rfl | hy
    · exact h1
    · exact h2 y hy
theorem f46_list (R : Type) (l : List D2) (hb : l.length * 64 ≤ reachBytes) (h : ∀ x ∈ l, OkN x → ∀ l' : List D2, Ev fun k => ∀ (K : Bool → Option R), f46 k x.c2 l' K = K (sameL x.c2 l')) (ho : ∀ x ∈ l, OkN x) (l' : List D2) :
    Ev fun k => ∀ (K : Bool → Option R), f46 k l l' K = K (sameL l l') := by
  refine Ev.suc (Ev.suc ?_)
  by_cases hl : l.length = l'.length
  · have each : ∀ i (h : i < l.length), Ev fun k => ∀ (y : D2) (K : Bool → Option R), y ∈ l' → f77_2 k l[i].c0 l[i].c1 l[i].c2 l[i].c3 y.c0 y.c1 y.c2 y.c3 K = K (sameN l[i] y) := by
      intro i hi
      refine .suc ((Ev.forall_list (l := l') fun y _ => h _ (List.getElem_mem hi) (ho _ (List.getElem_mem hi)) y.c2).imp fun k hk y K hy => ?_)
      rw [f77_2_step, f77_2_s, sameN_eta]
      cases l[i].c0 == y.c0 with
      | false => rfl
      | true =>
        cases l[i].c3 == y.c3 with
        | false => rfl
        | true =>
          simp only [cond_true, f78, hk y hy, Bool.true_and]
          unfold eqB
          cases (strOf l[i].c1).toList == (strOf y.c1).toList <;> rfl
    refine (f76_loop R l l' hl hb each 0 (by omega)).diag.imp fun k hk K => ?_
    simp only [Int.natCast_zero, List.drop_zero] at hk
    rw [f46_step, f46_s, f76_2_step, f76_2_s, bne_len, hl]
    simp only [decide_true, Bool.not_true, cond_false]
    rw [← hl, hk]
    cases sameL l l' <;> rfl
  · refine .all fun k K => ?_
    rw [f46_step, f46_s, f76_2_step, f76_2_s, bne_len, decide_eq_false hl, sameL_len hl]; rfl
theorem f46_v (R : Type) {l : List D2} (hl : OkL l) (l' : List D2) : Ev fun k => ∀ (K : Bool → Option R), f46 k l l' K = K (sameL l l') := by
  have key : ∀ n : D2, OkN n → ∀ l' : List D2, Ev fun k => ∀ (K : Bool → Option R), f46 k n.c2 l' K = K (sameL n.c2 l') := by
    intro n
    refine D2.ind (P := fun n => OkN n → ∀ l' : List D2, Ev fun k => ∀ (K : Bool → Option R), f46 k n.c2 l' K = K (sameL n.c2 l')) (fun i d ks g ih ho l' => ?_) n
    exact f46_list R ks ho.kids.1 ih ho.kids.2 l'
  exact f46_list R l hl.1 (fun x _ => key x) hl.2 l'
theorem set_self {l : List D2} {i : Nat} (h : i < l.length) : l.set i l[i] = l := by
  refine List.ext_getElem (by simp) fun j h1 h2 => ?_
  rw [List.getElem_set]; split
  · subst i; rfl
  · rfl
theorem f75_v (R : Type) : ∀ n : D2, OkN n → Ev fun k => ∀ (K : Int → Bool → List Int → List D2 → Option R), f75 k n.c0 n.c1 n.c2 n.c3 K = K n.c0 n.c3 n.c1 n.c2 := by
  intro n
  refine D2.ind (P := fun n => OkN n → Ev fun k => ∀ (K : Int → Bool → List Int → List D2 → Option R), f75 k n.c0 n.c1 n.c2 n.c3 K = K n.c0 n.c3 n.c1 n.c2) (fun i d ks g ih ho => ?_) n
  have hb := ho.kids.1
  have hd := ho.len
  show Ev fun k => ∀ (K : Int → Bool → List Int → List D2 → Option R), f75 k i d ks g K = K i g d ks
  have hd : d.length ≤ reachBytes := hd
  have hb : ks.length * 64 ≤ reachBytes := hb
  rw [reachV] at hb hd
  have lp : ∀ j, j ≤ ks.length → EvB fun q k => ∀ (a : Int) (b : Bool) (X0 : Int → Bool → List Int → List D2 → Int → Bool → Option R), f75_l4 (fun _ => f75 q) k (ks.length : Int) (j : Int) i g d ks a b X0 = X0 i g d ks a b := by
    refine EvB.down ks.length ?_ ?_
    · refine EvB.suc (.all fun q k a b X0 => ?_)
      rw [f75_l4, ifF (by omega)]
    · intro j hj h
      refine EvB.suc ((h.and (.left (ih _ (List.getElem_mem hj) (ho.kids.2 _ (List.getElem_mem hj))))).imp fun q k hk a b X0 => ?_)
      rw [f75_l4, lt_nat, inb_nat, wrapSuc (by omega)]
      simp only [hj, decide_true, cond_true, Int.toNat_natCast, getD_get hj, hk.2, D2.eta, set_self hj, hk.1]
  refine .suc ((lp 0 (by omega)).diag.imp fun k hk K => ?_)
  simp only [Int.natCast_zero] at hk
  rw [f75_step, f75_s]
  simp only [f95_2, f96_2, List.length_nil]
  rw [roT (by omega), roT (by omega)]
  simp only [cond_true, hk]
def hasId (id : Int) (n : D2) : Bool := n.c0 == id
theorem f44_v (R : Type) {l : List D2} (hl : OkL l) (id : Int) : Ev fun k => ∀ (K : List D2 → Option R), f44 k l id K = K (l.filter (hasId id)) := by
  have hb := hl.1
  rw [reachV] at hb
  have lp : ∀ i, i ≤ l.length → Ev fun k => ∀ (acc : List D2) (X0 : List D2 → Option R), acc.length ≤ i → f44_l3 k id l (l.length : Int) (i : Int) acc X0 = X0 (acc ++ (l.drop i).filter (hasId id)) := by
    refine Ev.down l.length ?_ ?_
    · exact Ev.suc (.all fun k acc X0 _ => by rw [f44_l3, ifF (by omega)]; simp)
    · intro i hi h
      refine Ev.suc (h.imp2 (f75_v R l[i] (hl.2 _ (List.getElem_mem hi))) fun k hk h75 acc X0 ha => ?_)
      rw [List.drop_eq_getElem_cons hi, List.filter_cons, f44_l3, lt_nat, inb_nat, wrapSuc (by omega)]
      simp only [hi, decide_true, cond_true, Int.toNat_natCast, getD_get hi]
      by_cases hc : hasId id l[i] = true
      case neg =>
        have hc' : (l[i].c0 == id) = false := by have : ¬ (l[i].c0 == id) = true := hc; simpa using this
        rw [if_neg hc, hc', cond_false, hk _ _ (by omega)]
      case pos =>
        have hc' : (l[i].c0 == id) = true := hc
        rw [if_pos hc, hc']
        simp only [cond_true, h75, D2.eta]
        rw [roT (by simp only [List.length_cons, List.length_nil]; omega), cond_true, hk _ _ (by simp; omega), List.append_assoc]; rfl
  refine (lp 0 (by omega)).imp fun k hk K => ?_
  simp only [Int.natCast_zero, List.drop_zero] at hk
  rw [f44, hk _ _ (by simp)]; rfl
theorem f45_v (R : Type) {l : List D2} (hl : OkL l) (id : Int) : Ev fun k => ∀ (K : List D2 → Option R), f45 k l id K = K (l.filter (hasId id)) := by
  have hb := hl.1
  rw [reachV] at hb
  have lp : ∀ i, i ≤ l.length → Ev fun k => ∀ (acc : List D2) (X0 : List D2 → Option R), acc.length ≤ i → f45_l3 k l id (i : Int) acc X0 = X0 (acc ++ (l.drop i).filter (hasId id)) := by
    refine Ev.down l.length ?_ ?_
    · exact Ev.suc (.all fun k acc X0 _ => by rw [f45_l3, ifF (by omega)]; simp)
    · intro i hi h
      refine Ev.suc (h.imp fun k hk acc X0 ha => ?_)
      rw [List.drop_eq_getElem_cons hi, List.filter_cons, f45_l3, lt_nat, inb_nat, wrapSuc (by omega)]
      simp only [hi, decide_true, cond_true, Int.toNat_natCast, getD_get hi]
      by_cases hc : hasId id l[i] = true
      case neg =>
        have hc' : (l[i].c0 == id) = false := by have : ¬ (l[i].c0 == id) = true := hc; simpa using this
        rw [if_neg hc, hc', cond_false, hk _ _ (by omega)]
      case pos =>
        have hc' : (l[i].c0 == id) = true := hc
        rw [if_pos hc, hc']
        simp only [cond_true, D2.eta]
        rw [roT (by simp only [List.length_cons, List.length_nil]; omega), cond_true, hk _ _ (by simp; omega), List.append_assoc]; rfl
  refine (lp 0 (by omega)).imp fun k hk K => ?_
  simp only [Int.natCast_zero, List.drop_zero] at hk
  rw [f45, hk _ _ (by simp)]; rfl
/-- The first node of an id. -/
def find1 (l : List D2) (id : Int) : Option D2 := (l.filter (hasId id)).head?
theorem f42_v (R : Type) {l : List D2} (hl : OkL l) (id : Int) : Ev fun k => ∀ (K : Int → Bool → Bool → List Int → List D2 → Option R), f42 k l id K = match find1 l id with
    | none => K 0 false false [] []
    | some n => K n.c0 n.c3 true n.c1 n.c2 := by
  have hb := hl.1
  rw [reachV] at hb
  have lp : ∀ i, i ≤ l.length → Ev fun k => ∀ (X0 : Int → Option R) (X1 : Int → Int → Option R), (∃ j, ∃ h : j < l.length, find1 (l.drop i) id = some l[j] ∧ f73_9_l2 k l (l.length : Int) (i : Int) id X0 X1 = X1 (j : Int) id) ∨ (find1 (l.drop i) id = none ∧ f73_9_l2 k l (l.length : Int) (i : Int) id X0 X1 = X0 id) := by
    refine Ev.down l.length ?_ ?_
    · refine Ev.suc (.all fun k X0 X1 => .inr ⟨by simp [find1], ?_⟩)
      rw [f73_9_l2, ifF (by omega)]
    · intro i hi h
      refine Ev.suc (h.imp fun k hk X0 X1 => ?_)
      rw [List.drop_eq_getElem_cons hi, f73_9_l2, lt_nat, inb_nat, wrapSuc (by omega)]
      simp only [hi, decide_true, cond_true, Int.toNat_natCast, getD_get hi, f74]
      unfold find1
      rw [List.filter_cons, hasId]
      cases l[i].c0 == id with
      | false => simp only [cond_false]; exact hk X0 X1
      | true => exact .inl ⟨i, hi, rfl, rfl⟩
  cases hf : find1 l id with
  | none =>
    refine (lp 0 (by omega)).imp fun k hk K => ?_
    rw [f42, f73_9]
    rcases hk (fun v7 => (fun v1 _v2 => bif decide (v1 < 0) then K 0 false false ([] : List Int) ([] : List D2) else bif inb v1 l.length then f75 k (D2.c0 (l.getD v1.toNat zero2)) (D2.c1 (l.getD v1.toNat zero2)) (D2.c2 (l.getD v1.toNat zero2)) (D2.c3 (l.getD v1.toNat zero2)) (fun v3 v4 v5 v6 => K v3 v4 true v5 v6) else none) (-1) v7) (fun v1 _v2 => bif decide (v1 < 0) then K 0 false false ([] : List Int) ([] : List D2) else bif inb v1 l.length then f75 k (D2.c0 (l.getD v1.toNat zero2)) (D2.c1 (l.getD v1.toNat zero2)) (D2.c2 (l.getD v1.toNat zero2)) (D2.c3 (l.getD v1.toNat zero2)) (fun v3 v4 v5 v6 => K v3 v4 true v5 v6) else none) with ⟨j, hj, e1, e2⟩ | ⟨e1, e2⟩
    · rw [List.drop_zero, hf] at e1; simp at e1
    · exact e2
  | some n =>
    have hn : n ∈ l := by
      unfold find1 at hf
      exact (List.mem_filter.1 (List.mem_of_mem_head? hf)).1
    refine (lp 0 (by omega)).imp2 (f75_v R n (hl.2 n hn)) fun k hk h75 K => ?_
    rw [f42, f73_9]
    rcases hk (fun v7 => (fun v1 _v2 => bif decide (v1 < 0) then K 0 false false ([] : List Int) ([] : List D2) else bif inb v1 l.length then f75 k (D2.c0 (l.getD v1.toNat zero2)) (D2.c1 (l.getD v1.toNat zero2)) (D2.c2 (l.getD v1.toNat zero2)) (D2.c3 (l.getD v1.toNat zero2)) (fun v3 v4 v5 v6 => K v3 v4 true v5 v6) else none) (-1) v7) (fun v1 _v2 => bif decide (v1 < 0) then K 0 false false ([] : List Int) ([] : List D2) else bif inb v1 l.length then f75 k (D2.c0 (l.getD v1.toNat zero2)) (D2.c1 (l.getD v1.toNat zero2)) (D2.c2 (l.getD v1.toNat zero2)) (D2.c3 (l.getD v1.toNat zero2)) (fun v3 v4 v5 v6 => K v3 v4 true v5 v6) else none) with ⟨j, hj, e1, e2⟩ | ⟨e1, e2⟩
    · rw [List.drop_zero, hf] at e1
      obtain rfl := Option.some.inj e1
      refine e2.trans ?_
      simp only [deF (show ¬ (j : Int) < 0 by omega), cond_false, inb_nat, hj, decide_true, cond_true, Int.toNat_natCast, getD_get hj, h75]
    · rw [List.drop_zero, hf] at e1; simp at e1
theorem f43_v (R : Type) {l : List D2} (hl : OkL l) (id : Int) : Ev fun k => ∀ (K : Int → List Int → List D2 → Bool → Bool → Option R), f43 k l id K = match find1 l id with
    | none => K 0 [] [] false false
    | some n => K n.c0 n.c1 n.c2 n.c3 true := by
  refine (f45_v R hl id).imp fun k hk K => ?_
  rw [f43, hk]
  unfold find1
  cases l.filter (hasId id) with
  | nil => rfl
  | cons x t =>
    rw [beF (by simp only [List.length_cons]; omega), inT (by simp only [List.length_cons]; omega)]; rfl
theorem OkL.filter {l : List D2} (h : OkL l) (p : D2 → Bool) : OkL (l.filter p) :=
  ⟨by have := List.length_filter_le p l; have := h.1; rw [reachV] at *; omega, fun x hx => h.2 x (List.mem_filter.1 hx).1⟩
theorem elementFinds_plain (a b : List D2) (id : Int) (ha : OkL a) : ∃ k, f11 (R := Bool) k a b id some = some true := by
  refine Ev.some ?_
  have e1 := (f42_v Bool ha id).and (f43_v Bool ha id)
  have e2 := (f44_v Bool ha id).and (f45_v Bool ha id)
  have e3 := (f46_v Bool ha b).and ((f46_v Bool ha a).and (f23_v Bool ha b))
  have e4 := (f23_v Bool (ha.filter (hasId id)) (a.filter (hasId id)))
  cases hf : find1 a id with
  | none =>
    rw [hf] at e1
    have e5 := f23_v Bool (l := [D2.mk 0 [] [] false]) ⟨by rw [reachV]; simp, by intro x hx; simp at hx; rw [hx]; exact .mk (by omega) (by intro x hx; simp at hx) (by simp) (by simp) (by simp)⟩ [D2.mk 0 [] [] false]
    refine (e1.and e2).imp4 (e3.and e4) e5 awake_v fun k h1 h3 h5 h6 => ?_
    obtain ⟨⟨h42, h43⟩, h44, h45⟩ := h1
    obtain ⟨⟨h46, h46', h23⟩, h23'⟩ := h3
    dsimp only at h42 h43
    simp only [f11, h42, h43, beq_self_eq_true, Bool.not_true, cond_false, h5, sameL_self, h44, h45, h23', h46, h23, h46', cond_true, h6]
  | some n =>
    rw [hf] at e1
    have hn : n ∈ a := by
      unfold find1 at hf
      exact (List.mem_filter.1 (List.mem_of_mem_head? hf)).1
    have e5 := f23_v Bool (l := [n]) ⟨by rw [reachV]; simp, by intro x hx; simp at hx; rw [hx]; exact ha.2 n hn⟩ [n]
    refine (e1.and e2).imp4 (e3.and e4) e5 awake_v fun k h1 h3 h5 h6 => ?_
    obtain ⟨⟨h42, h43⟩, h44, h45⟩ := h1
    obtain ⟨⟨h46, h46', h23⟩, h23'⟩ := h3
    dsimp only at h42 h43
    simp only [f11, h42, h43, beq_self_eq_true, Bool.not_true, cond_false, D2.eta, h5, sameL_self, h44, h45, h23', h46, h23, h46', cond_true, h6]
theorem ownKn : ownKnob Try.prog.godebug = none := by kernel_rfl
theorem laidOut : laidOutB Try.prog = true := by kernel_rfl
noncomputable def naming : Naming cx where
  flds := flds
  toT := toT
  ofT := ofT
  plain := fun r => match r with
    | 0 => rfl
    | 1 => rfl
    | 2 => rfl
    | 3 => rfl
    | 4 => rfl
    | 5 => rfl
    | 6 => rfl
    | 7 => rfl
    | 8 => rfl
    | 9 => rfl
    | 10 => rfl
    | 11 => rfl
    | _n + 12 => rfl
  to_of := fun r x => match r, x with
    | 0, _ => rfl
    | 1, _ => rfl
    | 2, _ => rfl
    | 3, _ => rfl
    | 4, _ => rfl
    | 5, _ => rfl
    | 6, _ => rfl
    | 7, _ => rfl
    | 8, _ => rfl
    | 9, _ => rfl
    | 10, _ => rfl
    | 11, _ => rfl
    | _n + 12, _ => rfl
  deep := fun r v => match r, v with
    | 0, _ => rfl
    | 1, _ => rfl
    | 2, v => deep2_eq v
    | 3, _ => rfl
    | 4, _ => rfl
    | 5, _ => rfl
    | 6, _ => rfl
    | 7, _ => rfl
    | 8, _ => rfl
    | 9, _ => rfl
    | 10, _ => rfl
    | 11, _ => rfl
    | _n + 12, _ => rfl
theorem fit : Fit naming Try.prog := fit_of (tab := tab) rfl (by kernel_rfl)
theorem wf_bytes {z : Nat} {l : List Int} (h : WfIV (.list z (l.map fun y => [.int .u8 y]))) : l.length ≤ reachBytes ∧ ∀ n ∈ l, 0 ≤ n ∧ n < 256 := by
  cases h with
  | list h1 h2 _ =>
    refine ⟨by simpa using h1, fun n hn => ?_⟩
    have := h2 _ (List.mem_map.2 ⟨n, hn, rfl⟩) _ (List.mem_singleton.2 rfl)
    cases this with
    | int h3 => simp [Lit.wf, IntKind.min, IntKind.max, IntKind.signed, IntKind.bits] at h3; omega
theorem wf_int {n : Int} (h : WfIV (.int .i64 n)) : -9223372036854775808 ≤ n ∧ n < 9223372036854775808 := by
  cases h with
  | int h3 => simp [Lit.wf, IntKind.min, IntKind.max, IntKind.signed, IntKind.bits] at h3; omega
theorem deep2_mk (i : Int) (d : List Int) (ks : List D2) (g : Bool) : deep2 (.mk i d ks g) = [.int .i64 i, .list 1 (d.map fun y => [.int .u8 y]), .list 4 (deep2s ks), .bool g] := by rw [deep2]; rfl
theorem okL_wf {ks : List D2} (h : WfIV (.list 4 (deep2s ks))) (ih : ∀ x ∈ ks, (∀ iv ∈ deep2 x, WfIV iv) → OkN x) : OkL ks := by
  rw [deep2s_map] at h
  cases h with
  | list h1 h2 h3 =>
    refine ⟨?_, fun x hx => ih x hx (h2 _ (List.mem_map.2 ⟨x, hx, rfl⟩))⟩
    cases ks with
    | nil => simp
    | cons x ks =>
      have h4 := h3 (deep2 x) (by simp)
      obtain ⟨i, d, k, g⟩ := x
      rw [deep2_mk] at h4
      have e : lay (List.map cellB [IV.int IntKind.i64 i, IV.list 1 (d.map fun y => [.int .u8 y]), IV.list 4 (deep2s k), IV.bool g]) = 64 := by kernel_rfl
      rw [List.length_map, e] at h4
      exact h4
theorem okN_wf (n : D2) : (∀ iv ∈ deep2 n, WfIV iv) → OkN n := by
  refine D2.ind (P := fun n => (∀ iv ∈ deep2 n, WfIV iv) → OkN n) (fun i d ks g ih h => ?_) n
  rw [deep2_mk] at h
  have hd := wf_bytes (h (.list 1 (d.map fun y => [.int .u8 y])) (by simp))
  have hk := okL_wf (h (.list 4 (deep2s ks)) (by simp)) ih
  exact .mk (wf_int (h (.int .i64 i) (by simp))) hd.2 hd.1 hk.1 hk.2
theorem okL_arg {l : List D2} (h : ∀ iv ∈ deep cx (.slice (.named 2)) l, WfIV iv) : OkL l := by
  refine okL_wf (ks := l) ?_ fun x _ => okN_wf x
  have := h _ (List.mem_singleton.2 rfl)
  rw [deep2s_map]; exact this
end Go.Proofs.Ytklhjegfkpmdoaa
