/- Proved: each of these functions does what a plain function says. Conditions: none. -/
import Derived.Test.YtklhjegfkpmdoaaElWalk1

/-! What the functions do, as plain functions; and that they do. -/
namespace Go.Proofs.Ytklhjegfkpmdoaa
open Go Go.Am
abbrev f93_4_T (R : Type) : Type := Int → List Int → List D2 → Bool → Int → Int → (Bool → Int → Int → Option R) → Option R
abbrev f73_4_T (R : Type) : Type := List D2 → Int → Int → (Int → Int → Int → Option R) → Option R
abbrev f92_4_T (R : Type) : Type := List D2 → Int → Int → (Bool → Int → Int → Option R) → Option R
abbrev f69_2_T (R : Type) : Type := List D2 → Int → Int → (Bool → Option R) → Option R
/-! ## 93: diorama/element.some$1 -/
noncomputable def f93_4_s {R : Type} (g_f69_2 : Nat → f69_2_T R) (k : Nat) (a0 : Int) (a1 : List Int) (a2 : List D2) (a3 : Bool) (a4 a5 : Int) (K : Bool → Int → Int → Option R) : Option R :=
 f67 k a0 a1 a2 a3 a4 a5 (fun v1 =>
  bif v1 then
   K true a4 a5
  else
   g_f69_2 k a2 a0 (IntKind.i64.wrap (a5 + 1)) (fun v2 =>
    K v2 a4 a5))
noncomputable def f93_4_d {R : Type} (g : f93_4_T R) (e : Dr D R) : Dr D R := door [.agg [.int .i64, .list (.int .u8), .list (.named 2), .bool], .ptr 0 0, .ptr 1 0, .ptr 2 0] [.box [.fn 67 []], .box [.int .i64], .box [.int .i64]] (fun (x : ((Int × List Int × List D2 × Bool × Unit) × Unit × Unit × Unit × Unit)) (y : (((Unit) × Unit) × (Int × Unit) × (Int × Unit) × Unit)) K => g x.1.1 x.1.2.1 x.1.2.2.1 x.1.2.2.2.1 y.2.1.1 y.2.2.1.1 (fun z0 z1 z2 => K ⟨.bool z0, [some (.box [.fn 67 []]), some (.box [.int .i64 z1]), some (.box [.int .i64 z2])]⟩)) e
/-! ## 73: slices.IndexFunc[[]diorama/api.Node,diorama/api.Node] -/
noncomputable def f73_4_l2 {R : Type} (g_f93_4 : Nat → f93_4_T R) : Nat → List D2 → Int → Int → Int → Int → (Int → Int → Option R) → (Int → Int → Int → Option R) → Option R
  | 0, _, _, _, _, _, _, _ => none
  | k + 1, v1, v2, v3, v4, v5, X0, X1 =>
  bif decide (v3 < v2) then
   bif inb v3 v1.length then
    g_f93_4 k (D2.c0 (v1.getD v3.toNat zero2)) (D2.c1 (v1.getD v3.toNat zero2)) (D2.c2 (v1.getD v3.toNat zero2)) (D2.c3 (v1.getD v3.toNat zero2)) v4 v5 (fun v6 v7 v8 =>
     bif v6 then
      X1 v3 v7 v8
     else
      f73_4_l2 g_f93_4 k v1 v2 (IntKind.i64.wrap (v3 + 1)) v7 v8 X0 X1)
   else
    none
  else
   X0 v4 v5
noncomputable def f73_4_s {R : Type} (g_f93_4 : Nat → f93_4_T R) (k : Nat) (a0 : List D2) (a1 a2 : Int) (K : Int → Int → Int → Option R) : Option R :=
 f73_4_l2 g_f93_4 k a0 (a0.length : Int) 0 a1 a2 (fun v9 v10 =>
  K (-1) v9 v10) K
noncomputable def f73_4_d {R : Type} (g : f73_4_T R) (e : Dr D R) : Dr D R := door [.list (.named 2), .fn 93 [.ptr 0 0, .ptr 1 0, .ptr 2 0]] [.box [.fn 67 []], .box [.int .i64], .box [.int .i64]] (fun (x : (List D2 × (Unit × Unit × Unit × Unit) × Unit)) (y : (((Unit) × Unit) × (Int × Unit) × (Int × Unit) × Unit)) K => g x.1 y.2.1.1 y.2.2.1.1 (fun z0 z1 z2 => K ⟨.int .i64 z0, [some (.box [.fn 67 []]), some (.box [.int .i64 z1]), some (.box [.int .i64 z2])]⟩)) e
/-! ## 92: slices.ContainsFunc[[]diorama/api.Node,diorama/api.Node] -/
noncomputable def f92_4_s {R : Type} (g_f73_4 : Nat → f73_4_T R) (k : Nat) (a0 : List D2) (a1 a2 : Int) (K : Bool → Int → Int → Option R) : Option R :=
 g_f73_4 k a0 a1 a2 (fun v1 v2 v3 =>
  K (decide (v1 ≥ 0)) v2 v3)
noncomputable def f92_4_d {R : Type} (g : f92_4_T R) (e : Dr D R) : Dr D R := door [.list (.named 2), .fn 93 [.ptr 0 0, .ptr 1 0, .ptr 2 0]] [.box [.fn 67 []], .box [.int .i64], .box [.int .i64]] (fun (x : (List D2 × (Unit × Unit × Unit × Unit) × Unit)) (y : (((Unit) × Unit) × (Int × Unit) × (Int × Unit) × Unit)) K => g x.1 y.2.1.1 y.2.2.1.1 (fun z0 z1 z2 => K ⟨.bool z0, [some (.box [.fn 67 []]), some (.box [.int .i64 z1]), some (.box [.int .i64 z2])]⟩)) e
/-! ## 69: diorama/element.some -/
noncomputable def f69_2_s {R : Type} (g_f92_4 : Nat → f92_4_T R) (k : Nat) (a0 : List D2) (a1 a2 : Int) (K : Bool → Option R) : Option R :=
 g_f92_4 k a0 a1 a2 (fun v1 _v2 _v3 =>
  K v1)
noncomputable def f69_2_d {R : Type} (g : f69_2_T R) (e : Dr D R) : Dr D R := door [.list (.named 2), .int .i64, .int .i64, .fn 67 []] [] (fun (x : (List D2 × Int × Int × (Unit) × Unit)) (y : (Unit)) K => g x.1 x.2.1 x.2.2.1 (fun z0 => K ⟨.bool z0, []⟩)) e
noncomputable def f93_4_o {R : Type} (g_f69_2 : Nat → f69_2_T R) (k : Nat) : Orc D R := (orcAdd 69 (f69_2_d (g_f69_2 k) noDr) (orcAdd 67 (f67_d (f67 k) noDr) noOrc))
theorem f93_4_o_ok {R : Type} (g_f69_2 : Nat → f69_2_T R) (h_f69_2 : ∀ (k : Nat) (e : Dr D R), FnOk Try.prog cx 69 e → FnOk Try.prog cx 69 (f69_2_d (g_f69_2 k) e)) (k : Nat) : OrcOk Try.prog cx (f93_4_o (R := R) g_f69_2 k) := (OrcOk.add (h_f69_2 k _ FnOk.no) (OrcOk.add (f67_ok k FnOk.no) OrcOk.no))
noncomputable def f93_4_b : Code := bodyOf Try.f93
noncomputable def f93_4_ann : Nat → Option LAnn := fun _key => none
noncomputable def f93_4_r {R : Type} (_g_f69_2 : Nat → f69_2_T R) (_k : Nat) : Lrc D R := noLrc
noncomputable def f73_4_o {R : Type} (g_f93_4 : Nat → f93_4_T R) (k : Nat) : Orc D R := (orcAdd 93 (f93_4_d (g_f93_4 k) noDr) noOrc)
theorem f73_4_o_ok {R : Type} (g_f93_4 : Nat → f93_4_T R) (h_f93_4 : ∀ (k : Nat) (e : Dr D R), FnOk Try.prog cx 93 e → FnOk Try.prog cx 93 (f93_4_d (g_f93_4 k) e)) (k : Nat) : OrcOk Try.prog cx (f73_4_o (R := R) g_f93_4 k) := (OrcOk.add (h_f93_4 k _ FnOk.no) OrcOk.no)
noncomputable def f73_4_b : Code := bodyOf Try.f73
noncomputable def f73_4_l2_a : LAnn := ⟨⟨[], [0, 1, 7, 8], [0, 1, 2]⟩, exOf (some ⟨[], [4], [0, 1, 2]⟩) [(0, ⟨[], [], [0, 1, 2]⟩)]⟩
noncomputable def f73_4_ann : Nat → Option LAnn := fun key => bif Nat.beq key 2 then some f73_4_l2_a else none
noncomputable def f73_4_l2_b : Code := loopAt f73_4_b 0
noncomputable def f73_4_l2_g {R : Type} (g_f93_4 : Nat → f93_4_T R) (k : Nat) (x : (List D2 × (Unit × Unit × Unit × Unit) × Int × Int × Unit)) (y : (((Unit) × Unit) × (Int × Unit) × (Int × Unit) × Unit)) (K : KX R) : Option R := f73_4_l2 g_f93_4 k x.1 x.2.2.1 x.2.2.2.1 y.2.1.1 y.2.2.1.1 (fun z0 z1 => K (.exit 0) [] [some (.box [.fn 67 []]), some (.box [.int .i64 z0]), some (.box [.int .i64 z1])]) (fun z0 z1 z2 => K (.ret) [.int .i64 z0] [some (.box [.fn 67 []]), some (.box [.int .i64 z1]), some (.box [.int .i64 z2])])
noncomputable def f73_4_l2_d {R : Type} (g_f93_4 : Nat → f93_4_T R) (k : Nat) : Lr D R := ldoor [.list (.named 2), .fn 93 [.ptr 0 0, .ptr 1 0, .ptr 2 0], .int .i64, .int .i64] [some (.box [.fn 67 []]), some (.box [.int .i64]), some (.box [.int .i64])] (f73_4_l2_g g_f93_4 k)
noncomputable def f73_4_l2_r {R : Type} (_g_f93_4 : Nat → f93_4_T R) (_k : Nat) : Lrc D R := noLrc
theorem f73_4_l2_d_ok {R : Type} (g_f93_4 : Nat → f93_4_T R) (h_f93_4 : ∀ (k : Nat) (e : Dr D R), FnOk Try.prog cx 93 e → FnOk Try.prog cx 93 (f93_4_d (g_f93_4 k) e)) : ∀ k, LoopOk Try.prog cx 19 3 f73_4_ann (f73_4_l2_d (R := R) g_f93_4 k) f73_4_l2_b :=
  loop_ok (keep := kp) (lrc := f73_4_l2_r (R := R) g_f93_4) cxOk mixed (f73_4_o_ok g_f93_4 h_f93_4) (show f73_4_ann (Am.keyOf f73_4_l2_b) = some f73_4_l2_a by kernel_rfl) (L := []) (by kernel_rfl) (fun _k => trivial) (J := []) (by kernel_rfl) (fun _k => trivial) (fun _k => LrcNat.no) (fun _x _y _K => by kernel_rfl) (fun _k _x _y _K => by kernel_rfl)
noncomputable def f73_4_r {R : Type} (g_f93_4 : Nat → f93_4_T R) (k : Nat) : Lrc D R := (lrcAdd 2 (f73_4_l2_d g_f93_4 k) noLrc)
noncomputable def f92_4_o {R : Type} (g_f73_4 : Nat → f73_4_T R) (k : Nat) : Orc D R := (orcAdd 73 (f73_4_d (g_f73_4 k) noDr) noOrc)
theorem f92_4_o_ok {R : Type} (g_f73_4 : Nat → f73_4_T R) (h_f73_4 : ∀ (k : Nat) (e : Dr D R), FnOk Try.prog cx 73 e → FnOk Try.prog cx 73 (f73_4_d (g_f73_4 k) e)) (k : Nat) : OrcOk Try.prog cx (f92_4_o (R := R) g_f73_4 k) := (OrcOk.add (h_f73_4 k _ FnOk.no) OrcOk.no)
noncomputable def f92_4_b : Code := bodyOf Try.f92
noncomputable def f92_4_ann : Nat → Option LAnn := fun _key => none
noncomputable def f92_4_r {R : Type} (_g_f73_4 : Nat → f73_4_T R) (_k : Nat) : Lrc D R := noLrc
noncomputable def f69_2_o {R : Type} (g_f92_4 : Nat → f92_4_T R) (k : Nat) : Orc D R := (orcAdd 92 (f92_4_d (g_f92_4 k) noDr) noOrc)
theorem f69_2_o_ok {R : Type} (g_f92_4 : Nat → f92_4_T R) (h_f92_4 : ∀ (k : Nat) (e : Dr D R), FnOk Try.prog cx 92 e → FnOk Try.prog cx 92 (f92_4_d (g_f92_4 k) e)) (k : Nat) : OrcOk Try.prog cx (f69_2_o (R := R) g_f92_4 k) := (OrcOk.add (h_f92_4 k _ FnOk.no) OrcOk.no)
noncomputable def f69_2_b : Code := bodyOf Try.f69
noncomputable def f69_2_ann : Nat → Option LAnn := fun _key => none
noncomputable def f69_2_r {R : Type} (_g_f92_4 : Nat → f92_4_T R) (_k : Nat) : Lrc D R := noLrc
noncomputable def rec_f93_4 {R : Type} : Nat → (f93_4_T R) × (f73_4_T R) × (f92_4_T R) × (f69_2_T R)
  | 0 => (fun _ _ _ _ _ _ _ => none, fun _ _ _ _ => none, fun _ _ _ _ => none, fun _ _ _ _ => none)
  | k + 1 => (f93_4_s (fun _ => (rec_f93_4 (R := R) k).2.2.2) k, f73_4_s (fun _ => (rec_f93_4 (R := R) k).1) k, f92_4_s (fun _ => (rec_f93_4 (R := R) k).2.1) k, f69_2_s (fun _ => (rec_f93_4 (R := R) k).2.2.1) k)
theorem rec_f93_4_succ {R : Type} (k : Nat) : rec_f93_4 (R := R) (k + 1) = (f93_4_s (fun _ => (rec_f93_4 (R := R) k).2.2.2) k, f73_4_s (fun _ => (rec_f93_4 (R := R) k).1) k, f92_4_s (fun _ => (rec_f93_4 (R := R) k).2.1) k, f69_2_s (fun _ => (rec_f93_4 (R := R) k).2.2.1) k) := rfl
theorem rec_f93_4_ok {R : Type} : ∀ k, (∀ e : Dr D R, FnOk Try.prog cx 93 e → FnOk Try.prog cx 93 (f93_4_d (rec_f93_4 (R := R) k).1 e)) ∧ (∀ e : Dr D R, FnOk Try.prog cx 73 e → FnOk Try.prog cx 73 (f73_4_d (rec_f93_4 (R := R) k).2.1 e)) ∧ (∀ e : Dr D R, FnOk Try.prog cx 92 e → FnOk Try.prog cx 92 (f92_4_d (rec_f93_4 (R := R) k).2.2.1 e)) ∧ (∀ e : Dr D R, FnOk Try.prog cx 69 e → FnOk Try.prog cx 69 (f69_2_d (rec_f93_4 (R := R) k).2.2.2 e))
  | 0 => ⟨fun e he => he.door0 fun x y K => rfl, fun e he => he.door0 fun x y K => rfl, fun e he => he.door0 fun x y K => rfl, fun e he => he.door0 fun x y _K => rfl⟩
  | k + 1 => by
    rw [rec_f93_4_succ]
    exact ⟨fun e he => he.door fun x y => body_ok (keep := kp) (ann := f93_4_ann) (lrc := f93_4_r (R := R) (fun _ => (rec_f93_4 (R := R) k).2.2.2) k) (N := 21) (n0 := 3) (c := []) cxOk mixed (f93_4_o_ok (fun _ => (rec_f93_4 (R := R) k).2.2.2) (fun _ e he => (rec_f93_4_ok (R := R) k).2.2.2 e he) k) (body := f93_4_b) (by kernel_rfl : Try.prog.funcs[93]? = some Try.f93) (by kernel_rfl) (by kernel_rfl) (by kernel_rfl) (by kernel_rfl) (of_decide_eq_true (by kernel_rfl)) (L := []) (by kernel_rfl) trivial (J := []) (by kernel_rfl) trivial (LrcNat.no) (fun _K => by delta f93_4_s f93_4_o; generalize @f67 R = a0; revert a0; refine id ?_; intros; kernel_rfl),
      fun e he => he.door fun x y => body_ok (keep := kp) (ann := f73_4_ann) (lrc := f73_4_r (R := R) (fun _ => (rec_f93_4 (R := R) k).1) k) (N := 19) (n0 := 3) (c := []) cxOk mixed (f73_4_o_ok (fun _ => (rec_f93_4 (R := R) k).1) (fun _ e he => (rec_f93_4_ok (R := R) k).1 e he) k) (body := f73_4_b) (by kernel_rfl : Try.prog.funcs[73]? = some Try.f73) (by kernel_rfl) (by kernel_rfl) (by kernel_rfl) (by kernel_rfl) (of_decide_eq_true (by kernel_rfl)) (L := [f73_4_l2_b]) (by kernel_rfl) (⟨(f73_4_l2_d_ok (fun _ => (rec_f93_4 (R := R) k).1) (fun _ e he => (rec_f93_4_ok (R := R) k).1 e he) k).use (by kernel_rfl), trivial⟩) (J := []) (by kernel_rfl) trivial ((LrcNat.add (f73_4_l2_d_ok (fun _ => (rec_f93_4 (R := R) k).1) (fun _ e he => (rec_f93_4_ok (R := R) k).1 e he) k).2 LrcNat.no)) (fun _K => by kernel_rfl),
      fun e he => he.door fun x y => body_ok (keep := kp) (ann := f92_4_ann) (lrc := f92_4_r (R := R) (fun _ => (rec_f93_4 (R := R) k).2.1) k) (N := 9) (n0 := 3) (c := []) cxOk mixed (f92_4_o_ok (fun _ => (rec_f93_4 (R := R) k).2.1) (fun _ e he => (rec_f93_4_ok (R := R) k).2.1 e he) k) (body := f92_4_b) (by kernel_rfl : Try.prog.funcs[92]? = some Try.f92) (by kernel_rfl) (by kernel_rfl) (by kernel_rfl) (by kernel_rfl) (of_decide_eq_true (by kernel_rfl)) (L := []) (by kernel_rfl) trivial (J := []) (by kernel_rfl) trivial (LrcNat.no) (fun _K => by kernel_rfl),
      fun e he => he.door fun _x _y => body_ok (keep := kp) (ann := f69_2_ann) (lrc := f69_2_r (R := R) (fun _ => (rec_f93_4 (R := R) k).2.2.1) k) (N := 12) (n0 := 0) (c := []) cxOk mixed (f69_2_o_ok (fun _ => (rec_f93_4 (R := R) k).2.2.1) (fun _ e he => (rec_f93_4_ok (R := R) k).2.2.1 e he) k) (body := f69_2_b) (by kernel_rfl : Try.prog.funcs[69]? = some Try.f69) (by kernel_rfl) (by kernel_rfl) (by kernel_rfl) (by kernel_rfl) (of_decide_eq_true (by kernel_rfl)) (L := []) (by kernel_rfl) trivial (J := []) (by kernel_rfl) trivial (LrcNat.no) (fun _K => by kernel_rfl)⟩
noncomputable def f93_4 {R : Type} (k : Nat) (a0 : Int) (a1 : List Int) (a2 : List D2) (a3 : Bool) (a4 a5 : Int) (K : Bool → Int → Int → Option R) : Option R := (rec_f93_4 (R := R) k).1 a0 a1 a2 a3 a4 a5 K
theorem f93_4_ok {R : Type} (k : Nat) {e : Dr D R} (he : FnOk Try.prog cx 93 e) : FnOk Try.prog cx 93 (f93_4_d (f93_4 k) e) := (rec_f93_4_ok (R := R) k).1 e he
noncomputable def f73_4 {R : Type} (k : Nat) (a0 : List D2) (a1 a2 : Int) (K : Int → Int → Int → Option R) : Option R := (rec_f93_4 (R := R) k).2.1 a0 a1 a2 K
theorem f73_4_ok {R : Type} (k : Nat) {e : Dr D R} (he : FnOk Try.prog cx 73 e) : FnOk Try.prog cx 73 (f73_4_d (f73_4 k) e) := (rec_f93_4_ok (R := R) k).2.1 e he
noncomputable def f92_4 {R : Type} (k : Nat) (a0 : List D2) (a1 a2 : Int) (K : Bool → Int → Int → Option R) : Option R := (rec_f93_4 (R := R) k).2.2.1 a0 a1 a2 K
theorem f92_4_ok {R : Type} (k : Nat) {e : Dr D R} (he : FnOk Try.prog cx 92 e) : FnOk Try.prog cx 92 (f92_4_d (f92_4 k) e) := (rec_f93_4_ok (R := R) k).2.2.1 e he
noncomputable def f69_2 {R : Type} (k : Nat) (a0 : List D2) (a1 a2 : Int) (K : Bool → Option R) : Option R := (rec_f93_4 (R := R) k).2.2.2 a0 a1 a2 K
theorem f69_2_ok {R : Type} (k : Nat) {e : Dr D R} (he : FnOk Try.prog cx 69 e) : FnOk Try.prog cx 69 (f69_2_d (f69_2 k) e) := (rec_f93_4_ok (R := R) k).2.2.2 e he
theorem f93_4_step {R : Type} (k : Nat) (a0 : Int) (a1 : List Int) (a2 : List D2) (a3 : Bool) (a4 a5 : Int) (K : Bool → Int → Int → Option R) : f93_4 (k + 1) a0 a1 a2 a3 a4 a5 K = f93_4_s (fun _ => f69_2 (R := R) k) k a0 a1 a2 a3 a4 a5 K := rfl
theorem f73_4_step {R : Type} (k : Nat) (a0 : List D2) (a1 a2 : Int) (K : Int → Int → Int → Option R) : f73_4 (k + 1) a0 a1 a2 K = f73_4_s (fun _ => f93_4 (R := R) k) k a0 a1 a2 K := rfl
theorem f92_4_step {R : Type} (k : Nat) (a0 : List D2) (a1 a2 : Int) (K : Bool → Int → Int → Option R) : f92_4 (k + 1) a0 a1 a2 K = f92_4_s (fun _ => f73_4 (R := R) k) k a0 a1 a2 K := rfl
theorem f69_2_step {R : Type} (k : Nat) (a0 : List D2) (a1 a2 : Int) (K : Bool → Option R) : f69_2 (k + 1) a0 a1 a2 K = f69_2_s (fun _ => f92_4 (R := R) k) k a0 a1 a2 K := rfl

abbrev f70_T (R : Type) : Type := Int → List Int → List D2 → Bool → Int → Int → (Bool → Option R) → Option R
/-! ## 70: diorama/element.Check$3 -/
noncomputable def f70 {R : Type} (_k : Nat) (_a0 : Int) (_a1 : List Int) (_a2 : List D2) (_a3 : Bool) (_a4 a5 : Int) (K : Bool → Option R) : Option R :=
 K (decide (a5 > 8))
noncomputable def f70_d {R : Type} (g : f70_T R) (e : Dr D R) : Dr D R := door [.agg [.int .i64, .list (.int .u8), .list (.named 2), .bool], .int .i64, .int .i64] [] (fun (x : ((Int × List Int × List D2 × Bool × Unit) × Int × Int × Unit)) (y : (Unit)) K => g x.1.1 x.1.2.1 x.1.2.2.1 x.1.2.2.2.1 x.2.1 x.2.2.1 (fun z0 => K ⟨.bool z0, []⟩)) e
noncomputable def f70_o {R : Type} (_k : Nat) : Orc D R := noOrc
theorem f70_o_ok {R : Type} (k : Nat) : OrcOk Try.prog cx (f70_o (R := R) k) := OrcOk.no
noncomputable def f70_b : Code := bodyOf Try.f70
noncomputable def f70_ann : Nat → Option LAnn := fun _key => none
noncomputable def f70_r {R : Type} (_k : Nat) : Lrc D R := noLrc
theorem f70_ok {R : Type} (k : Nat) {e : Dr D R} (he : FnOk Try.prog cx 70 e) : FnOk Try.prog cx 70 (f70_d (f70 k) e) :=
  he.door fun _x _y => body_ok (keep := kp) (ann := f70_ann) (lrc := f70_r (R := R) k) (N := 9) (n0 := 0) (c := []) cxOk mixed (f70_o_ok k) (body := f70_b) (by kernel_rfl : Try.prog.funcs[70]? = some Try.f70) (by kernel_rfl) (by kernel_rfl) (by kernel_rfl) (by kernel_rfl) (of_decide_eq_true (by kernel_rfl)) (L := []) (by kernel_rfl) trivial (J := []) (by kernel_rfl) trivial (LrcNat.no) (fun _K => by kernel_rfl)

abbrev f93_6_T (R : Type) : Type := Int → List Int → List D2 → Bool → Int → Int → (Bool → Int → Int → Option R) → Option R
abbrev f73_6_T (R : Type) : Type := List D2 → Int → Int → (Int → Int → Int → Option R) → Option R
abbrev f92_6_T (R : Type) : Type := List D2 → Int → Int → (Bool → Int → Int → Option R) → Option R
abbrev f69_3_T (R : Type) : Type := List D2 → Int → Int → (Bool → Option R) → Option R
/-! ## 93: diorama/element.some$1 -/
noncomputable def f93_6_s {R : Type} (g_f69_3 : Nat → f69_3_T R) (k : Nat) (a0 : Int) (a1 : List Int) (a2 : List D2) (a3 : Bool) (a4 a5 : Int) (K : Bool → Int → Int → Option R) : Option R :=
 f70 k a0 a1 a2 a3 a4 a5 (fun v1 =>
  bif v1 then
   K true a4 a5
  else
   g_f69_3 k a2 a0 (IntKind.i64.wrap (a5 + 1)) (fun v2 =>
    K v2 a4 a5))
noncomputable def f93_6_d {R : Type} (g : f93_6_T R) (e : Dr D R) : Dr D R := door [.agg [.int .i64, .list (.int .u8), .list (.named 2), .bool], .ptr 0 0, .ptr 1 0, .ptr 2 0] [.box [.fn 70 []], .box [.int .i64], .box [.int .i64]] (fun (x : ((Int × List Int × List D2 × Bool × Unit) × Unit × Unit × Unit × Unit)) (y : (((Unit) × Unit) × (Int × Unit) × (Int × Unit) × Unit)) K => g x.1.1 x.1.2.1 x.1.2.2.1 x.1.2.2.2.1 y.2.1.1 y.2.2.1.1 (fun z0 z1 z2 => K ⟨.bool z0, [some (.box [.fn 70 []]), some (.box [.int .i64 z1]), some (.box [.int .i64 z2])]⟩)) e
/-! ## 73: slices.IndexFunc[[]diorama/api.Node,diorama/api.Node] -/
noncomputable def f73_6_l2 {R : Type} (g_f93_6 : Nat → f93_6_T R) : Nat → List D2 → Int → Int → Int → Int → (Int → Int → Option R) → (Int → Int → Int → Option R) → Option R
  | 0, _, _, _, _, _, _, _ => none
  | k + 1, v1, v2, v3, v4, v5, X0, X1 =>
  bif decide (v3 < v2) then
   bif inb v3 v1.length then
    g_f93_6 k (D2.c0 (v1.getD v3.toNat zero2)) (D2.c1 (v1.getD v3.toNat zero2)) (D2.c2 (v1.getD v3.toNat zero2)) (D2.c3 (v1.getD v3.toNat zero2)) v4 v5 (fun v6 v7 v8 =>
     bif v6 then
      X1 v3 v7 v8
     else
      f73_6_l2 g_f93_6 k v1 v2 (IntKind.i64.wrap (v3 + 1)) v7 v8 X0 X1)
   else
    none
  else
   X0 v4 v5
noncomputable def f73_6_s {R : Type} (g_f93_6 : Nat → f93_6_T R) (k : Nat) (a0 : List D2) (a1 a2 : Int) (K : Int → Int → Int → Option R) : Option R :=
 f73_6_l2 g_f93_6 k a0 (a0.length : Int) 0 a1 a2 (fun v9 v10 =>
  K (-1) v9 v10) K
noncomputable def f73_6_d {R : Type} (g : f73_6_T R) (e : Dr D R) : Dr D R := door [.list (.named 2), .fn 93 [.ptr 0 0, .ptr 1 0, .ptr 2 0]] [.box [.fn 70 []], .box [.int .i64], .box [.int .i64]] (fun (x : (List D2 × (Unit × Unit × Unit × Unit) × Unit)) (y : (((Unit) × Unit) × (Int × Unit) × (Int × Unit) × Unit)) K => g x.1 y.2.1.1 y.2.2.1.1 (fun z0 z1 z2 => K ⟨.int .i64 z0, [some (.box [.fn 70 []]), some (.box [.int .i64 z1]), some (.box [.int .i64 z2])]⟩)) e
/-! ## 92: slices.ContainsFunc[[]diorama/api.Node,diorama/api.Node] -/
noncomputable def f92_6_s {R : Type} (g_f73_6 : Nat → f73_6_T R) (k : Nat) (a0 : List D2) (a1 a2 : Int) (K : Bool → Int → Int → Option R) : Option R :=
 g_f73_6 k a0 a1 a2 (fun v1 v2 v3 =>
  K (decide (v1 ≥ 0)) v2 v3)
noncomputable def f92_6_d {R : Type} (g : f92_6_T R) (e : Dr D R) : Dr D R := door [.list (.named 2), .fn 93 [.ptr 0 0, .ptr 1 0, .ptr 2 0]] [.box [.fn 70 []], .box [.int .i64], .box [.int .i64]] (fun (x : (List D2 × (Unit × Unit × Unit × Unit) × Unit)) (y : (((Unit) × Unit) × (Int × Unit) × (Int × Unit) × Unit)) K => g x.1 y.2.1.1 y.2.2.1.1 (fun z0 z1 z2 => K ⟨.bool z0, [some (.box [.fn 70 []]), some (.box [.int .i64 z1]), some (.box [.int .i64 z2])]⟩)) e
/-! ## 69: diorama/element.some -/
noncomputable def f69_3_s {R : Type} (g_f92_6 : Nat → f92_6_T R) (k : Nat) (a0 : List D2) (a1 a2 : Int) (K : Bool → Option R) : Option R :=
 g_f92_6 k a0 a1 a2 (fun v1 _v2 _v3 =>
  K v1)
noncomputable def f69_3_d {R : Type} (g : f69_3_T R) (e : Dr D R) : Dr D R := door [.list (.named 2), .int .i64, .int .i64, .fn 70 []] [] (fun (x : (List D2 × Int × Int × (Unit) × Unit)) (y : (Unit)) K => g x.1 x.2.1 x.2.2.1 (fun z0 => K ⟨.bool z0, []⟩)) e
noncomputable def f93_6_o {R : Type} (g_f69_3 : Nat → f69_3_T R) (k : Nat) : Orc D R := (orcAdd 69 (f69_3_d (g_f69_3 k) noDr) (orcAdd 70 (f70_d (f70 k) noDr) noOrc))
theorem f93_6_o_ok {R : Type} (g_f69_3 : Nat → f69_3_T R) (h_f69_3 : ∀ (k : Nat) (e : Dr D R), FnOk Try.prog cx 69 e → FnOk Try.prog cx 69 (f69_3_d (g_f69_3 k) e)) (k : Nat) : OrcOk Try.prog cx (f93_6_o (R := R) g_f69_3 k) := (OrcOk.add (h_f69_3 k _ FnOk.no) (OrcOk.add (f70_ok k FnOk.no) OrcOk.no))
noncomputable def f93_6_b : Code := bodyOf Try.f93
noncomputable def f93_6_ann : Nat → Option LAnn := fun _key => none
noncomputable def f93_6_r {R : Type} (_g_f69_3 : Nat → f69_3_T R) (_k : Nat) : Lrc D R := noLrc
noncomputable def f73_6_o {R : Type} (g_f93_6 : Nat → f93_6_T R) (k : Nat) : Orc D R := (orcAdd 93 (f93_6_d (g_f93_6 k) noDr) noOrc)
theorem f73_6_o_ok {R : Type} (g_f93_6 : Nat → f93_6_T R) (h_f93_6 : ∀ (k : Nat) (e : Dr D R), FnOk Try.prog cx 93 e → FnOk Try.prog cx 93 (f93_6_d (g_f93_6 k) e)) (k : Nat) : OrcOk Try.prog cx (f73_6_o (R := R) g_f93_6 k) := (OrcOk.add (h_f93_6 k _ FnOk.no) OrcOk.no)
noncomputable def f73_6_b : Code := bodyOf Try.f73
noncomputable def f73_6_l2_a : LAnn := ⟨⟨[], [0, 1, 7, 8], [0, 1, 2]⟩, exOf (some ⟨[], [4], [0, 1, 2]⟩) [(0, ⟨[], [], [0, 1, 2]⟩)]⟩
noncomputable def f73_6_ann : Nat → Option LAnn := fun key => bif Nat.beq key 2 then some f73_6_l2_a else none
noncomputable def f73_6_l2_b : Code := loopAt f73_6_b 0
noncomputable def f73_6_l2_g {R : Type} (g_f93_6 : Nat → f93_6_T R) (k : Nat) (x : (List D2 × (Unit × Unit × Unit × Unit) × Int × Int × Unit)) (y : (((Unit) × Unit) × (Int × Unit) × (Int × Unit) × Unit)) (K : KX R) : Option R := f73_6_l2 g_f93_6 k x.1 x.2.2.1 x.2.2.2.1 y.2.1.1 y.2.2.1.1 (fun z0 z1 => K (.exit 0) [] [some (.box [.fn 70 []]), some (.box [.int .i64 z0]), some (.box [.int .i64 z1])]) (fun z0 z1 z2 => K (.ret) [.int .i64 z0] [some (.box [.fn 70 []]), some (.box [.int .i64 z1]), some (.box [.int .i64 z2])])
noncomputable def f73_6_l2_d {R : Type} (g_f93_6 : Nat → f93_6_T R) (k : Nat) : Lr D R := ldoor [.list (.named 2), .fn 93 [.ptr 0 0, .ptr 1 0, .ptr 2 0], .int .i64, .int .i64] [some (.box [.fn 70 []]), some (.box [.int .i64]), some (.box [.int .i64])] (f73_6_l2_g g_f93_6 k)
noncomputable def f73_6_l2_r {R : Type} (_g_f93_6 : Nat → f93_6_T R) (_k : Nat) : Lrc D R := noLrc
theorem f73_6_l2_d_ok {R : Type} (g_f93_6 : Nat → f93_6_T R) (h_f93_6 : ∀ (k : Nat) (e : Dr D R), FnOk Try.prog cx 93 e → FnOk Try.prog cx 93 (f93_6_d (g_f93_6 k) e)) : ∀ k, LoopOk Try.prog cx 19 3 f73_6_ann (f73_6_l2_d (R := R) g_f93_6 k) f73_6_l2_b :=
  loop_ok (keep := kp) (lrc := f73_6_l2_r (R := R) g_f93_6) cxOk mixed (f73_6_o_ok g_f93_6 h_f93_6) (show f73_6_ann (Am.keyOf f73_6_l2_b) = some f73_6_l2_a by kernel_rfl) (L := []) (by kernel_rfl) (fun _k => trivial) (J := []) (by kernel_rfl) (fun _k => trivial) (fun _k => LrcNat.no) (fun _x _y _K => by kernel_rfl) (fun _k _x _y _K => by kernel_rfl)
noncomputable def f73_6_r {R : Type} (g_f93_6 : Nat → f93_6_T R) (k : Nat) : Lrc D R := (lrcAdd 2 (f73_6_l2_d g_f93_6 k) noLrc)
noncomputable def f92_6_o {R : Type} (g_f73_6 : Nat → f73_6_T R) (k : Nat) : Orc D R := (orcAdd 73 (f73_6_d (g_f73_6 k) noDr) noOrc)
theorem f92_6_o_ok {R : Type} (g_f73_6 : Nat → f73_6_T R) (h_f73_6 : ∀ (k : Nat) (e : Dr D R), FnOk Try.prog cx 73 e → FnOk Try.prog cx 73 (f73_6_d (g_f73_6 k) e)) (k : Nat) : OrcOk Try.prog cx (f92_6_o (R := R) g_f73_6 k) := (OrcOk.add (h_f73_6 k _ FnOk.no) OrcOk.no)
noncomputable def f92_6_b : Code := bodyOf Try.f92
noncomputable def f92_6_ann : Nat → Option LAnn := fun _key => none
noncomputable def f92_6_r {R : Type} (_g_f73_6 : Nat → f73_6_T R) (_k : Nat) : Lrc D R := noLrc
noncomputable def f69_3_o {R : Type} (g_f92_6 : Nat → f92_6_T R) (k : Nat) : Orc D R := (orcAdd 92 (f92_6_d (g_f92_6 k) noDr) noOrc)
theorem f69_3_o_ok {R : Type} (g_f92_6 : Nat → f92_6_T R) (h_f92_6 : ∀ (k : Nat) (e : Dr D R), FnOk Try.prog cx 92 e → FnOk Try.prog cx 92 (f92_6_d (g_f92_6 k) e)) (k : Nat) : OrcOk Try.prog cx (f69_3_o (R := R) g_f92_6 k) := (OrcOk.add (h_f92_6 k _ FnOk.no) OrcOk.no)
noncomputable def f69_3_b : Code := bodyOf Try.f69
noncomputable def f69_3_ann : Nat → Option LAnn := fun _key => none
noncomputable def f69_3_r {R : Type} (_g_f92_6 : Nat → f92_6_T R) (_k : Nat) : Lrc D R := noLrc
noncomputable def rec_f93_6 {R : Type} : Nat → (f93_6_T R) × (f73_6_T R) × (f92_6_T R) × (f69_3_T R)
  | 0 => (fun _ _ _ _ _ _ _ => none, fun _ _ _ _ => none, fun _ _ _ _ => none, fun _ _ _ _ => none)
  | k + 1 => (f93_6_s (fun _ => (rec_f93_6 (R := R) k).2.2.2) k, f73_6_s (fun _ => (rec_f93_6 (R := R) k).1) k, f92_6_s (fun _ => (rec_f93_6 (R := R) k).2.1) k, f69_3_s (fun _ => (rec_f93_6 (R := R) k).2.2.1) k)
theorem rec_f93_6_succ {R : Type} (k : Nat) : rec_f93_6 (R := R) (k + 1) = (f93_6_s (fun _ => (rec_f93_6 (R := R) k).2.2.2) k, f73_6_s (fun _ => (rec_f93_6 (R := R) k).1) k, f92_6_s (fun _ => (rec_f93_6 (R := R) k).2.1) k, f69_3_s (fun _ => (rec_f93_6 (R := R) k).2.2.1) k) := rfl
theorem rec_f93_6_ok {R : Type} : ∀ k, (∀ e : Dr D R, FnOk Try.prog cx 93 e → FnOk Try.prog cx 93 (f93_6_d (rec_f93_6 (R := R) k).1 e)) ∧ (∀ e : Dr D R, FnOk Try.prog cx 73 e → FnOk Try.prog cx 73 (f73_6_d (rec_f93_6 (R := R) k).2.1 e)) ∧ (∀ e : Dr D R, FnOk Try.prog cx 92 e → FnOk Try.prog cx 92 (f92_6_d (rec_f93_6 (R := R) k).2.2.1 e)) ∧ (∀ e : Dr D R, FnOk Try.prog cx 69 e → FnOk Try.prog cx 69 (f69_3_d (rec_f93_6 (R := R) k).2.2.2 e))
  | 0 => ⟨fun e he => he.door0 fun x y K => rfl, fun e he => he.door0 fun x y K => rfl, fun e he => he.door0 fun x y K => rfl, fun e he => he.door0 fun x y _K => rfl⟩
  | k + 1 => by
    rw [rec_f93_6_succ]
    exact ⟨fun e he => he.door fun x y => body_ok (keep := kp) (ann := f93_6_ann) (lrc := f93_6_r (R := R) (fun _ => (rec_f93_6 (R := R) k).2.2.2) k) (N := 21) (n0 := 3) (c := []) cxOk mixed (f93_6_o_ok (fun _ => (rec_f93_6 (R := R) k).2.2.2) (fun _ e he => (rec_f93_6_ok (R := R) k).2.2.2 e he) k) (body := f93_6_b) (by kernel_rfl : Try.prog.funcs[93]? = some Try.f93) (by kernel_rfl) (by kernel_rfl) (by kernel_rfl) (by kernel_rfl) (of_decide_eq_true (by kernel_rfl)) (L := []) (by kernel_rfl) trivial (J := []) (by kernel_rfl) trivial (LrcNat.no) (fun _K => by delta f93_6_s f93_6_o; generalize @f70 R = a0; revert a0; refine id ?_; intros; kernel_rfl),
      fun e he => he.door fun x y => body_ok (keep := kp) (ann := f73_6_ann) (lrc := f73_6_r (R := R) (fun _ => (rec_f93_6 (R := R) k).1) k) (N := 19) (n0 := 3) (c := []) cxOk mixed (f73_6_o_ok (fun _ => (rec_f93_6 (R := R) k).1) (fun _ e he => (rec_f93_6_ok (R := R) k).1 e he) k) (body := f73_6_b) (by kernel_rfl : Try.prog.funcs[73]? = some Try.f73) (by kernel_rfl) (by kernel_rfl) (by kernel_rfl) (by kernel_rfl) (of_decide_eq_true (by kernel_rfl)) (L := [f73_6_l2_b]) (by kernel_rfl) (⟨(f73_6_l2_d_ok (fun _ => (rec_f93_6 (R := R) k).1) (fun _ e he => (rec_f93_6_ok (R := R) k).1 e he) k).use (by kernel_rfl), trivial⟩) (J := []) (by kernel_rfl) trivial ((LrcNat.add (f73_6_l2_d_ok (fun _ => (rec_f93_6 (R := R) k).1) (fun _ e he => (rec_f93_6_ok (R := R) k).1 e he) k).2 LrcNat.no)) (fun _K => by kernel_rfl),
      fun e he => he.door fun x y => body_ok (keep := kp) (ann := f92_6_ann) (lrc := f92_6_r (R := R) (fun _ => (rec_f93_6 (R := R) k).2.1) k) (N := 9) (n0 := 3) (c := []) cxOk mixed (f92_6_o_ok (fun _ => (rec_f93_6 (R := R) k).2.1) (fun _ e he => (rec_f93_6_ok (R := R) k).2.1 e he) k) (body := f92_6_b) (by kernel_rfl : Try.prog.funcs[92]? = some Try.f92) (by kernel_rfl) (by kernel_rfl) (by kernel_rfl) (by kernel_rfl) (of_decide_eq_true (by kernel_rfl)) (L := []) (by kernel_rfl) trivial (J := []) (by kernel_rfl) trivial (LrcNat.no) (fun _K => by kernel_rfl),
      fun e he => he.door fun _x _y => body_ok (keep := kp) (ann := f69_3_ann) (lrc := f69_3_r (R := R) (fun _ => (rec_f93_6 (R := R) k).2.2.1) k) (N := 12) (n0 := 0) (c := []) cxOk mixed (f69_3_o_ok (fun _ => (rec_f93_6 (R := R) k).2.2.1) (fun _ e he => (rec_f93_6_ok (R := R) k).2.2.1 e he) k) (body := f69_3_b) (by kernel_rfl : Try.prog.funcs[69]? = some Try.f69) (by kernel_rfl) (by kernel_rfl) (by kernel_rfl) (by kernel_rfl) (of_decide_eq_true (by kernel_rfl)) (L := []) (by kernel_rfl) trivial (J := []) (by kernel_rfl) trivial (LrcNat.no) (fun _K => by kernel_rfl)⟩
noncomputable def f93_6 {R : Type} (k : Nat) (a0 : Int) (a1 : List Int) (a2 : List D2) (a3 : Bool) (a4 a5 : Int) (K : Bool → Int → Int → Option R) : Option R := (rec_f93_6 (R := R) k).1 a0 a1 a2 a3 a4 a5 K
theorem f93_6_ok {R : Type} (k : Nat) {e : Dr D R} (he : FnOk Try.prog cx 93 e) : FnOk Try.prog cx 93 (f93_6_d (f93_6 k) e) := (rec_f93_6_ok (R := R) k).1 e he
noncomputable def f73_6 {R : Type} (k : Nat) (a0 : List D2) (a1 a2 : Int) (K : Int → Int → Int → Option R) : Option R := (rec_f93_6 (R := R) k).2.1 a0 a1 a2 K
theorem f73_6_ok {R : Type} (k : Nat) {e : Dr D R} (he : FnOk Try.prog cx 73 e) : FnOk Try.prog cx 73 (f73_6_d (f73_6 k) e) := (rec_f93_6_ok (R := R) k).2.1 e he
noncomputable def f92_6 {R : Type} (k : Nat) (a0 : List D2) (a1 a2 : Int) (K : Bool → Int → Int → Option R) : Option R := (rec_f93_6 (R := R) k).2.2.1 a0 a1 a2 K
theorem f92_6_ok {R : Type} (k : Nat) {e : Dr D R} (he : FnOk Try.prog cx 92 e) : FnOk Try.prog cx 92 (f92_6_d (f92_6 k) e) := (rec_f93_6_ok (R := R) k).2.2.1 e he
noncomputable def f69_3 {R : Type} (k : Nat) (a0 : List D2) (a1 a2 : Int) (K : Bool → Option R) : Option R := (rec_f93_6 (R := R) k).2.2.2 a0 a1 a2 K
theorem f69_3_ok {R : Type} (k : Nat) {e : Dr D R} (he : FnOk Try.prog cx 69 e) : FnOk Try.prog cx 69 (f69_3_d (f69_3 k) e) := (rec_f93_6_ok (R := R) k).2.2.2 e he
theorem f93_6_step {R : Type} (k : Nat) (a0 : Int) (a1 : List Int) (a2 : List D2) (a3 : Bool) (a4 a5 : Int) (K : Bool → Int → Int → Option R) : f93_6 (k + 1) a0 a1 a2 a3 a4 a5 K = f93_6_s (fun _ => f69_3 (R := R) k) k a0 a1 a2 a3 a4 a5 K := rfl
theorem f73_6_step {R : Type} (k : Nat) (a0 : List D2) (a1 a2 : Int) (K : Int → Int → Int → Option R) : f73_6 (k + 1) a0 a1 a2 K = f73_6_s (fun _ => f93_6 (R := R) k) k a0 a1 a2 K := rfl
theorem f92_6_step {R : Type} (k : Nat) (a0 : List D2) (a1 a2 : Int) (K : Bool → Int → Int → Option R) : f92_6 (k + 1) a0 a1 a2 K = f92_6_s (fun _ => f73_6 (R := R) k) k a0 a1 a2 K := rfl
theorem f69_3_step {R : Type} (k : Nat) (a0 : List D2) (a1 a2 : Int) (K : Bool → Option R) : f69_3 (k + 1) a0 a1 a2 K = f69_3_s (fun _ => f92_6 (R := R) k) k a0 a1 a2 K := rfl

abbrev f71_T (R : Type) : Type := Int → List Int → List D2 → Bool → Int → Int → Int → (Bool → Int → Option R) → Option R
/-! ## 71: diorama/element.Check$4 -/
noncomputable def f71 {R : Type} (_k : Nat) (_a0 : Int) (_a1 : List Int) (_a2 : List D2) (_a3 : Bool) (_a4 _a5 a6 : Int) (K : Bool → Int → Option R) : Option R :=
 K (decide ((IntKind.i64.wrap (a6 + 1)) > 4000)) (IntKind.i64.wrap (a6 + 1))
noncomputable def f71_d {R : Type} (g : f71_T R) (e : Dr D R) : Dr D R := door [.agg [.int .i64, .list (.int .u8), .list (.named 2), .bool], .int .i64, .int .i64, .ptr 0 0] [.box [.int .i64]] (fun (x : ((Int × List Int × List D2 × Bool × Unit) × Int × Int × Unit × Unit)) (y : ((Int × Unit) × Unit)) K => g x.1.1 x.1.2.1 x.1.2.2.1 x.1.2.2.2.1 x.2.1 x.2.2.1 y.1.1 (fun z0 z1 => K ⟨.bool z0, [some (.box [.int .i64 z1])]⟩)) e
noncomputable def f71_o {R : Type} (_k : Nat) : Orc D R := noOrc
theorem f71_o_ok {R : Type} (k : Nat) : OrcOk Try.prog cx (f71_o (R := R) k) := OrcOk.no
noncomputable def f71_b : Code := bodyOf Try.f71
noncomputable def f71_ann : Nat → Option LAnn := fun _key => none
noncomputable def f71_r {R : Type} (_k : Nat) : Lrc D R := noLrc
theorem f71_ok {R : Type} (k : Nat) {e : Dr D R} (he : FnOk Try.prog cx 71 e) : FnOk Try.prog cx 71 (f71_d (f71 k) e) :=
  he.door fun _x _y => body_ok (keep := kp) (ann := f71_ann) (lrc := f71_r (R := R) k) (N := 12) (n0 := 1) (c := []) cxOk mixed (f71_o_ok k) (body := f71_b) (by kernel_rfl : Try.prog.funcs[71]? = some Try.f71) (by kernel_rfl) (by kernel_rfl) (by kernel_rfl) (by kernel_rfl) (of_decide_eq_true (by kernel_rfl)) (L := []) (by kernel_rfl) trivial (J := []) (by kernel_rfl) trivial (LrcNat.no) (fun _K => by kernel_rfl)


end Go.Proofs.Ytklhjegfkpmdoaa

/-! What the functions do, as plain functions; and that they do. -/
namespace Go.Proofs.Ytklhjegfkpmdoaa
open Go Go.Am
abbrev f93_8_T (R : Type) : Type := Int → List Int → List D2 → Bool → Int → Int → Int → (Bool → Int → Int → Int → Option R) → Option R
abbrev f73_8_T (R : Type) : Type := List D2 → Int → Int → Int → (Int → Int → Int → Int → Option R) → Option R
abbrev f92_8_T (R : Type) : Type := List D2 → Int → Int → Int → (Bool → Int → Int → Int → Option R) → Option R
abbrev f69_4_T (R : Type) : Type := List D2 → Int → Int → Int → (Bool → Int → Option R) → Option R
/-! ## 93: diorama/element.some$1 -/
noncomputable def f93_8_s {R : Type} (g_f69_4 : Nat → f69_4_T R) (k : Nat) (a0 : Int) (a1 : List Int) (a2 : List D2) (a3 : Bool) (a4 a5 a6 : Int) (K : Bool → Int → Int → Int → Option R) : Option R :=
 f71 k a0 a1 a2 a3 a5 a6 a4 (fun v1 v2 =>
  bif v1 then
   K true v2 a5 a6
  else
   g_f69_4 k a2 a0 (IntKind.i64.wrap (a6 + 1)) v2 (fun v3 v4 =>
    K v3 v4 a5 a6))
noncomputable def f93_8_d {R : Type} (g : f93_8_T R) (e : Dr D R) : Dr D R := door [.agg [.int .i64, .list (.int .u8), .list (.named 2), .bool], .ptr 0 0, .ptr 2 0, .ptr 3 0] [.box [.fn 71 [.ptr 1 0]], .box [.int .i64], .box [.int .i64], .box [.int .i64]] (fun (x : ((Int × List Int × List D2 × Bool × Unit) × Unit × Unit × Unit × Unit)) (y : (((Unit × Unit) × Unit) × (Int × Unit) × (Int × Unit) × (Int × Unit) × Unit)) K => g x.1.1 x.1.2.1 x.1.2.2.1 x.1.2.2.2.1 y.2.1.1 y.2.2.1.1 y.2.2.2.1.1 (fun z0 z1 z2 z3 => K ⟨.bool z0, [some (.box [.fn 71 [.ptr 1 0]]), some (.box [.int .i64 z1]), some (.box [.int .i64 z2]), some (.box [.int .i64 z3])]⟩)) e
/-! ## 73: slices.IndexFunc[[]diorama/api.Node,diorama/api.Node] -/
noncomputable def f73_8_l2 {R : Type} (g_f93_8 : Nat → f93_8_T R) : Nat → List D2 → Int → Int → Int → Int → Int → (Int → Int → Int → Option R) → (Int → Int → Int → Int → Option R) → Option R
  | 0, _, _, _, _, _, _, _, _ => none
  | k + 1, v1, v2, v3, v4, v5, v6, X0, X1 =>
  bif decide (v3 < v2) then
   bif inb v3 v1.length then
    g_f93_8 k (D2.c0 (v1.getD v3.toNat zero2)) (D2.c1 (v1.getD v3.toNat zero2)) (D2.c2 (v1.getD v3.toNat zero2)) (D2.c3 (v1.getD v3.toNat zero2)) v4 v5 v6 (fun v7 v8 v9 v10 =>
     bif v7 then
      X1 v3 v8 v9 v10
     else
      f73_8_l2 g_f93_8 k v1 v2 (IntKind.i64.wrap (v3 + 1)) v8 v9 v10 X0 X1)
   else
    none
  else
   X0 v4 v5 v6
noncomputable def f73_8_s {R : Type} (g_f93_8 : Nat → f93_8_T R) (k : Nat) (a0 : List D2) (a1 a2 a3 : Int) (K : Int → Int → Int → Int → Option R) : Option R :=
 f73_8_l2 g_f93_8 k a0 (a0.length : Int) 0 a1 a2 a3 (fun v11 v12 v13 =>
  K (-1) v11 v12 v13) K
noncomputable def f73_8_d {R : Type} (g : f73_8_T R) (e : Dr D R) : Dr D R := door [.list (.named 2), .fn 93 [.ptr 0 0, .ptr 2 0, .ptr 3 0]] [.box [.fn 71 [.ptr 1 0]], .box [.int .i64], .box [.int .i64], .box [.int .i64]] (fun (x : (List D2 × (Unit × Unit × Unit × Unit) × Unit)) (y : (((Unit × Unit) × Unit) × (Int × Unit) × (Int × Unit) × (Int × Unit) × Unit)) K => g x.1 y.2.1.1 y.2.2.1.1 y.2.2.2.1.1 (fun z0 z1 z2 z3 => K ⟨.int .i64 z0, [some (.box [.fn 71 [.ptr 1 0]]), some (.box [.int .i64 z1]), some (.box [.int .i64 z2]), some (.box [.int .i64 z3])]⟩)) e
/-! ## 92: slices.ContainsFunc[[]diorama/api.Node,diorama/api.Node] -/
noncomputable def f92_8_s {R : Type} (g_f73_8 : Nat → f73_8_T R) (k : Nat) (a0 : List D2) (a1 a2 a3 : Int) (K : Bool → Int → Int → Int → Option R) : Option R :=
 g_f73_8 k a0 a1 a2 a3 (fun v1 v2 v3 v4 =>
  K (decide (v1 ≥ 0)) v2 v3 v4)
noncomputable def f92_8_d {R : Type} (g : f92_8_T R) (e : Dr D R) : Dr D R := door [.list (.named 2), .fn 93 [.ptr 0 0, .ptr 2 0, .ptr 3 0]] [.box [.fn 71 [.ptr 1 0]], .box [.int .i64], .box [.int .i64], .box [.int .i64]] (fun (x : (List D2 × (Unit × Unit × Unit × Unit) × Unit)) (y : (((Unit × Unit) × Unit) × (Int × Unit) × (Int × Unit) × (Int × Unit) × Unit)) K => g x.1 y.2.1.1 y.2.2.1.1 y.2.2.2.1.1 (fun z0 z1 z2 z3 => K ⟨.bool z0, [some (.box [.fn 71 [.ptr 1 0]]), some (.box [.int .i64 z1]), some (.box [.int .i64 z2]), some (.box [.int .i64 z3])]⟩)) e
/-! ## 69: diorama/element.some -/
noncomputable def f69_4_s {R : Type} (g_f92_8 : Nat → f92_8_T R) (k : Nat) (a0 : List D2) (a1 a2 a3 : Int) (K : Bool → Int → Option R) : Option R :=
 g_f92_8 k a0 a3 a1 a2 (fun v1 v2 _v3 _v4 =>
  K v1 v2)
noncomputable def f69_4_d {R : Type} (g : f69_4_T R) (e : Dr D R) : Dr D R := door [.list (.named 2), .int .i64, .int .i64, .fn 71 [.ptr 0 0]] [.box [.int .i64]] (fun (x : (List D2 × Int × Int × (Unit × Unit) × Unit)) (y : ((Int × Unit) × Unit)) K => g x.1 x.2.1 x.2.2.1 y.1.1 (fun z0 z1 => K ⟨.bool z0, [some (.box [.int .i64 z1])]⟩)) e
noncomputable def f93_8_o {R : Type} (g_f69_4 : Nat → f69_4_T R) (k : Nat) : Orc D R := (orcAdd 69 (f69_4_d (g_f69_4 k) noDr) (orcAdd 71 (f71_d (f71 k) noDr) noOrc))
theorem f93_8_o_ok {R : Type} (g_f69_4 : Nat → f69_4_T R) (h_f69_4 : ∀ (k : Nat) (e : Dr D R), FnOk Try.prog cx 69 e → FnOk Try.prog cx 69 (f69_4_d (g_f69_4 k) e)) (k : Nat) : OrcOk Try.prog cx (f93_8_o (R := R) g_f69_4 k) := (OrcOk.add (h_f69_4 k _ FnOk.no) (OrcOk.add (f71_ok k FnOk.no) OrcOk.no))
noncomputable def f93_8_b : Code := bodyOf Try.f93
noncomputable def f93_8_ann : Nat → Option LAnn := fun _key => none
noncomputable def f93_8_r {R : Type} (_g_f69_4 : Nat → f69_4_T R) (_k : Nat) : Lrc D R := noLrc
noncomputable def f73_8_o {R : Type} (g_f93_8 : Nat → f93_8_T R) (k : Nat) : Orc D R := (orcAdd 93 (f93_8_d (g_f93_8 k) noDr) noOrc)
theorem f73_8_o_ok {R : Type} (g_f93_8 : Nat → f93_8_T R) (h_f93_8 : ∀ (k : Nat) (e : Dr D R), FnOk Try.prog cx 93 e → FnOk Try.prog cx 93 (f93_8_d (g_f93_8 k) e)) (k : Nat) : OrcOk Try.prog cx (f73_8_o (R := R) g_f93_8 k) := (OrcOk.add (h_f93_8 k _ FnOk.no) OrcOk.no)
noncomputable def f73_8_b : Code := bodyOf Try.f73
noncomputable def f73_8_l2_a : LAnn := ⟨⟨[], [0, 1, 7, 8], [0, 1, 2, 3]⟩, exOf (some ⟨[], [4], [0, 1, 2, 3]⟩) [(0, ⟨[], [], [0, 1, 2, 3]⟩)]⟩
noncomputable def f73_8_ann : Nat → Option LAnn := fun key => bif Nat.beq key 2 then some f73_8_l2_a else none
noncomputable def f73_8_l2_b : Code := loopAt f73_8_b 0
noncomputable def f73_8_l2_g {R : Type} (g_f93_8 : Nat → f93_8_T R) (k : Nat) (x : (List D2 × (Unit × Unit × Unit × Unit) × Int × Int × Unit)) (y : (((Unit × Unit) × Unit) × (Int × Unit) × (Int × Unit) × (Int × Unit) × Unit)) (K : KX R) : Option R := f73_8_l2 g_f93_8 k x.1 x.2.2.1 x.2.2.2.1 y.2.1.1 y.2.2.1.1 y.2.2.2.1.1 (fun z0 z1 z2 => K (.exit 0) [] [some (.box [.fn 71 [.ptr 1 0]]), some (.box [.int .i64 z0]), some (.box [.int .i64 z1]), some (.box [.int .i64 z2])]) (fun z0 z1 z2 z3 => K (.ret) [.int .i64 z0] [some (.box [.fn 71 [.ptr 1 0]]), some (.box [.int .i64 z1]), some (.box [.int .i64 z2]), some (.box [.int .i64 z3])])
noncomputable def f73_8_l2_d {R : Type} (g_f93_8 : Nat → f93_8_T R) (k : Nat) : Lr D R := ldoor [.list (.named 2), .fn 93 [.ptr 0 0, .ptr 2 0, .ptr 3 0], .int .i64, .int .i64] [some (.box [.fn 71 [.ptr 1 0]]), some (.box [.int .i64]), some (.box [.int .i64]), some (.box [.int .i64])] (f73_8_l2_g g_f93_8 k)
noncomputable def f73_8_l2_r {R : Type} (_g_f93_8 : Nat → f93_8_T R) (_k : Nat) : Lrc D R := noLrc
theorem f73_8_l2_d_ok {R : Type} (g_f93_8 : Nat → f93_8_T R) (h_f93_8 : ∀ (k : Nat) (e : Dr D R), FnOk Try.prog cx 93 e → FnOk Try.prog cx 93 (f93_8_d (g_f93_8 k) e)) : ∀ k, LoopOk Try.prog cx 19 4 f73_8_ann (f73_8_l2_d (R := R) g_f93_8 k) f73_8_l2_b :=
  loop_ok (keep := kp) (lrc := f73_8_l2_r (R := R) g_f93_8) cxOk mixed (f73_8_o_ok g_f93_8 h_f93_8) (show f73_8_ann (Am.keyOf f73_8_l2_b) = some f73_8_l2_a by kernel_rfl) (L := []) (by kernel_rfl) (fun _k => trivial) (J := []) (by kernel_rfl) (fun _k => trivial) (fun _k => LrcNat.no) (fun _x _y _K => by kernel_rfl) (fun _k _x _y _K => by kernel_rfl)
noncomputable def f73_8_r {R : Type} (g_f93_8 : Nat → f93_8_T R) (k : Nat) : Lrc D R := (lrcAdd 2 (f73_8_l2_d g_f93_8 k) noLrc)
noncomputable def f92_8_o {R : Type} (g_f73_8 : Nat → f73_8_T R) (k : Nat) : Orc D R := (orcAdd 73 (f73_8_d (g_f73_8 k) noDr) noOrc)
theorem f92_8_o_ok {R : Type} (g_f73_8 : Nat → f73_8_T R) (h_f73_8 : ∀ (k : Nat) (e : Dr D R), FnOk Try.prog cx 73 e → FnOk Try.prog cx 73 (f73_8_d (g_f73_8 k) e)) (k : Nat) : OrcOk Try.prog cx (f92_8_o (R := R) g_f73_8 k) := (OrcOk.add (h_f73_8 k _ FnOk.no) OrcOk.no)
noncomputable def f92_8_b : Code := bodyOf Try.f92
noncomputable def f92_8_ann : Nat → Option LAnn := fun _key => none
noncomputable def f92_8_r {R : Type} (_g_f73_8 : Nat → f73_8_T R) (_k : Nat) : Lrc D R := noLrc
noncomputable def f69_4_o {R : Type} (g_f92_8 : Nat → f92_8_T R) (k : Nat) : Orc D R := (orcAdd 92 (f92_8_d (g_f92_8 k) noDr) noOrc)
theorem f69_4_o_ok {R : Type} (g_f92_8 : Nat → f92_8_T R) (h_f92_8 : ∀ (k : Nat) (e : Dr D R), FnOk Try.prog cx 92 e → FnOk Try.prog cx 92 (f92_8_d (g_f92_8 k) e)) (k : Nat) : OrcOk Try.prog cx (f69_4_o (R := R) g_f92_8 k) := (OrcOk.add (h_f92_8 k _ FnOk.no) OrcOk.no)
noncomputable def f69_4_b : Code := bodyOf Try.f69
noncomputable def f69_4_ann : Nat → Option LAnn := fun _key => none
noncomputable def f69_4_r {R : Type} (_g_f92_8 : Nat → f92_8_T R) (_k : Nat) : Lrc D R := noLrc
noncomputable def rec_f93_8 {R : Type} : Nat → (f93_8_T R) × (f73_8_T R) × (f92_8_T R) × (f69_4_T R)
  | 0 => (fun _ _ _ _ _ _ _ _ => none, fun _ _ _ _ _ => none, fun _ _ _ _ _ => none, fun _ _ _ _ _ => none)
  | k + 1 => (f93_8_s (fun _ => (rec_f93_8 (R := R) k).2.2.2) k, f73_8_s (fun _ => (rec_f93_8 (R := R) k).1) k, f92_8_s (fun _ => (rec_f93_8 (R := R) k).2.1) k, f69_4_s (fun _ => (rec_f93_8 (R := R) k).2.2.1) k)
theorem rec_f93_8_succ {R : Type} (k : Nat) : rec_f93_8 (R := R) (k + 1) = (f93_8_s (fun _ => (rec_f93_8 (R := R) k).2.2.2) k, f73_8_s (fun _ => (rec_f93_8 (R := R) k).1) k, f92_8_s (fun _ => (rec_f93_8 (R := R) k).2.1) k, f69_4_s (fun _ => (rec_f93_8 (R := R) k).2.2.1) k) := rfl
theorem rec_f93_8_ok {R : Type} : ∀ k, (∀ e : Dr D R, FnOk Try.prog cx 93 e → FnOk Try.prog cx 93 (f93_8_d (rec_f93_8 (R := R) k).1 e)) ∧ (∀ e : Dr D R, FnOk Try.prog cx 73 e → FnOk Try.prog cx 73 (f73_8_d (rec_f93_8 (R := R) k).2.1 e)) ∧ (∀ e : Dr D R, FnOk Try.prog cx 92 e → FnOk Try.prog cx 92 (f92_8_d (rec_f93_8 (R := R) k).2.2.1 e)) ∧ (∀ e : Dr D R, FnOk Try.prog cx 69 e → FnOk Try.prog cx 69 (f69_4_d (rec_f93_8 (R := R) k).2.2.2 e))
  | 0 => ⟨fun e he => he.door0 fun x y K => rfl, fun e he => he.door0 fun x y K => rfl, fun e he => he.door0 fun x y K => rfl, fun e he => he.door0 fun x y _K => rfl⟩
  | k + 1 => by
    rw [rec_f93_8_succ]
    exact ⟨fun e he => he.door fun x y => body_ok (keep := kp) (ann := f93_8_ann) (lrc := f93_8_r (R := R) (fun _ => (rec_f93_8 (R := R) k).2.2.2) k) (N := 21) (n0 := 4) (c := []) cxOk mixed (f93_8_o_ok (fun _ => (rec_f93_8 (R := R) k).2.2.2) (fun _ e he => (rec_f93_8_ok (R := R) k).2.2.2 e he) k) (body := f93_8_b) (by kernel_rfl : Try.prog.funcs[93]? = some Try.f93) (by kernel_rfl) (by kernel_rfl) (by kernel_rfl) (by kernel_rfl) (of_decide_eq_true (by kernel_rfl)) (L := []) (by kernel_rfl) trivial (J := []) (by kernel_rfl) trivial (LrcNat.no) (fun _K => by delta f93_8_s f93_8_o; generalize @f71 R = a0; revert a0; refine id ?_; intros; kernel_rfl),
      fun e he => he.door fun x y => body_ok (keep := kp) (ann := f73_8_ann) (lrc := f73_8_r (R := R) (fun _ => (rec_f93_8 (R := R) k).1) k) (N := 19) (n0 := 4) (c := []) cxOk mixed (f73_8_o_ok (fun _ => (rec_f93_8 (R := R) k).1) (fun _ e he => (rec_f93_8_ok (R := R) k).1 e he) k) (body := f73_8_b) (by kernel_rfl : Try.prog.funcs[73]? = some Try.f73) (by kernel_rfl) (by kernel_rfl) (by kernel_rfl) (by kernel_rfl) (of_decide_eq_true (by kernel_rfl)) (L := [f73_8_l2_b]) (by kernel_rfl) (⟨(f73_8_l2_d_ok (fun _ => (rec_f93_8 (R := R) k).1) (fun _ e he => (rec_f93_8_ok (R := R) k).1 e he) k).use (by kernel_rfl), trivial⟩) (J := []) (by kernel_rfl) trivial ((LrcNat.add (f73_8_l2_d_ok (fun _ => (rec_f93_8 (R := R) k).1) (fun _ e he => (rec_f93_8_ok (R := R) k).1 e he) k).2 LrcNat.no)) (fun _K => by kernel_rfl),
      fun e he => he.door fun x y => body_ok (keep := kp) (ann := f92_8_ann) (lrc := f92_8_r (R := R) (fun _ => (rec_f93_8 (R := R) k).2.1) k) (N := 9) (n0 := 4) (c := []) cxOk mixed (f92_8_o_ok (fun _ => (rec_f93_8 (R := R) k).2.1) (fun _ e he => (rec_f93_8_ok (R := R) k).2.1 e he) k) (body := f92_8_b) (by kernel_rfl : Try.prog.funcs[92]? = some Try.f92) (by kernel_rfl) (by kernel_rfl) (by kernel_rfl) (by kernel_rfl) (of_decide_eq_true (by kernel_rfl)) (L := []) (by kernel_rfl) trivial (J := []) (by kernel_rfl) trivial (LrcNat.no) (fun _K => by kernel_rfl),
      fun e he => he.door fun _x _y => body_ok (keep := kp) (ann := f69_4_ann) (lrc := f69_4_r (R := R) (fun _ => (rec_f93_8 (R := R) k).2.2.1) k) (N := 12) (n0 := 1) (c := []) cxOk mixed (f69_4_o_ok (fun _ => (rec_f93_8 (R := R) k).2.2.1) (fun _ e he => (rec_f93_8_ok (R := R) k).2.2.1 e he) k) (body := f69_4_b) (by kernel_rfl : Try.prog.funcs[69]? = some Try.f69) (by kernel_rfl) (by kernel_rfl) (by kernel_rfl) (by kernel_rfl) (of_decide_eq_true (by kernel_rfl)) (L := []) (by kernel_rfl) trivial (J := []) (by kernel_rfl) trivial (LrcNat.no) (fun _K => by kernel_rfl)⟩
noncomputable def f93_8 {R : Type} (k : Nat) (a0 : Int) (a1 : List Int) (a2 : List D2) (a3 : Bool) (a4 a5 a6 : Int) (K : Bool → Int → Int → Int → Option R) : Option R := (rec_f93_8 (R := R) k).1 a0 a1 a2 a3 a4 a5 a6 K
theorem f93_8_ok {R : Type} (k : Nat) {e : Dr D R} (he : FnOk Try.prog cx 93 e) : FnOk Try.prog cx 93 (f93_8_d (f93_8 k) e) := (rec_f93_8_ok (R := R) k).1 e he
noncomputable def f73_8 {R : Type} (k : Nat) (a0 : List D2) (a1 a2 a3 : Int) (K : Int → Int → Int → Int → Option R) : Option R := (rec_f93_8 (R := R) k).2.1 a0 a1 a2 a3 K
theorem f73_8_ok {R : Type} (k : Nat) {e : Dr D R} (he : FnOk Try.prog cx 73 e) : FnOk Try.prog cx 73 (f73_8_d (f73_8 k) e) := (rec_f93_8_ok (R := R) k).2.1 e he
noncomputable def f92_8 {R : Type} (k : Nat) (a0 : List D2) (a1 a2 a3 : Int) (K : Bool → Int → Int → Int → Option R) : Option R := (rec_f93_8 (R := R) k).2.2.1 a0 a1 a2 a3 K
theorem f92_8_ok {R : Type} (k : Nat) {e : Dr D R} (he : FnOk Try.prog cx 92 e) : FnOk Try.prog cx 92 (f92_8_d (f92_8 k) e) := (rec_f93_8_ok (R := R) k).2.2.1 e he
noncomputable def f69_4 {R : Type} (k : Nat) (a0 : List D2) (a1 a2 a3 : Int) (K : Bool → Int → Option R) : Option R := (rec_f93_8 (R := R) k).2.2.2 a0 a1 a2 a3 K
theorem f69_4_ok {R : Type} (k : Nat) {e : Dr D R} (he : FnOk Try.prog cx 69 e) : FnOk Try.prog cx 69 (f69_4_d (f69_4 k) e) := (rec_f93_8_ok (R := R) k).2.2.2 e he
theorem f93_8_step {R : Type} (k : Nat) (a0 : Int) (a1 : List Int) (a2 : List D2) (a3 : Bool) (a4 a5 a6 : Int) (K : Bool → Int → Int → Int → Option R) : f93_8 (k + 1) a0 a1 a2 a3 a4 a5 a6 K = f93_8_s (fun _ => f69_4 (R := R) k) k a0 a1 a2 a3 a4 a5 a6 K := rfl
theorem f73_8_step {R : Type} (k : Nat) (a0 : List D2) (a1 a2 a3 : Int) (K : Int → Int → Int → Int → Option R) : f73_8 (k + 1) a0 a1 a2 a3 K = f73_8_s (fun _ => f93_8 (R := R) k) k a0 a1 a2 a3 K := rfl
theorem f92_8_step {R : Type} (k : Nat) (a0 : List D2) (a1 a2 a3 : Int) (K : Bool → Int → Int → Int → Option R) : f92_8 (k + 1) a0 a1 a2 a3 K = f92_8_s (fun _ => f73_8 (R := R) k) k a0 a1 a2 a3 K := rfl
theorem f69_4_step {R : Type} (k : Nat) (a0 : List D2) (a1 a2 a3 : Int) (K : Bool → Int → Option R) : f69_4 (k + 1) a0 a1 a2 a3 K = f69_4_s (fun _ => f92_8 (R := R) k) k a0 a1 a2 a3 K := rfl

abbrev f74_T (R : Type) : Type := Int → List Int → List D2 → Bool → Int → (Bool → Int → Option R) → Option R
/-! ## 74: diorama/element.Find$1 -/
noncomputable def f74 {R : Type} (_k : Nat) (a0 : Int) (_a1 : List Int) (_a2 : List D2) (_a3 : Bool) (a4 : Int) (K : Bool → Int → Option R) : Option R :=
 K (a0 == a4) a4
noncomputable def f74_d {R : Type} (g : f74_T R) (e : Dr D R) : Dr D R := door [.agg [.int .i64, .list (.int .u8), .list (.named 2), .bool], .ptr 0 0] [.box [.int .i64]] (fun (x : ((Int × List Int × List D2 × Bool × Unit) × Unit × Unit)) (y : ((Int × Unit) × Unit)) K => g x.1.1 x.1.2.1 x.1.2.2.1 x.1.2.2.2.1 y.1.1 (fun z0 z1 => K ⟨.bool z0, [some (.box [.int .i64 z1])]⟩)) e
noncomputable def f74_o {R : Type} (_k : Nat) : Orc D R := noOrc
theorem f74_o_ok {R : Type} (k : Nat) : OrcOk Try.prog cx (f74_o (R := R) k) := OrcOk.no
noncomputable def f74_b : Code := bodyOf Try.f74
noncomputable def f74_ann : Nat → Option LAnn := fun _key => none
noncomputable def f74_r {R : Type} (_k : Nat) : Lrc D R := noLrc
theorem f74_ok {R : Type} (k : Nat) {e : Dr D R} (he : FnOk Try.prog cx 74 e) : FnOk Try.prog cx 74 (f74_d (f74 k) e) :=
  he.door fun _x _y => body_ok (keep := kp) (ann := f74_ann) (lrc := f74_r (R := R) k) (N := 8) (n0 := 1) (c := []) cxOk mixed (f74_o_ok k) (body := f74_b) (by kernel_rfl : Try.prog.funcs[74]? = some Try.f74) (by kernel_rfl) (by kernel_rfl) (by kernel_rfl) (by kernel_rfl) (of_decide_eq_true (by kernel_rfl)) (L := []) (by kernel_rfl) trivial (J := []) (by kernel_rfl) trivial (LrcNat.no) (fun _K => by kernel_rfl)

abbrev f73_9_T (R : Type) : Type := List D2 → Int → (Int → Int → Option R) → Option R
/-! ## 73: slices.IndexFunc[[]diorama/api.Node,diorama/api.Node] -/
noncomputable def f73_9_l2 {R : Type} : Nat → List D2 → Int → Int → Int → (Int → Option R) → (Int → Int → Option R) → Option R
  | 0, _, _, _, _, _, _ => none
  | k + 1, v1, v2, v3, v4, X0, X1 =>
  bif decide (v3 < v2) then
   bif inb v3 v1.length then
    f74 k (D2.c0 (v1.getD v3.toNat zero2)) (D2.c1 (v1.getD v3.toNat zero2)) (D2.c2 (v1.getD v3.toNat zero2)) (D2.c3 (v1.getD v3.toNat zero2)) v4 (fun v5 v6 =>
     bif v5 then
      X1 v3 v6
     else
      f73_9_l2 k v1 v2 (IntKind.i64.wrap (v3 + 1)) v6 X0 X1)
   else
    none
  else
   X0 v4
noncomputable def f73_9 {R : Type} (k : Nat) (a0 : List D2) (a1 : Int) (K : Int → Int → Option R) : Option R :=
 f73_9_l2 k a0 (a0.length : Int) 0 a1 (fun v7 =>
  K (-1) v7) K
noncomputable def f73_9_d {R : Type} (g : f73_9_T R) (e : Dr D R) : Dr D R := door [.list (.named 2), .fn 74 [.ptr 0 0]] [.box [.int .i64]] (fun (x : (List D2 × (Unit × Unit) × Unit)) (y : ((Int × Unit) × Unit)) K => g x.1 y.1.1 (fun z0 z1 => K ⟨.int .i64 z0, [some (.box [.int .i64 z1])]⟩)) e
noncomputable def f73_9_o {R : Type} (k : Nat) : Orc D R := (orcAdd 74 (f74_d (f74 k) noDr) noOrc)
theorem f73_9_o_ok {R : Type} (k : Nat) : OrcOk Try.prog cx (f73_9_o (R := R) k) := (OrcOk.add (f74_ok k FnOk.no) OrcOk.no)
noncomputable def f73_9_b : Code := bodyOf Try.f73
noncomputable def f73_9_l2_a : LAnn := ⟨⟨[], [0, 1, 7, 8], [0]⟩, exOf (some ⟨[], [4], [0]⟩) [(0, ⟨[], [], [0]⟩)]⟩
noncomputable def f73_9_ann : Nat → Option LAnn := fun key => bif Nat.beq key 2 then some f73_9_l2_a else none
noncomputable def f73_9_l2_b : Code := loopAt f73_9_b 0
noncomputable def f73_9_l2_g {R : Type} (k : Nat) (x : (List D2 × (Unit × Unit) × Int × Int × Unit)) (y : ((Int × Unit) × Unit)) (K : KX R) : Option R := f73_9_l2 k x.1 x.2.2.1 x.2.2.2.1 y.1.1 (fun z0 => K (.exit 0) [] [some (.box [.int .i64 z0])]) (fun z0 z1 => K (.ret) [.int .i64 z0] [some (.box [.int .i64 z1])])
noncomputable def f73_9_l2_d {R : Type} (k : Nat) : Lr D R := ldoor [.list (.named 2), .fn 74 [.ptr 0 0], .int .i64, .int .i64] [some (.box [.int .i64])] (f73_9_l2_g k)
noncomputable def f73_9_l2_r {R : Type} (_k : Nat) : Lrc D R := noLrc
theorem f73_9_l2_d_ok {R : Type} : ∀ k, LoopOk Try.prog cx 19 1 f73_9_ann (f73_9_l2_d (R := R) k) f73_9_l2_b :=
  loop_ok (keep := kp) (lrc := f73_9_l2_r (R := R)) cxOk mixed (f73_9_o_ok) (show f73_9_ann (Am.keyOf f73_9_l2_b) = some f73_9_l2_a by kernel_rfl) (L := []) (by kernel_rfl) (fun _k => trivial) (J := []) (by kernel_rfl) (fun _k => trivial) (fun _k => LrcNat.no) (fun _x _y _K => by kernel_rfl) (fun _k _x _y _K => by kernel_rfl)
noncomputable def f73_9_r {R : Type} (k : Nat) : Lrc D R := (lrcAdd 2 (f73_9_l2_d k) noLrc)
theorem f73_9_ok {R : Type} (k : Nat) {e : Dr D R} (he : FnOk Try.prog cx 73 e) : FnOk Try.prog cx 73 (f73_9_d (f73_9 k) e) :=
  he.door fun _x _y => body_ok (keep := kp) (ann := f73_9_ann) (lrc := f73_9_r (R := R) k) (N := 19) (n0 := 1) (c := []) cxOk mixed (f73_9_o_ok k) (body := f73_9_b) (by kernel_rfl : Try.prog.funcs[73]? = some Try.f73) (by kernel_rfl) (by kernel_rfl) (by kernel_rfl) (by kernel_rfl) (of_decide_eq_true (by kernel_rfl)) (L := [f73_9_l2_b]) (by kernel_rfl) (⟨(f73_9_l2_d_ok k).use (by kernel_rfl), trivial⟩) (J := []) (by kernel_rfl) trivial ((LrcNat.add (f73_9_l2_d_ok k).2 LrcNat.no)) (fun _K => by delta f73_9 f73_9_o; generalize @f74 R = a0; revert a0; refine id ?_; intros; kernel_rfl)

abbrev f96_T (R : Type) : Type := (List D2 → Option R) → Option R
/-! ## 96: slices.Clone[[]diorama/api.Node,diorama/api.Node] -/
noncomputable def f96 {R : Type} (_k : Nat) (K : List D2 → Option R) : Option R :=
 K ([] : List D2)
noncomputable def f96_d {R : Type} (g : f96_T R) (e : Dr D R) : Dr D R := door [.nil] [] (fun (x : (Unit × Unit)) (y : (Unit)) K => g (fun z0 => K ⟨.own 0, [some (.row (.named 2) z0 true)]⟩)) e
noncomputable def f96_o {R : Type} (_k : Nat) : Orc D R := noOrc
theorem f96_o_ok {R : Type} (k : Nat) : OrcOk Try.prog cx (f96_o (R := R) k) := OrcOk.no
noncomputable def f96_b : Code := bodyOf Try.f96
noncomputable def f96_ann : Nat → Option LAnn := fun _key => none
noncomputable def f96_r {R : Type} (_k : Nat) : Lrc D R := noLrc
theorem f96_ok {R : Type} (k : Nat) {e : Dr D R} (he : FnOk Try.prog cx 96 e) : FnOk Try.prog cx 96 (f96_d (f96 k) e) :=
  he.door fun _x _y => body_ok (keep := kp) (ann := f96_ann) (lrc := f96_r (R := R) k) (N := 8) (n0 := 0) (c := [(.tmp 2, .own 1099511627776 (.named 2))]) cxOk mixed (f96_o_ok k) (body := f96_b) (by kernel_rfl : Try.prog.funcs[96]? = some Try.f96) (by kernel_rfl) (by kernel_rfl) (by kernel_rfl) (by kernel_rfl) (of_decide_eq_true (by kernel_rfl)) (L := []) (by kernel_rfl) trivial (J := []) (by kernel_rfl) trivial (LrcNat.no) (fun _K => by kernel_rfl)

abbrev f96_2_T (R : Type) : Type := List D2 → (List D2 → Option R) → Option R
/-! ## 96: slices.Clone[[]diorama/api.Node,diorama/api.Node] -/
noncomputable def f96_2 {R : Type} (_k : Nat) (a0 : List D2) (K : List D2 → Option R) : Option R :=
 bif room 64 (([] : List D2).length + a0.length) then
  K a0
 else
  none
noncomputable def f96_2_d {R : Type} (g : f96_2_T R) (e : Dr D R) : Dr D R := door [.full (.named 2)] [] (fun (x : (List D2 × Unit)) (y : (Unit)) K => g x.1 (fun z0 => K ⟨.own 0, [some (.row (.named 2) z0 true)]⟩)) e
noncomputable def f96_2_o {R : Type} (_k : Nat) : Orc D R := noOrc
theorem f96_2_o_ok {R : Type} (k : Nat) : OrcOk Try.prog cx (f96_2_o (R := R) k) := OrcOk.no
noncomputable def f96_2_b : Code := bodyOf Try.f96
noncomputable def f96_2_ann : Nat → Option LAnn := fun _key => none
noncomputable def f96_2_r {R : Type} (_k : Nat) : Lrc D R := noLrc
theorem f96_2_ok {R : Type} (k : Nat) {e : Dr D R} (he : FnOk Try.prog cx 96 e) : FnOk Try.prog cx 96 (f96_2_d (f96_2 k) e) :=
  he.door fun _x _y => body_ok (keep := kp) (ann := f96_2_ann) (lrc := f96_2_r (R := R) k) (N := 8) (n0 := 0) (c := [(.tmp 2, .own 1099511627776 (.named 2))]) cxOk mixed (f96_2_o_ok k) (body := f96_2_b) (by kernel_rfl : Try.prog.funcs[96]? = some Try.f96) (by kernel_rfl) (by kernel_rfl) (by kernel_rfl) (by kernel_rfl) (of_decide_eq_true (by kernel_rfl)) (L := []) (by kernel_rfl) trivial (J := []) (by kernel_rfl) trivial (LrcNat.no) (fun _K => by kernel_rfl)
noncomputable def f96_2L_d {R : Type} (g : f96_2_T R) (e : Dr D R) : Dr D R := door [.list (.named 2)] [] (fun (x : (List D2 × Unit)) (y : Unit) K => g x.1 (fun z0 => K ⟨.own 0, [some (.row (.named 2) z0 true)]⟩)) e
theorem f96_2L_ok {R : Type} (k : Nat) {e : Dr D R} (he : FnOk Try.prog cx 96 e) : FnOk Try.prog cx 96 (f96_2L_d (f96_2 k) e) :=
  he.door fun x _y => split_ok (fun K r h => (f96_2_ok k FnOk.no).1 [.full (.named 2) x.1] [] K r h) (fun hx K r h => (f96_ok k FnOk.no).1 [.nil] [] K r (by have hx : x.1 = [] := hx; rw [hx] at h; exact h)) ((f96_2_ok k FnOk.no).2 [.full (.named 2) x.1] [])

abbrev f75_T (R : Type) : Type := Int → List Int → List D2 → Bool → (Int → Bool → List Int → List D2 → Option R) → Option R
/-! ## 75: diorama/element.clone -/
noncomputable def f75_l4 {R : Type} (g_f75 : Nat → f75_T R) : Nat → Int → Int → Int → Bool → List Int → List D2 → Int → Bool → (Int → Bool → List Int → List D2 → Int → Bool → Option R) → Option R
  | 0, _, _, _, _, _, _, _, _, _ => none
  | k + 1, v3, v4, v5, v6, v7, v8, v9, v10, X0 =>
  bif decide (v4 < v3) then
   bif inb v4 v8.length then
    g_f75 k (D2.c0 (v8.getD v4.toNat zero2)) (D2.c1 (v8.getD v4.toNat zero2)) (D2.c2 (v8.getD v4.toNat zero2)) (D2.c3 (v8.getD v4.toNat zero2)) (fun v11 v12 v13 v14 =>
     bif inb v4 v8.length then
      f75_l4 g_f75 k v3 (IntKind.i64.wrap (v4 + 1)) v5 v6 v7 (v8.set v4.toNat (D2.mk v11 v13 v14 v12)) v9 v10 X0
     else
      none)
   else
    none
  else
   X0 v5 v6 v7 v8 v9 v10
noncomputable def f75_s {R : Type} (g_f75 : Nat → f75_T R) (k : Nat) (a0 : Int) (a1 : List Int) (a2 : List D2) (a3 : Bool) (K : Int → Bool → List Int → List D2 → Option R) : Option R :=
 f95_2 k a1 (fun v1 =>
  f96_2 k a2 (fun v2 =>
   f75_l4 g_f75 k (v2.length : Int) 0 a0 a3 v1 v2 0 false (fun v15 v16 v17 v18 _v19 _v20 =>
    K v15 v16 v17 v18)))
noncomputable def f75_d {R : Type} (g : f75_T R) (e : Dr D R) : Dr D R := door [.agg [.int .i64, .list (.int .u8), .list (.named 2), .bool]] [] (fun (x : ((Int × List Int × List D2 × Bool × Unit) × Unit)) (y : (Unit)) K => g x.1.1 x.1.2.1 x.1.2.2.1 x.1.2.2.2.1 (fun z0 z1 z2 z3 => K ⟨.agg [.int .i64 z0, .own 0, .own 1, .bool z1], [some (.row (.int .u8) z2 true), some (.row (.named 2) z3 true)]⟩)) e
noncomputable def f75_o {R : Type} (g_f75 : Nat → f75_T R) (k : Nat) : Orc D R := (orcAdd 75 (f75_d (g_f75 k) noDr) (orcAdd 96 (f96_2L_d (f96_2 k) noDr) (orcAdd 95 (f95_2L_d (f95_2 k) noDr) noOrc)))
theorem f75_o_ok {R : Type} (g_f75 : Nat → f75_T R) (h_f75 : ∀ (k : Nat) (e : Dr D R), FnOk Try.prog cx 75 e → FnOk Try.prog cx 75 (f75_d (g_f75 k) e)) (k : Nat) : OrcOk Try.prog cx (f75_o (R := R) g_f75 k) := (OrcOk.add (h_f75 k _ FnOk.no) (OrcOk.add (f96_2L_ok k FnOk.no) (OrcOk.add (f95_2L_ok k FnOk.no) OrcOk.no)))
noncomputable def f75_b : Code := bodyOf Try.f75
noncomputable def f75_l4_a : LAnn := ⟨⟨[], [1, 2, 14, 15], [65568, 131184, 196784, 65584]⟩, exOf (none) [(0, ⟨[], [1, 2], [65568, 131184, 196784, 65584]⟩)]⟩
noncomputable def f75_ann : Nat → Option LAnn := fun key => bif Nat.beq key 4 then some f75_l4_a else none
noncomputable def f75_l4_b : Code := loopAt f75_b 0
noncomputable def f75_l4_g {R : Type} (g_f75 : Nat → f75_T R) (k : Nat) (x : (Unit × Unit × Int × Int × Unit)) (y : ((Int × Unit × Unit × Bool × Unit) × List Int × List D2 × (Int × Unit × Unit × Bool × Unit) × Unit)) (K : KX R) : Option R := f75_l4 g_f75 k x.2.2.1 x.2.2.2.1 y.1.1 y.1.2.2.2.1 y.2.1 y.2.2.1 y.2.2.2.1.1 y.2.2.2.1.2.2.2.1 (fun z0 z1 z2 z3 z4 z5 => K (.exit 0) [.ptr 65568 0, .ptr 65584 0] [some (.box [.int .i64 z0, .own 131184, .own 196784, .bool z1]), some (.row (.int .u8) z2 true), some (.row (.named 2) z3 true), some (.box [.int .i64 z4, .nil, .nil, .bool z5])])
noncomputable def f75_l4_d {R : Type} (g_f75 : Nat → f75_T R) (k : Nat) : Lr D R := ldoor [.ptr 65568 0, .ptr 65584 0, .int .i64, .int .i64] [some (.box [.int .i64, .own 131184, .own 196784, .bool]), some (.row (.int .u8) true), some (.row (.named 2) true), some (.box [.int .i64, .nil, .nil, .bool])] (f75_l4_g g_f75 k)
noncomputable def f75_l4_r {R : Type} (_g_f75 : Nat → f75_T R) (_k : Nat) : Lrc D R := noLrc
theorem f75_l4_d_ok {R : Type} (g_f75 : Nat → f75_T R) (h_f75 : ∀ (k : Nat) (e : Dr D R), FnOk Try.prog cx 75 e → FnOk Try.prog cx 75 (f75_d (g_f75 k) e)) : ∀ k, LoopOk Try.prog cx 30 0 f75_ann (f75_l4_d (R := R) g_f75 k) f75_l4_b :=
  loop_ok (keep := kp) (lrc := f75_l4_r (R := R) g_f75) cxOk mixed (f75_o_ok g_f75 h_f75) (show f75_ann (Am.keyOf f75_l4_b) = some f75_l4_a by kernel_rfl) (L := []) (by kernel_rfl) (fun _k => trivial) (J := []) (by kernel_rfl) (fun _k => trivial) (fun _k => LrcNat.no) (fun _x _y _K => by kernel_rfl) (fun _k _x _y _K => by kernel_rfl)
noncomputable def f75_r {R : Type} (g_f75 : Nat → f75_T R) (k : Nat) : Lrc D R := (lrcAdd 4 (f75_l4_d g_f75 k) noLrc)
noncomputable def rec_f75 {R : Type} : Nat → (f75_T R)
  | 0 => (fun _ _ _ _ _ => none)
  | k + 1 => (f75_s (fun _ => (rec_f75 (R := R) k)) k)
theorem rec_f75_succ {R : Type} (k : Nat) : rec_f75 (R := R) (k + 1) = (f75_s (fun _ => (rec_f75 (R := R) k)) k) := rfl
theorem rec_f75_ok {R : Type} : ∀ k, (∀ e : Dr D R, FnOk Try.prog cx 75 e → FnOk Try.prog cx 75 (f75_d (rec_f75 (R := R) k) e))
  | 0 => fun e he => he.door0 fun x y _K => rfl
  | k + 1 => by
    rw [rec_f75_succ]
    exact fun e he => he.door fun _x _y => body_ok (keep := kp) (ann := f75_ann) (lrc := f75_r (R := R) (fun _ => (rec_f75 (R := R) k)) k) (N := 30) (n0 := 0) (c := []) cxOk mixed (f75_o_ok (fun _ => (rec_f75 (R := R) k)) (fun _ e he => (rec_f75_ok (R := R) k) e he) k) (body := f75_b) (by kernel_rfl : Try.prog.funcs[75]? = some Try.f75) (by kernel_rfl) (by kernel_rfl) (by kernel_rfl) (by kernel_rfl) (of_decide_eq_true (by kernel_rfl)) (L := [f75_l4_b]) (by kernel_rfl) (⟨(f75_l4_d_ok (fun _ => (rec_f75 (R := R) k)) (fun _ e he => (rec_f75_ok (R := R) k) e he) k).use (by kernel_rfl), trivial⟩) (J := []) (by kernel_rfl) trivial ((LrcNat.add (f75_l4_d_ok (fun _ => (rec_f75 (R := R) k)) (fun _ e he => (rec_f75_ok (R := R) k) e he) k).2 LrcNat.no)) (fun _K => by delta f75_s f75_o; generalize @f95_2 R = a0; generalize @f96_2 R = a1; revert a0 a1; refine id ?_; intros; kernel_rfl)
noncomputable def f75 {R : Type} (k : Nat) (a0 : Int) (a1 : List Int) (a2 : List D2) (a3 : Bool) (K : Int → Bool → List Int → List D2 → Option R) : Option R := (rec_f75 (R := R) k) a0 a1 a2 a3 K
theorem f75_ok {R : Type} (k : Nat) {e : Dr D R} (he : FnOk Try.prog cx 75 e) : FnOk Try.prog cx 75 (f75_d (f75 k) e) := (rec_f75_ok (R := R) k) e he
theorem f75_step {R : Type} (k : Nat) (a0 : Int) (a1 : List Int) (a2 : List D2) (a3 : Bool) (K : Int → Bool → List Int → List D2 → Option R) : f75 (k + 1) a0 a1 a2 a3 K = f75_s (fun _ => f75 (R := R) k) k a0 a1 a2 a3 K := rfl

abbrev f42_T (R : Type) : Type := List D2 → Int → (Int → Bool → Bool → List Int → List D2 → Option R) → Option R
/-! ## 42: diorama/element.Find -/
noncomputable def f42 {R : Type} (k : Nat) (a0 : List D2) (a1 : Int) (K : Int → Bool → Bool → List Int → List D2 → Option R) : Option R :=
 f73_9 k a0 a1 (fun v1 _v2 =>
  bif decide (v1 < 0) then
   K 0 false false ([] : List Int) ([] : List D2)
  else
   bif inb v1 a0.length then
    f75 k (D2.c0 (a0.getD v1.toNat zero2)) (D2.c1 (a0.getD v1.toNat zero2)) (D2.c2 (a0.getD v1.toNat zero2)) (D2.c3 (a0.getD v1.toNat zero2)) (fun v3 v4 v5 v6 =>
     K v3 v4 true v5 v6)
   else
    none)
noncomputable def f42_d {R : Type} (g : f42_T R) (e : Dr D R) : Dr D R := door [.list (.named 2), .int .i64] [] (fun (x : (List D2 × Int × Unit)) (y : (Unit)) K => g x.1 x.2.1 (fun z0 z1 z2 z3 z4 => K ⟨.tup [.agg [.int .i64 z0, .own 0, .own 1, .bool z1], .bool z2], [some (.row (.int .u8) z3 true), some (.row (.named 2) z4 true)]⟩)) e
noncomputable def f42_o {R : Type} (k : Nat) : Orc D R := (orcAdd 75 (f75_d (f75 k) noDr) (orcAdd 73 (f73_9_d (f73_9 k) noDr) noOrc))
theorem f42_o_ok {R : Type} (k : Nat) : OrcOk Try.prog cx (f42_o (R := R) k) := (OrcOk.add (f75_ok k FnOk.no) (OrcOk.add (f73_9_ok k FnOk.no) OrcOk.no))
noncomputable def f42_b : Code := bodyOf Try.f42
noncomputable def f42_ann : Nat → Option LAnn := fun _key => none
noncomputable def f42_r {R : Type} (_k : Nat) : Lrc D R := noLrc
theorem f42_ok {R : Type} (k : Nat) {e : Dr D R} (he : FnOk Try.prog cx 42 e) : FnOk Try.prog cx 42 (f42_d (f42 k) e) :=
  he.door fun _x _y => body_ok (keep := kp) (ann := f42_ann) (lrc := f42_r (R := R) k) (N := 18) (n0 := 0) (c := [(.cell 65616 1, .own 1099511627776 (.int .u8)), (.cell 65616 2, .own 1099511627777 (.named 2))]) cxOk mixed (f42_o_ok k) (body := f42_b) (by kernel_rfl : Try.prog.funcs[42]? = some Try.f42) (by kernel_rfl) (by kernel_rfl) (by kernel_rfl) (by kernel_rfl) (of_decide_eq_true (by kernel_rfl)) (L := []) (by kernel_rfl) trivial (J := []) (by kernel_rfl) trivial (LrcNat.no) (fun _K => by delta f42 f42_o; generalize @f73_9 R = a0; generalize @f75 R = a1; revert a0 a1; refine id ?_; intros; kernel_rfl)

abbrev f45_T (R : Type) : Type := List D2 → Int → (List D2 → Option R) → Option R
/-! ## 45: diorama/dioramaref04.All -/
noncomputable def f45_l3 {R : Type} : Nat → List D2 → Int → Int → List D2 → (List D2 → Option R) → Option R
  | 0, _, _, _, _, _ => none
  | k + 1, v1, v2, v3, v4, X0 =>
  bif decide (v3 < (v1.length : Int)) then
   bif inb v3 v1.length then
    bif ((D2.c0 (v1.getD v3.toNat zero2)) == v2) then
     bif inb v3 v1.length then
      bif room 64 (v4.length + ([(D2.mk (D2.c0 (v1.getD v3.toNat zero2)) (D2.c1 (v1.getD v3.toNat zero2)) (D2.c2 (v1.getD v3.toNat zero2)) (D2.c3 (v1.getD v3.toNat zero2)))]).length) then
      f45_l3 k v1 v2 (IntKind.i64.wrap (v3 + 1)) (v4 ++ ([(D2.mk (D2.c0 (v1.getD v3.toNat zero2)) (D2.c1 (v1.getD v3.toNat zero2)) (D2.c2 (v1.getD v3.toNat zero2)) (D2.c3 (v1.getD v3.toNat zero2)))])) X0
      else
      none
     else
      none
    else
     f45_l3 k v1 v2 (IntKind.i64.wrap (v3 + 1)) v4 X0
   else
    none
  else
   X0 v4
noncomputable def f45 {R : Type} (k : Nat) (a0 : List D2) (a1 : Int) (K : List D2 → Option R) : Option R :=
 f45_l3 k a0 a1 0 ([] : List D2) K
noncomputable def f45_d {R : Type} (g : f45_T R) (e : Dr D R) : Dr D R := door [.list (.named 2), .int .i64] [] (fun (x : (List D2 × Int × Unit)) (y : (Unit)) K => g x.1 x.2.1 (fun z0 => K ⟨.own 0, [some (.row (.named 2) z0 true)]⟩)) e
noncomputable def f45_o {R : Type} (_k : Nat) : Orc D R := noOrc
theorem f45_o_ok {R : Type} (k : Nat) : OrcOk Try.prog cx (f45_o (R := R) k) := OrcOk.no
noncomputable def f45_b : Code := bodyOf Try.f45
noncomputable def f45_l3_a : LAnn := ⟨⟨[(.tmp 5, .own 68719489024 (.named 2))], [0, 1, 5, 6], [68719489024]⟩, exOf (none) [(0, ⟨[], [5], [68719489024]⟩)]⟩
noncomputable def f45_ann : Nat → Option LAnn := fun key => bif Nat.beq key 3 then some f45_l3_a else none
noncomputable def f45_l3_b : Code := loopAt f45_b 0
noncomputable def f45_l3_g {R : Type} (k : Nat) (x : (List D2 × Int × Unit × Int × Unit)) (y : (List D2 × Unit)) (K : KX R) : Option R := f45_l3 k x.1 x.2.1 x.2.2.2.1 y.1 (fun z0 => K (.exit 0) [.own 68719489024] [some (.row (.named 2) z0 true)])
noncomputable def f45_l3_d {R : Type} (k : Nat) : Lr D R := ldoor [.list (.named 2), .int .i64, .own 68719489024, .int .i64] [some (.row (.named 2) true)] (f45_l3_g k)
noncomputable def f45_l3_r {R : Type} (_k : Nat) : Lrc D R := noLrc
theorem f45_l3_d_ok {R : Type} : ∀ k, LoopOk Try.prog cx 28 0 f45_ann (f45_l3_d (R := R) k) f45_l3_b :=
  loop_ok (keep := kp) (lrc := f45_l3_r (R := R)) cxOk mixed (f45_o_ok) (show f45_ann (Am.keyOf f45_l3_b) = some f45_l3_a by kernel_rfl) (L := []) (by kernel_rfl) (fun _k => trivial) (J := []) (by kernel_rfl) (fun _k => trivial) (fun _k => LrcNat.no) (fun _x _y _K => by kernel_rfl) (fun _k _x _y _K => by kernel_rfl)
noncomputable def f45_r {R : Type} (k : Nat) : Lrc D R := (lrcAdd 3 (f45_l3_d k) noLrc)
theorem f45_ok {R : Type} (k : Nat) {e : Dr D R} (he : FnOk Try.prog cx 45 e) : FnOk Try.prog cx 45 (f45_d (f45 k) e) :=
  he.door fun _x _y => body_ok (keep := kp) (ann := f45_ann) (lrc := f45_r (R := R) k) (N := 28) (n0 := 0) (c := []) cxOk mixed (f45_o_ok k) (body := f45_b) (by kernel_rfl : Try.prog.funcs[45]? = some Try.f45) (by kernel_rfl) (by kernel_rfl) (by kernel_rfl) (by kernel_rfl) (of_decide_eq_true (by kernel_rfl)) (L := [f45_l3_b]) (by kernel_rfl) (⟨(f45_l3_d_ok k).use (by kernel_rfl), trivial⟩) (J := []) (by kernel_rfl) trivial ((LrcNat.add (f45_l3_d_ok k).2 LrcNat.no)) (fun _K => by kernel_rfl)

abbrev f43_T (R : Type) : Type := List D2 → Int → (Int → List Int → List D2 → Bool → Bool → Option R) → Option R
/-! ## 43: diorama/dioramaref04.Find -/
noncomputable def f43 {R : Type} (k : Nat) (a0 : List D2) (a1 : Int) (K : Int → List Int → List D2 → Bool → Bool → Option R) : Option R :=
 f45 k a0 a1 (fun v1 =>
  bif ((v1.length : Int) == 0) then
   K 0 ([] : List Int) ([] : List D2) false false
  else
   bif inb 0 v1.length then
    K (D2.c0 (v1.getD 0 zero2)) (D2.c1 (v1.getD 0 zero2)) (D2.c2 (v1.getD 0 zero2)) (D2.c3 (v1.getD 0 zero2)) true
   else
    none)
noncomputable def f43_d {R : Type} (g : f43_T R) (e : Dr D R) : Dr D R := door [.list (.named 2), .int .i64] [] (fun (x : (List D2 × Int × Unit)) (y : (Unit)) K => g x.1 x.2.1 (fun z0 z1 z2 z3 z4 => K ⟨.tup [.agg [.int .i64 z0, .list (.int .u8) z1, .list (.named 2) z2, .bool z3], .bool z4], []⟩)) e
noncomputable def f43_o {R : Type} (k : Nat) : Orc D R := (orcAdd 45 (f45_d (f45 k) noDr) noOrc)
theorem f43_o_ok {R : Type} (k : Nat) : OrcOk Try.prog cx (f43_o (R := R) k) := (OrcOk.add (f45_ok k FnOk.no) OrcOk.no)
noncomputable def f43_b : Code := bodyOf Try.f43
noncomputable def f43_ann : Nat → Option LAnn := fun _key => none
noncomputable def f43_r {R : Type} (_k : Nat) : Lrc D R := noLrc
theorem f43_ok {R : Type} (k : Nat) {e : Dr D R} (he : FnOk Try.prog cx 43 e) : FnOk Try.prog cx 43 (f43_d (f43 k) e) :=
  he.door fun _x _y => body_ok (keep := kp) (ann := f43_ann) (lrc := f43_r (R := R) k) (N := 17) (n0 := 0) (c := [(.cell 65616 1, .imm (.int .u8)), (.cell 65616 2, .imm (.named 2))]) cxOk mixed (f43_o_ok k) (body := f43_b) (by kernel_rfl : Try.prog.funcs[43]? = some Try.f43) (by kernel_rfl) (by kernel_rfl) (by kernel_rfl) (by kernel_rfl) (of_decide_eq_true (by kernel_rfl)) (L := []) (by kernel_rfl) trivial (J := []) (by kernel_rfl) trivial (LrcNat.no) (fun _K => by delta f43 f43_o; generalize @f45 R = a0; revert a0; refine id ?_; intros; kernel_rfl)


end Go.Proofs.Ytklhjegfkpmdoaa

/-! What the functions do, as plain functions; and that they do. -/
namespace Go.Proofs.Ytklhjegfkpmdoaa
open Go Go.Am
abbrev f44_T (R : Type) : Type := List D2 → Int → (List D2 → Option R) → Option R
/-! ## 44: diorama/element.All -/
noncomputable def f44_l3 {R : Type} : Nat → Int → List D2 → Int → Int → List D2 → (List D2 → Option R) → Option R
  | 0, _, _, _, _, _, _ => none
  | k + 1, v1, v2, v3, v4, v5, X0 =>
  bif decide (v4 < v3) then
   bif inb v4 v2.length then
    bif ((D2.c0 (v2.getD v4.toNat zero2)) == v1) then
     f75 k (D2.c0 (v2.getD v4.toNat zero2)) (D2.c1 (v2.getD v4.toNat zero2)) (D2.c2 (v2.getD v4.toNat zero2)) (D2.c3 (v2.getD v4.toNat zero2)) (fun v6 v7 v8 v9 =>
      bif room 64 (v5.length + ([(D2.mk v6 v8 v9 v7)]).length) then
      f44_l3 k v1 v2 v3 (IntKind.i64.wrap (v4 + 1)) (v5 ++ ([(D2.mk v6 v8 v9 v7)])) X0
      else
      none)
    else
     f44_l3 k v1 v2 v3 (IntKind.i64.wrap (v4 + 1)) v5 X0
   else
    none
  else
   X0 v5
noncomputable def f44 {R : Type} (k : Nat) (a0 : List D2) (a1 : Int) (K : List D2 → Option R) : Option R :=
 f44_l3 k a1 a0 (a0.length : Int) 0 ([] : List D2) K
noncomputable def f44_d {R : Type} (g : f44_T R) (e : Dr D R) : Dr D R := door [.list (.named 2), .int .i64] [] (fun (x : (List D2 × Int × Unit)) (y : (Unit)) K => g x.1 x.2.1 (fun z0 => K ⟨.own 0, [some (.row (.named 2) z0 true)]⟩)) e
noncomputable def f44_o {R : Type} (k : Nat) : Orc D R := (orcAdd 75 (f75_d (f75 k) noDr) noOrc)
theorem f44_o_ok {R : Type} (k : Nat) : OrcOk Try.prog cx (f44_o (R := R) k) := (OrcOk.add (f75_ok k FnOk.no) OrcOk.no)
noncomputable def f44_b : Code := bodyOf Try.f44
noncomputable def f44_l3_a : LAnn := ⟨⟨[(.tmp 5, .own 68719489024 (.named 2))], [1, 5, 8, 9, 10], [68719489024]⟩, exOf (none) [(0, ⟨[], [5], [68719489024]⟩)]⟩
noncomputable def f44_ann : Nat → Option LAnn := fun key => bif Nat.beq key 3 then some f44_l3_a else none
noncomputable def f44_l3_b : Code := loopAt f44_b 0
noncomputable def f44_l3_g {R : Type} (k : Nat) (x : (Int × Unit × List D2 × Int × Int × Unit)) (y : (List D2 × Unit)) (K : KX R) : Option R := f44_l3 k x.1 x.2.2.1 x.2.2.2.1 x.2.2.2.2.1 y.1 (fun z0 => K (.exit 0) [.own 68719489024] [some (.row (.named 2) z0 true)])
noncomputable def f44_l3_d {R : Type} (k : Nat) : Lr D R := ldoor [.int .i64, .own 68719489024, .list (.named 2), .int .i64, .int .i64] [some (.row (.named 2) true)] (f44_l3_g k)
noncomputable def f44_l3_r {R : Type} (_k : Nat) : Lrc D R := noLrc
theorem f44_l3_d_ok {R : Type} : ∀ k, LoopOk Try.prog cx 25 0 f44_ann (f44_l3_d (R := R) k) f44_l3_b :=
  loop_ok (keep := kp) (lrc := f44_l3_r (R := R)) cxOk mixed (f44_o_ok) (show f44_ann (Am.keyOf f44_l3_b) = some f44_l3_a by kernel_rfl) (L := []) (by kernel_rfl) (fun _k => trivial) (J := []) (by kernel_rfl) (fun _k => trivial) (fun _k => LrcNat.no) (fun _x _y _K => by kernel_rfl) (fun _k _x _y _K => by kernel_rfl)
noncomputable def f44_r {R : Type} (k : Nat) : Lrc D R := (lrcAdd 3 (f44_l3_d k) noLrc)
theorem f44_ok {R : Type} (k : Nat) {e : Dr D R} (he : FnOk Try.prog cx 44 e) : FnOk Try.prog cx 44 (f44_d (f44 k) e) :=
  he.door fun _x _y => body_ok (keep := kp) (ann := f44_ann) (lrc := f44_r (R := R) k) (N := 25) (n0 := 0) (c := []) cxOk mixed (f44_o_ok k) (body := f44_b) (by kernel_rfl : Try.prog.funcs[44]? = some Try.f44) (by kernel_rfl) (by kernel_rfl) (by kernel_rfl) (by kernel_rfl) (of_decide_eq_true (by kernel_rfl)) (L := [f44_l3_b]) (by kernel_rfl) (⟨(f44_l3_d_ok k).use (by kernel_rfl), trivial⟩) (J := []) (by kernel_rfl) trivial ((LrcNat.add (f44_l3_d_ok k).2 LrcNat.no)) (fun _K => by delta f44 f44_o; generalize @f75 R = a0; revert a0; refine id ?_; intros; kernel_rfl)

abbrev f78_T (R : Type) : Type := List Int → List Int → (Bool → Option R) → Option R
/-! ## 78: bytes.Equal -/
noncomputable def f78 {R : Type} (_k : Nat) (a0 a1 : List Int) (K : Bool → Option R) : Option R :=
 K ((strOf a0).toList == (strOf a1).toList)
noncomputable def f78_d {R : Type} (g : f78_T R) (e : Dr D R) : Dr D R := door [.list (.int .u8), .list (.int .u8)] [] (fun (x : (List Int × List Int × Unit)) (y : (Unit)) K => g x.1 x.2.1 (fun z0 => K ⟨.bool z0, []⟩)) e
noncomputable def f78_o {R : Type} (_k : Nat) : Orc D R := noOrc
theorem f78_o_ok {R : Type} (k : Nat) : OrcOk Try.prog cx (f78_o (R := R) k) := OrcOk.no
noncomputable def f78_b : Code := bodyOf Try.f78
noncomputable def f78_ann : Nat → Option LAnn := fun _key => none
noncomputable def f78_r {R : Type} (_k : Nat) : Lrc D R := noLrc
theorem f78_ok {R : Type} (k : Nat) {e : Dr D R} (he : FnOk Try.prog cx 78 e) : FnOk Try.prog cx 78 (f78_d (f78 k) e) :=
  he.door fun _x _y => body_ok (keep := kp) (ann := f78_ann) (lrc := f78_r (R := R) k) (N := 10) (n0 := 0) (c := []) cxOk mixed (f78_o_ok k) (body := f78_b) (by kernel_rfl : Try.prog.funcs[78]? = some Try.f78) (by kernel_rfl) (by kernel_rfl) (by kernel_rfl) (by kernel_rfl) (of_decide_eq_true (by kernel_rfl)) (L := []) (by kernel_rfl) trivial (J := []) (by kernel_rfl) trivial (LrcNat.no) (fun _K => by kernel_rfl)

abbrev f77_2_T (R : Type) : Type := Int → List Int → List D2 → Bool → Int → List Int → List D2 → Bool → (Bool → Option R) → Option R
abbrev f76_2_T (R : Type) : Type := List D2 → List D2 → (Bool → Option R) → Option R
abbrev f46_T (R : Type) : Type := List D2 → List D2 → (Bool → Option R) → Option R
/-! ## 77: diorama/element.Same$1 -/
noncomputable def f77_2_s {R : Type} (g_f46 : Nat → f46_T R) (k : Nat) (a0 : Int) (a1 : List Int) (a2 : List D2) (a3 : Bool) (a4 : Int) (a5 : List Int) (a6 : List D2) (a7 : Bool) (K : Bool → Option R) : Option R :=
 bif (a0 == a4) then
  bif (a3 == a7) then
   f78 k a1 a5 (fun v1 =>
    bif v1 then
     g_f46 k a2 a6 K
    else
     K false)
  else
   K false
 else
  K false
noncomputable def f77_2_d {R : Type} (g : f77_2_T R) (e : Dr D R) : Dr D R := door [.agg [.int .i64, .list (.int .u8), .list (.named 2), .bool], .agg [.int .i64, .list (.int .u8), .list (.named 2), .bool]] [] (fun (x : ((Int × List Int × List D2 × Bool × Unit) × (Int × List Int × List D2 × Bool × Unit) × Unit)) (y : (Unit)) K => g x.1.1 x.1.2.1 x.1.2.2.1 x.1.2.2.2.1 x.2.1.1 x.2.1.2.1 x.2.1.2.2.1 x.2.1.2.2.2.1 (fun z0 => K ⟨.bool z0, []⟩)) e
/-! ## 76: slices.EqualFunc[[]diorama/api.Node,[]diorama/api.Node,diorama/api.Node,diorama/api.Node] -/
noncomputable def f76_2_l4 {R : Type} (g_f77_2 : Nat → f77_2_T R) : Nat → List D2 → List D2 → Int → Int → Option R → (Bool → Option R) → Option R
  | 0, _, _, _, _, _, _ => none
  | k + 1, v1, v2, v3, v4, X0, X1 =>
  bif decide (v4 < v3) then
   bif inb v4 v2.length then
    bif inb v4 v1.length then
     g_f77_2 k (D2.c0 (v2.getD v4.toNat zero2)) (D2.c1 (v2.getD v4.toNat zero2)) (D2.c2 (v2.getD v4.toNat zero2)) (D2.c3 (v2.getD v4.toNat zero2)) (D2.c0 (v1.getD v4.toNat zero2)) (D2.c1 (v1.getD v4.toNat zero2)) (D2.c2 (v1.getD v4.toNat zero2)) (D2.c3 (v1.getD v4.toNat zero2)) (fun v5 =>
      bif (!v5) then
      X1 false
      else
      f76_2_l4 g_f77_2 k v1 v2 v3 (IntKind.i64.wrap (v4 + 1)) X0 X1)
    else
     none
   else
    none
  else
   X0
noncomputable def f76_2_s {R : Type} (g_f77_2 : Nat → f77_2_T R) (k : Nat) (a0 a1 : List D2) (K : Bool → Option R) : Option R :=
 bif ((a0.length : Int) != (a1.length : Int)) then
  K false
 else
  f76_2_l4 g_f77_2 k a1 a0 (a0.length : Int) 0 (
   K true) K
noncomputable def f76_2_d {R : Type} (g : f76_2_T R) (e : Dr D R) : Dr D R := door [.list (.named 2), .list (.named 2), .fn 77 []] [] (fun (x : (List D2 × List D2 × (Unit) × Unit)) (y : (Unit)) K => g x.1 x.2.1 (fun z0 => K ⟨.bool z0, []⟩)) e
/-! ## 46: diorama/element.Same -/
noncomputable def f46_s {R : Type} (g_f76_2 : Nat → f76_2_T R) (k : Nat) (a0 a1 : List D2) (K : Bool → Option R) : Option R :=
 g_f76_2 k a0 a1 K
noncomputable def f46_d {R : Type} (g : f46_T R) (e : Dr D R) : Dr D R := door [.list (.named 2), .list (.named 2)] [] (fun (x : (List D2 × List D2 × Unit)) (y : (Unit)) K => g x.1 x.2.1 (fun z0 => K ⟨.bool z0, []⟩)) e
noncomputable def f77_2_o {R : Type} (g_f46 : Nat → f46_T R) (k : Nat) : Orc D R := (orcAdd 46 (f46_d (g_f46 k) noDr) (orcAdd 78 (f78_d (f78 k) noDr) noOrc))
theorem f77_2_o_ok {R : Type} (g_f46 : Nat → f46_T R) (h_f46 : ∀ (k : Nat) (e : Dr D R), FnOk Try.prog cx 46 e → FnOk Try.prog cx 46 (f46_d (g_f46 k) e)) (k : Nat) : OrcOk Try.prog cx (f77_2_o (R := R) g_f46 k) := (OrcOk.add (h_f46 k _ FnOk.no) (OrcOk.add (f78_ok k FnOk.no) OrcOk.no))
noncomputable def f77_2_b : Code := bodyOf Try.f77
noncomputable def f77_2_ann : Nat → Option LAnn := fun _key => none
noncomputable def f77_2_r {R : Type} (_g_f46 : Nat → f46_T R) (_k : Nat) : Lrc D R := noLrc
noncomputable def f76_2_o {R : Type} (g_f77_2 : Nat → f77_2_T R) (k : Nat) : Orc D R := (orcAdd 77 (f77_2_d (g_f77_2 k) noDr) noOrc)
theorem f76_2_o_ok {R : Type} (g_f77_2 : Nat → f77_2_T R) (h_f77_2 : ∀ (k : Nat) (e : Dr D R), FnOk Try.prog cx 77 e → FnOk Try.prog cx 77 (f77_2_d (g_f77_2 k) e)) (k : Nat) : OrcOk Try.prog cx (f76_2_o (R := R) g_f77_2 k) := (OrcOk.add (h_f77_2 k _ FnOk.no) OrcOk.no)
noncomputable def f76_2_b : Code := bodyOf Try.f76
noncomputable def f76_2_l4_a : LAnn := ⟨⟨[], [1, 2, 15, 16, 17], []⟩, exOf (some ⟨[], [6], []⟩) [(0, ⟨[], [], []⟩)]⟩
noncomputable def f76_2_ann : Nat → Option LAnn := fun key => bif Nat.beq key 4 then some f76_2_l4_a else none
noncomputable def f76_2_l4_b : Code := loopAt f76_2_b 0
noncomputable def f76_2_l4_g {R : Type} (g_f77_2 : Nat → f77_2_T R) (k : Nat) (x : (List D2 × (Unit) × List D2 × Int × Int × Unit)) (_y : (Unit)) (K : KX R) : Option R := f76_2_l4 g_f77_2 k x.1 x.2.2.1 x.2.2.2.1 x.2.2.2.2.1 (K (.exit 0) [] []) (fun z0 => K (.ret) [.bool z0] [])
noncomputable def f76_2_l4_d {R : Type} (g_f77_2 : Nat → f77_2_T R) (k : Nat) : Lr D R := ldoor [.list (.named 2), .fn 77 [], .list (.named 2), .int .i64, .int .i64] [] (f76_2_l4_g g_f77_2 k)
noncomputable def f76_2_l4_r {R : Type} (_g_f77_2 : Nat → f77_2_T R) (_k : Nat) : Lrc D R := noLrc
theorem f76_2_l4_d_ok {R : Type} (g_f77_2 : Nat → f77_2_T R) (h_f77_2 : ∀ (k : Nat) (e : Dr D R), FnOk Try.prog cx 77 e → FnOk Try.prog cx 77 (f77_2_d (g_f77_2 k) e)) : ∀ k, LoopOk Try.prog cx 32 0 f76_2_ann (f76_2_l4_d (R := R) g_f77_2 k) f76_2_l4_b :=
  loop_ok (keep := kp) (lrc := f76_2_l4_r (R := R) g_f77_2) cxOk mixed (f76_2_o_ok g_f77_2 h_f77_2) (show f76_2_ann (Am.keyOf f76_2_l4_b) = some f76_2_l4_a by kernel_rfl) (L := []) (by kernel_rfl) (fun _k => trivial) (J := []) (by kernel_rfl) (fun _k => trivial) (fun _k => LrcNat.no) (fun _x _y _K => by kernel_rfl) (fun _k _x _y _K => by kernel_rfl)
noncomputable def f76_2_r {R : Type} (g_f77_2 : Nat → f77_2_T R) (k : Nat) : Lrc D R := (lrcAdd 4 (f76_2_l4_d g_f77_2 k) noLrc)
noncomputable def f46_o {R : Type} (g_f76_2 : Nat → f76_2_T R) (k : Nat) : Orc D R := (orcAdd 76 (f76_2_d (g_f76_2 k) noDr) noOrc)
theorem f46_o_ok {R : Type} (g_f76_2 : Nat → f76_2_T R) (h_f76_2 : ∀ (k : Nat) (e : Dr D R), FnOk Try.prog cx 76 e → FnOk Try.prog cx 76 (f76_2_d (g_f76_2 k) e)) (k : Nat) : OrcOk Try.prog cx (f46_o (R := R) g_f76_2 k) := (OrcOk.add (h_f76_2 k _ FnOk.no) OrcOk.no)
noncomputable def f46_b : Code := bodyOf Try.f46
noncomputable def f46_ann : Nat → Option LAnn := fun _key => none
noncomputable def f46_r {R : Type} (_g_f76_2 : Nat → f76_2_T R) (_k : Nat) : Lrc D R := noLrc
noncomputable def rec_f77_2 {R : Type} : Nat → (f77_2_T R) × (f76_2_T R) × (f46_T R)
  | 0 => (fun _ _ _ _ _ _ _ _ _ => none, fun _ _ _ => none, fun _ _ _ => none)
  | k + 1 => (f77_2_s (fun _ => (rec_f77_2 (R := R) k).2.2) k, f76_2_s (fun _ => (rec_f77_2 (R := R) k).1) k, f46_s (fun _ => (rec_f77_2 (R := R) k).2.1) k)
theorem rec_f77_2_succ {R : Type} (k : Nat) : rec_f77_2 (R := R) (k + 1) = (f77_2_s (fun _ => (rec_f77_2 (R := R) k).2.2) k, f76_2_s (fun _ => (rec_f77_2 (R := R) k).1) k, f46_s (fun _ => (rec_f77_2 (R := R) k).2.1) k) := rfl
theorem rec_f77_2_ok {R : Type} : ∀ k, (∀ e : Dr D R, FnOk Try.prog cx 77 e → FnOk Try.prog cx 77 (f77_2_d (rec_f77_2 (R := R) k).1 e)) ∧ (∀ e : Dr D R, FnOk Try.prog cx 76 e → FnOk Try.prog cx 76 (f76_2_d (rec_f77_2 (R := R) k).2.1 e)) ∧ (∀ e : Dr D R, FnOk Try.prog cx 46 e → FnOk Try.prog cx 46 (f46_d (rec_f77_2 (R := R) k).2.2 e))
  | 0 => ⟨fun e he => he.door0 fun x y K => rfl, fun e he => he.door0 fun x y K => rfl, fun e he => he.door0 fun x y _K => rfl⟩
  | k + 1 => by
    rw [rec_f77_2_succ]
    exact ⟨fun e he => he.door fun x y => body_ok (keep := kp) (ann := f77_2_ann) (lrc := f77_2_r (R := R) (fun _ => (rec_f77_2 (R := R) k).2.2) k) (N := 31) (n0 := 0) (c := []) cxOk mixed (f77_2_o_ok (fun _ => (rec_f77_2 (R := R) k).2.2) (fun _ e he => (rec_f77_2_ok (R := R) k).2.2 e he) k) (body := f77_2_b) (by kernel_rfl : Try.prog.funcs[77]? = some Try.f77) (by kernel_rfl) (by kernel_rfl) (by kernel_rfl) (by kernel_rfl) (of_decide_eq_true (by kernel_rfl)) (L := []) (by kernel_rfl) trivial (J := []) (by kernel_rfl) trivial (LrcNat.no) (fun _K => by delta f77_2_s f77_2_o; generalize @f78 R = a0; revert a0; refine id ?_; intros; kernel_rfl),
      fun e he => he.door fun x y => body_ok (keep := kp) (ann := f76_2_ann) (lrc := f76_2_r (R := R) (fun _ => (rec_f77_2 (R := R) k).1) k) (N := 32) (n0 := 0) (c := []) cxOk mixed (f76_2_o_ok (fun _ => (rec_f77_2 (R := R) k).1) (fun _ e he => (rec_f77_2_ok (R := R) k).1 e he) k) (body := f76_2_b) (by kernel_rfl : Try.prog.funcs[76]? = some Try.f76) (by kernel_rfl) (by kernel_rfl) (by kernel_rfl) (by kernel_rfl) (of_decide_eq_true (by kernel_rfl)) (L := [f76_2_l4_b]) (by kernel_rfl) (⟨(f76_2_l4_d_ok (fun _ => (rec_f77_2 (R := R) k).1) (fun _ e he => (rec_f77_2_ok (R := R) k).1 e he) k).use (by kernel_rfl), trivial⟩) (J := []) (by kernel_rfl) trivial ((LrcNat.add (f76_2_l4_d_ok (fun _ => (rec_f77_2 (R := R) k).1) (fun _ e he => (rec_f77_2_ok (R := R) k).1 e he) k).2 LrcNat.no)) (fun _K => by kernel_rfl),
      fun e he => he.door fun _x _y => body_ok (keep := kp) (ann := f46_ann) (lrc := f46_r (R := R) (fun _ => (rec_f77_2 (R := R) k).2.1) k) (N := 8) (n0 := 0) (c := []) cxOk mixed (f46_o_ok (fun _ => (rec_f77_2 (R := R) k).2.1) (fun _ e he => (rec_f77_2_ok (R := R) k).2.1 e he) k) (body := f46_b) (by kernel_rfl : Try.prog.funcs[46]? = some Try.f46) (by kernel_rfl) (by kernel_rfl) (by kernel_rfl) (by kernel_rfl) (of_decide_eq_true (by kernel_rfl)) (L := []) (by kernel_rfl) trivial (J := []) (by kernel_rfl) trivial (LrcNat.no) (fun _K => by kernel_rfl)⟩
noncomputable def f77_2 {R : Type} (k : Nat) (a0 : Int) (a1 : List Int) (a2 : List D2) (a3 : Bool) (a4 : Int) (a5 : List Int) (a6 : List D2) (a7 : Bool) (K : Bool → Option R) : Option R := (rec_f77_2 (R := R) k).1 a0 a1 a2 a3 a4 a5 a6 a7 K
theorem f77_2_ok {R : Type} (k : Nat) {e : Dr D R} (he : FnOk Try.prog cx 77 e) : FnOk Try.prog cx 77 (f77_2_d (f77_2 k) e) := (rec_f77_2_ok (R := R) k).1 e he
noncomputable def f76_2 {R : Type} (k : Nat) (a0 a1 : List D2) (K : Bool → Option R) : Option R := (rec_f77_2 (R := R) k).2.1 a0 a1 K
theorem f76_2_ok {R : Type} (k : Nat) {e : Dr D R} (he : FnOk Try.prog cx 76 e) : FnOk Try.prog cx 76 (f76_2_d (f76_2 k) e) := (rec_f77_2_ok (R := R) k).2.1 e he
noncomputable def f46 {R : Type} (k : Nat) (a0 a1 : List D2) (K : Bool → Option R) : Option R := (rec_f77_2 (R := R) k).2.2 a0 a1 K
theorem f46_ok {R : Type} (k : Nat) {e : Dr D R} (he : FnOk Try.prog cx 46 e) : FnOk Try.prog cx 46 (f46_d (f46 k) e) := (rec_f77_2_ok (R := R) k).2.2 e he
theorem f77_2_step {R : Type} (k : Nat) (a0 : Int) (a1 : List Int) (a2 : List D2) (a3 : Bool) (a4 : Int) (a5 : List Int) (a6 : List D2) (a7 : Bool) (K : Bool → Option R) : f77_2 (k + 1) a0 a1 a2 a3 a4 a5 a6 a7 K = f77_2_s (fun _ => f46 (R := R) k) k a0 a1 a2 a3 a4 a5 a6 a7 K := rfl
theorem f76_2_step {R : Type} (k : Nat) (a0 a1 : List D2) (K : Bool → Option R) : f76_2 (k + 1) a0 a1 K = f76_2_s (fun _ => f77_2 (R := R) k) k a0 a1 K := rfl
theorem f46_step {R : Type} (k : Nat) (a0 a1 : List D2) (K : Bool → Option R) : f46 (k + 1) a0 a1 K = f46_s (fun _ => f76_2 (R := R) k) k a0 a1 K := rfl

abbrev f11_T (R : Type) : Type := List D2 → List D2 → Int → (Bool → Option R) → Option R
/-! ## 11: diorama/dioramalaw04.ElementFinds -/
noncomputable def f11 {R : Type} (k : Nat) (a0 a1 : List D2) (a2 : Int) (K : Bool → Option R) : Option R :=
 f42 k a0 a2 (fun v1 v2 v3 v4 v5 =>
  f43 k a0 a2 (fun v6 v7 v8 v9 v10 =>
   bif (!(v3 == v10)) then
    K false
   else
    f23 k ([(D2.mk v1 v4 v5 v2)]) ([(D2.mk v6 v7 v8 v9)]) (fun v11 =>
     bif (!v11) then
      K false
     else
      f44 k a0 a2 (fun v12 =>
      f45 k a0 a2 (fun v13 =>
      f23 k v12 v13 (fun v14 =>
      bif (!v14) then
      K false
      else
      f46 k a0 a1 (fun v15 =>
      f23 k a0 a1 (fun v16 =>
      bif (v15 == v16) then
      f46 k a0 a0 (fun v17 =>
      bif v17 then
      f18 k K
      else
      K false)
      else
      K false))))))))
noncomputable def f11_d {R : Type} (g : f11_T R) (e : Dr D R) : Dr D R := door [.list (.named 2), .list (.named 2), .int .i64] [] (fun (x : (List D2 × List D2 × Int × Unit)) (y : (Unit)) K => g x.1 x.2.1 x.2.2.1 (fun z0 => K ⟨.bool z0, []⟩)) e
noncomputable def f11_o {R : Type} (k : Nat) : Orc D R := (orcAdd 46 (f46_d (f46 k) noDr) (orcAdd 44 (f44_d (f44 k) noDr) (orcAdd 43 (f43_d (f43 k) noDr) (orcAdd 45 (f45_d (f45 k) noDr) (orcAdd 42 (f42_d (f42 k) noDr) (orcAdd 23 (f23_d (f23 k) noDr) (orcAdd 18 (f18_d (f18 k) noDr) noOrc)))))))
theorem f11_o_ok {R : Type} (k : Nat) : OrcOk Try.prog cx (f11_o (R := R) k) := (OrcOk.add (f46_ok k FnOk.no) (OrcOk.add (f44_ok k FnOk.no) (OrcOk.add (f43_ok k FnOk.no) (OrcOk.add (f45_ok k FnOk.no) (OrcOk.add (f42_ok k FnOk.no) (OrcOk.add (f23_ok k FnOk.no) (OrcOk.add (f18_ok k FnOk.no) OrcOk.no)))))))
noncomputable def f11_b : Code := bodyOf Try.f11
noncomputable def f11_ann : Nat → Option LAnn := fun _key => none
noncomputable def f11_r {R : Type} (_k : Nat) : Lrc D R := noLrc
theorem f11_ok {R : Type} (k : Nat) {e : Dr D R} (he : FnOk Try.prog cx 11 e) : FnOk Try.prog cx 11 (f11_d (f11 k) e) :=
  he.door fun _x _y => body_ok (keep := kp) (ann := f11_ann) (lrc := f11_r (R := R) k) (N := 59) (n0 := 0) (c := []) cxOk mixed (f11_o_ok k) (body := f11_b) (by kernel_rfl : Try.prog.funcs[11]? = some Try.f11) (by kernel_rfl) (by kernel_rfl) (by kernel_rfl) (by kernel_rfl) (of_decide_eq_true (by kernel_rfl)) (L := []) (by kernel_rfl) trivial (J := []) (by kernel_rfl) trivial (LrcNat.no) (fun _K => by delta f11 f11_o; generalize @f18 R = a0; generalize @f23 R = a1; generalize @f42 R = a2; generalize @f45 R = a3; generalize @f43 R = a4; generalize @f44 R = a5; generalize @f46 R = a6; revert a0 a1 a2 a3 a4 a5 a6; refine id ?_; intros; kernel_rfl)


end Go.Proofs.Ytklhjegfkpmdoaa
