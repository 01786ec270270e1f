/- Proved: each of these functions does what a plain function says. Conditions: none. -/
import Derived.Test.YtklhjegfkpmdoaaElWalk1

/-! What the functions do, as plain functions; and that they do. -/
namespace Go.Proofs.Ytklhjegfkpmdoaa
open Go Go.Am
abbrev f28_T (R : Type) : Type := Int → (Int → List Int → Option R) → Option R
/-! ## 28: diorama/dioramaref04.PutId -/
noncomputable def f28_l7 {R : Type} : Nat → Int → Int → List Int → (List Int → Option R) → Option R
  | 0, _, _, _, _ => none
  | k + 1, v4, v5, v6, X0 =>
  bif decide (v5 ≥ 0) then
   bif inb v5 v6.length then
    f28_l7 k (IntKind.i64.wrap (v4.tdiv 256)) (IntKind.i64.wrap (v5 - 1)) (v6.set v5.toNat (IntKind.u8.wrap ((v4.tmod 256)))) X0
   else
    none
  else
   X0 v6
noncomputable def f28_l2 {R : Type} : Nat → Int → Int → Option R → (Int → List Int → Option R) → Option R
  | 0, _, _, _, _ => none
  | k + 1, v1, v2, X0, X1 =>
  bif decide (v2 ≤ 4) then
   f62 k v1 v2 (fun v3 =>
    bif (!v3) then
     f28_l2 k v1 (IntKind.i64.wrap (v2 + 1)) X0 X1
    else
     bif (decide ((0 : Int) ≤ v2)) && (decide (v2 ≤ v2)) && (decide (v2 * ((1 : Nat) : Int) ≤ 140737488355328)) then
      f28_l7 k v1 (IntKind.i64.wrap (v2 - 1)) (List.replicate v2.toNat (0 : Int)) (fun v7 =>
      X1 0 v7)
     else
      none)
  else
   X0
noncomputable def f28 {R : Type} (k : Nat) (a0 : Int) (K : Int → List Int → Option R) : Option R :=
 f28_l2 k a0 1 (
  K 40 ([] : List Int)) K
noncomputable def f28_d {R : Type} (g : f28_T R) (e : Dr D R) : Dr D R := door [.int .i64] [] (fun (x : (Int × Unit)) (y : (Unit)) K => g x.1 (fun z0 z1 => K ⟨.tup [.own 0, .int .i64 z0], [some (.row (.int .u8) z1 true)]⟩)) e
noncomputable def f28_o {R : Type} (k : Nat) : Orc D R := (orcAdd 62 (f62_d (f62 k) noDr) noOrc)
theorem f28_o_ok {R : Type} (k : Nat) : OrcOk Try.prog cx (f28_o (R := R) k) := (OrcOk.add (f62_ok k FnOk.no) OrcOk.no)
noncomputable def f28_b : Code := bodyOf Try.f28
noncomputable def f28_l7_a : LAnn := ⟨⟨[], [0, 5, 6], [393488]⟩, exOf (none) [(2, ⟨[], [5], [393488]⟩)]⟩
noncomputable def f28_l2_a : LAnn := ⟨⟨[], [0, 4], []⟩, exOf (some ⟨[], [2, 3], [393488]⟩) [(0, ⟨[], [], []⟩)]⟩
noncomputable def f28_ann : Nat → Option LAnn := fun key => bif Nat.beq key 2 then some f28_l2_a else bif Nat.beq key 7 then some f28_l7_a else none
noncomputable def f28_l7_b : Code := loopAt f28_b 1
noncomputable def f28_l7_g {R : Type} (k : Nat) (x : (Int × Unit × Int × Unit)) (y : (List Int × Unit)) (K : KX R) : Option R := f28_l7 k x.1 x.2.2.1 y.1 (fun z0 => K (.exit 2) [.own 393488] [some (.row (.int .u8) z0 true)])
noncomputable def f28_l7_d {R : Type} (k : Nat) : Lr D R := ldoor [.int .i64, .own 393488, .int .i64] [some (.row (.int .u8) true)] (f28_l7_g k)
noncomputable def f28_l7_r {R : Type} (_k : Nat) : Lrc D R := noLrc
theorem f28_l7_d_ok {R : Type} : ∀ k, LoopOk Try.prog cx 32 0 f28_ann (f28_l7_d (R := R) k) f28_l7_b :=
  loop_ok (keep := kp) (lrc := f28_l7_r (R := R)) cxOk mixed (f28_o_ok) (show f28_ann (Am.keyOf f28_l7_b) = some f28_l7_a by kernel_rfl) (L := []) (by kernel_rfl) (fun _k => trivial) (J := []) (by kernel_rfl) (fun _k => trivial) (fun _k => LrcNat.no) (fun _x _y _K => by kernel_rfl) (fun _k _x _y _K => by kernel_rfl)
noncomputable def f28_l2_b : Code := loopAt f28_b 0
noncomputable def f28_l2_g {R : Type} (k : Nat) (x : (Int × Int × Unit)) (_y : (Unit)) (K : KX R) : Option R := f28_l2 k x.1 x.2.1 (K (.exit 0) [] []) (fun z0 z1 => K (.ret) [.own 393488, .int .i64 z0] [some (.row (.int .u8) z1 true)])
noncomputable def f28_l2_d {R : Type} (k : Nat) : Lr D R := ldoor [.int .i64, .int .i64] [] (f28_l2_g k)
noncomputable def f28_l2_r {R : Type} (k : Nat) : Lrc D R := (lrcAdd 7 (f28_l7_d k) noLrc)
theorem f28_l2_d_ok {R : Type} : ∀ k, LoopOk Try.prog cx 32 0 f28_ann (f28_l2_d (R := R) k) f28_l2_b :=
  loop_ok (keep := kp) (lrc := f28_l2_r (R := R)) cxOk mixed (f28_o_ok) (show f28_ann (Am.keyOf f28_l2_b) = some f28_l2_a by kernel_rfl) (L := [f28_l7_b]) (by kernel_rfl) (fun k => ⟨(f28_l7_d_ok k).use (by kernel_rfl), trivial⟩) (J := []) (by kernel_rfl) (fun _k => trivial) (fun k => (LrcNat.add (f28_l7_d_ok k).2 LrcNat.no)) (fun _x _y _K => by kernel_rfl) (fun _k _x _y _K => by kernel_rfl)
noncomputable def f28_r {R : Type} (k : Nat) : Lrc D R := (lrcAdd 7 (f28_l7_d k) (lrcAdd 2 (f28_l2_d k) noLrc))
theorem f28_ok {R : Type} (k : Nat) {e : Dr D R} (he : FnOk Try.prog cx 28 e) : FnOk Try.prog cx 28 (f28_d (f28 k) e) :=
  he.door fun _x _y => body_ok (keep := kp) (ann := f28_ann) (lrc := f28_r (R := R) k) (N := 32) (n0 := 0) (c := [(.tmp 2, .own 1099511627776 (.int .u8))]) cxOk mixed (f28_o_ok k) (body := f28_b) (by kernel_rfl : Try.prog.funcs[28]? = some Try.f28) (by kernel_rfl) (by kernel_rfl) (by kernel_rfl) (by kernel_rfl) (of_decide_eq_true (by kernel_rfl)) (L := [f28_l2_b, f28_l7_b]) (by kernel_rfl) (⟨(f28_l2_d_ok k).use (by kernel_rfl), (f28_l7_d_ok k).use (by kernel_rfl), trivial⟩) (J := []) (by kernel_rfl) trivial ((LrcNat.add (f28_l7_d_ok k).2 (LrcNat.add (f28_l2_d_ok k).2 LrcNat.no))) (fun _K => by delta f28 f28_o; generalize @f62 R = a0; revert a0; refine id ?_; intros; kernel_rfl)

abbrev f66_T (R : Type) : Type := Int → List Int → List D2 → Bool → Int → Int → (Bool → Option R) → Option R
/-! ## 66: diorama/element.Check$1 -/
noncomputable def f66 {R : Type} (k : Nat) (a0 : Int) (a1 : List Int) (a2 : List D2) (a3 : Bool) (_a4 _a5 : Int) (K : Bool → Option R) : Option R :=
 f25 k a0 (fun _v1 _v2 v3 v4 _v5 v6 =>
  bif (!v6) then
   K true
  else
   bif decide (v3 < 0) then
    K true
   else
    bif (!(v4 == a3)) then
     K true
    else
     bif (!a3) then
      bif decide ((a2.length : Int) > 0) then
      K true
      else
      bif a3 then
      K (decide ((a1.length : Int) > 0))
      else
      K false
     else
      bif a3 then
      K (decide ((a1.length : Int) > 0))
      else
      K false)
noncomputable def f66_d {R : Type} (g : f66_T R) (e : Dr D R) : Dr D R := door [.agg [.int .i64, .list (.int .u8), .list (.named 2), .bool], .int .i64, .int .i64] [] (fun (x : ((Int × List Int × List D2 × Bool × Unit) × Int × Int × Unit)) (y : (Unit)) K => g x.1.1 x.1.2.1 x.1.2.2.1 x.1.2.2.2.1 x.2.1 x.2.2.1 (fun z0 => K ⟨.bool z0, []⟩)) e
noncomputable def f66_o {R : Type} (k : Nat) : Orc D R := (orcAdd 25 (f25_d (f25 k) noDr) noOrc)
theorem f66_o_ok {R : Type} (k : Nat) : OrcOk Try.prog cx (f66_o (R := R) k) := (OrcOk.add (f25_ok k FnOk.no) OrcOk.no)
noncomputable def f66_b : Code := bodyOf Try.f66
noncomputable def f66_ann : Nat → Option LAnn := fun _key => none
noncomputable def f66_r {R : Type} (_k : Nat) : Lrc D R := noLrc
theorem f66_ok {R : Type} (k : Nat) {e : Dr D R} (he : FnOk Try.prog cx 66 e) : FnOk Try.prog cx 66 (f66_d (f66 k) e) :=
  he.door fun _x _y => body_ok (keep := kp) (ann := f66_ann) (lrc := f66_r (R := R) k) (N := 50) (n0 := 0) (c := []) cxOk mixed (f66_o_ok k) (body := f66_b) (by kernel_rfl : Try.prog.funcs[66]? = some Try.f66) (by kernel_rfl) (by kernel_rfl) (by kernel_rfl) (by kernel_rfl) (of_decide_eq_true (by kernel_rfl)) (L := []) (by kernel_rfl) trivial (J := []) (by kernel_rfl) trivial (LrcNat.no) (fun _K => by delta f66 f66_o; generalize @f25 R = a0; revert a0; refine id ?_; intros; kernel_rfl)

abbrev f93_2_T (R : Type) : Type := Int → List Int → List D2 → Bool → Int → Int → (Bool → Int → Int → Option R) → Option R
abbrev f73_2_T (R : Type) : Type := List D2 → Int → Int → (Int → Int → Int → Option R) → Option R
abbrev f92_2_T (R : Type) : Type := List D2 → Int → Int → (Bool → Int → Int → Option R) → Option R
abbrev f69_T (R : Type) : Type := List D2 → Int → Int → (Bool → Option R) → Option R
/-! ## 93: diorama/element.some$1 -/
noncomputable def f93_2_s {R : Type} (g_f69 : Nat → f69_T R) (k : Nat) (a0 : Int) (a1 : List Int) (a2 : List D2) (a3 : Bool) (a4 a5 : Int) (K : Bool → Int → Int → Option R) : Option R :=
 f66 k a0 a1 a2 a3 a4 a5 (fun v1 =>
  bif v1 then
   K true a4 a5
  else
   g_f69 k a2 a0 (IntKind.i64.wrap (a5 + 1)) (fun v2 =>
    K v2 a4 a5))
noncomputable def f93_2_d {R : Type} (g : f93_2_T R) (e : Dr D R) : Dr D R := door [.agg [.int .i64, .list (.int .u8), .list (.named 2), .bool], .ptr 0 0, .ptr 1 0, .ptr 2 0] [.box [.fn 66 []], .box [.int .i64], .box [.int .i64]] (fun (x : ((Int × List Int × List D2 × Bool × Unit) × Unit × Unit × Unit × Unit)) (y : (((Unit) × Unit) × (Int × Unit) × (Int × Unit) × Unit)) K => g x.1.1 x.1.2.1 x.1.2.2.1 x.1.2.2.2.1 y.2.1.1 y.2.2.1.1 (fun z0 z1 z2 => K ⟨.bool z0, [some (.box [.fn 66 []]), some (.box [.int .i64 z1]), some (.box [.int .i64 z2])]⟩)) e
/-! ## 73: slices.IndexFunc[[]diorama/api.Node,diorama/api.Node] -/
noncomputable def f73_2_l2 {R : Type} (g_f93_2 : Nat → f93_2_T R) : Nat → List D2 → Int → Int → Int → Int → (Int → Int → Option R) → (Int → Int → Int → Option R) → Option R
  | 0, _, _, _, _, _, _, _ => none
  | k + 1, v1, v2, v3, v4, v5, X0, X1 =>
  bif decide (v3 < v2) then
   bif inb v3 v1.length then
    g_f93_2 k (D2.c0 (v1.getD v3.toNat zero2)) (D2.c1 (v1.getD v3.toNat zero2)) (D2.c2 (v1.getD v3.toNat zero2)) (D2.c3 (v1.getD v3.toNat zero2)) v4 v5 (fun v6 v7 v8 =>
     bif v6 then
      X1 v3 v7 v8
     else
      f73_2_l2 g_f93_2 k v1 v2 (IntKind.i64.wrap (v3 + 1)) v7 v8 X0 X1)
   else
    none
  else
   X0 v4 v5
noncomputable def f73_2_s {R : Type} (g_f93_2 : Nat → f93_2_T R) (k : Nat) (a0 : List D2) (a1 a2 : Int) (K : Int → Int → Int → Option R) : Option R :=
 f73_2_l2 g_f93_2 k a0 (a0.length : Int) 0 a1 a2 (fun v9 v10 =>
  K (-1) v9 v10) K
noncomputable def f73_2_d {R : Type} (g : f73_2_T R) (e : Dr D R) : Dr D R := door [.list (.named 2), .fn 93 [.ptr 0 0, .ptr 1 0, .ptr 2 0]] [.box [.fn 66 []], .box [.int .i64], .box [.int .i64]] (fun (x : (List D2 × (Unit × Unit × Unit × Unit) × Unit)) (y : (((Unit) × Unit) × (Int × Unit) × (Int × Unit) × Unit)) K => g x.1 y.2.1.1 y.2.2.1.1 (fun z0 z1 z2 => K ⟨.int .i64 z0, [some (.box [.fn 66 []]), some (.box [.int .i64 z1]), some (.box [.int .i64 z2])]⟩)) e
/-! ## 92: slices.ContainsFunc[[]diorama/api.Node,diorama/api.Node] -/
noncomputable def f92_2_s {R : Type} (g_f73_2 : Nat → f73_2_T R) (k : Nat) (a0 : List D2) (a1 a2 : Int) (K : Bool → Int → Int → Option R) : Option R :=
 g_f73_2 k a0 a1 a2 (fun v1 v2 v3 =>
  K (decide (v1 ≥ 0)) v2 v3)
noncomputable def f92_2_d {R : Type} (g : f92_2_T R) (e : Dr D R) : Dr D R := door [.list (.named 2), .fn 93 [.ptr 0 0, .ptr 1 0, .ptr 2 0]] [.box [.fn 66 []], .box [.int .i64], .box [.int .i64]] (fun (x : (List D2 × (Unit × Unit × Unit × Unit) × Unit)) (y : (((Unit) × Unit) × (Int × Unit) × (Int × Unit) × Unit)) K => g x.1 y.2.1.1 y.2.2.1.1 (fun z0 z1 z2 => K ⟨.bool z0, [some (.box [.fn 66 []]), some (.box [.int .i64 z1]), some (.box [.int .i64 z2])]⟩)) e
/-! ## 69: diorama/element.some -/
noncomputable def f69_s {R : Type} (g_f92_2 : Nat → f92_2_T R) (k : Nat) (a0 : List D2) (a1 a2 : Int) (K : Bool → Option R) : Option R :=
 g_f92_2 k a0 a1 a2 (fun v1 _v2 _v3 =>
  K v1)
noncomputable def f69_d {R : Type} (g : f69_T R) (e : Dr D R) : Dr D R := door [.list (.named 2), .int .i64, .int .i64, .fn 66 []] [] (fun (x : (List D2 × Int × Int × (Unit) × Unit)) (y : (Unit)) K => g x.1 x.2.1 x.2.2.1 (fun z0 => K ⟨.bool z0, []⟩)) e
noncomputable def f93_2_o {R : Type} (g_f69 : Nat → f69_T R) (k : Nat) : Orc D R := (orcAdd 69 (f69_d (g_f69 k) noDr) (orcAdd 66 (f66_d (f66 k) noDr) noOrc))
theorem f93_2_o_ok {R : Type} (g_f69 : Nat → f69_T R) (h_f69 : ∀ (k : Nat) (e : Dr D R), FnOk Try.prog cx 69 e → FnOk Try.prog cx 69 (f69_d (g_f69 k) e)) (k : Nat) : OrcOk Try.prog cx (f93_2_o (R := R) g_f69 k) := (OrcOk.add (h_f69 k _ FnOk.no) (OrcOk.add (f66_ok k FnOk.no) OrcOk.no))
noncomputable def f93_2_b : Code := bodyOf Try.f93
noncomputable def f93_2_ann : Nat → Option LAnn := fun _key => none
noncomputable def f93_2_r {R : Type} (_g_f69 : Nat → f69_T R) (_k : Nat) : Lrc D R := noLrc
noncomputable def f73_2_o {R : Type} (g_f93_2 : Nat → f93_2_T R) (k : Nat) : Orc D R := (orcAdd 93 (f93_2_d (g_f93_2 k) noDr) noOrc)
theorem f73_2_o_ok {R : Type} (g_f93_2 : Nat → f93_2_T R) (h_f93_2 : ∀ (k : Nat) (e : Dr D R), FnOk Try.prog cx 93 e → FnOk Try.prog cx 93 (f93_2_d (g_f93_2 k) e)) (k : Nat) : OrcOk Try.prog cx (f73_2_o (R := R) g_f93_2 k) := (OrcOk.add (h_f93_2 k _ FnOk.no) OrcOk.no)
noncomputable def f73_2_b : Code := bodyOf Try.f73
noncomputable def f73_2_l2_a : LAnn := ⟨⟨[], [0, 1, 7, 8], [0, 1, 2]⟩, exOf (some ⟨[], [4], [0, 1, 2]⟩) [(0, ⟨[], [], [0, 1, 2]⟩)]⟩
noncomputable def f73_2_ann : Nat → Option LAnn := fun key => bif Nat.beq key 2 then some f73_2_l2_a else none
noncomputable def f73_2_l2_b : Code := loopAt f73_2_b 0
noncomputable def f73_2_l2_g {R : Type} (g_f93_2 : Nat → f93_2_T R) (k : Nat) (x : (List D2 × (Unit × Unit × Unit × Unit) × Int × Int × Unit)) (y : (((Unit) × Unit) × (Int × Unit) × (Int × Unit) × Unit)) (K : KX R) : Option R := f73_2_l2 g_f93_2 k x.1 x.2.2.1 x.2.2.2.1 y.2.1.1 y.2.2.1.1 (fun z0 z1 => K (.exit 0) [] [some (.box [.fn 66 []]), some (.box [.int .i64 z0]), some (.box [.int .i64 z1])]) (fun z0 z1 z2 => K (.ret) [.int .i64 z0] [some (.box [.fn 66 []]), some (.box [.int .i64 z1]), some (.box [.int .i64 z2])])
noncomputable def f73_2_l2_d {R : Type} (g_f93_2 : Nat → f93_2_T R) (k : Nat) : Lr D R := ldoor [.list (.named 2), .fn 93 [.ptr 0 0, .ptr 1 0, .ptr 2 0], .int .i64, .int .i64] [some (.box [.fn 66 []]), some (.box [.int .i64]), some (.box [.int .i64])] (f73_2_l2_g g_f93_2 k)
noncomputable def f73_2_l2_r {R : Type} (_g_f93_2 : Nat → f93_2_T R) (_k : Nat) : Lrc D R := noLrc
theorem f73_2_l2_d_ok {R : Type} (g_f93_2 : Nat → f93_2_T R) (h_f93_2 : ∀ (k : Nat) (e : Dr D R), FnOk Try.prog cx 93 e → FnOk Try.prog cx 93 (f93_2_d (g_f93_2 k) e)) : ∀ k, LoopOk Try.prog cx 19 3 f73_2_ann (f73_2_l2_d (R := R) g_f93_2 k) f73_2_l2_b :=
  loop_ok (keep := kp) (lrc := f73_2_l2_r (R := R) g_f93_2) cxOk mixed (f73_2_o_ok g_f93_2 h_f93_2) (show f73_2_ann (Am.keyOf f73_2_l2_b) = some f73_2_l2_a by kernel_rfl) (L := []) (by kernel_rfl) (fun _k => trivial) (J := []) (by kernel_rfl) (fun _k => trivial) (fun _k => LrcNat.no) (fun _x _y _K => by kernel_rfl) (fun _k _x _y _K => by kernel_rfl)
noncomputable def f73_2_r {R : Type} (g_f93_2 : Nat → f93_2_T R) (k : Nat) : Lrc D R := (lrcAdd 2 (f73_2_l2_d g_f93_2 k) noLrc)
noncomputable def f92_2_o {R : Type} (g_f73_2 : Nat → f73_2_T R) (k : Nat) : Orc D R := (orcAdd 73 (f73_2_d (g_f73_2 k) noDr) noOrc)
theorem f92_2_o_ok {R : Type} (g_f73_2 : Nat → f73_2_T R) (h_f73_2 : ∀ (k : Nat) (e : Dr D R), FnOk Try.prog cx 73 e → FnOk Try.prog cx 73 (f73_2_d (g_f73_2 k) e)) (k : Nat) : OrcOk Try.prog cx (f92_2_o (R := R) g_f73_2 k) := (OrcOk.add (h_f73_2 k _ FnOk.no) OrcOk.no)
noncomputable def f92_2_b : Code := bodyOf Try.f92
noncomputable def f92_2_ann : Nat → Option LAnn := fun _key => none
noncomputable def f92_2_r {R : Type} (_g_f73_2 : Nat → f73_2_T R) (_k : Nat) : Lrc D R := noLrc
noncomputable def f69_o {R : Type} (g_f92_2 : Nat → f92_2_T R) (k : Nat) : Orc D R := (orcAdd 92 (f92_2_d (g_f92_2 k) noDr) noOrc)
theorem f69_o_ok {R : Type} (g_f92_2 : Nat → f92_2_T R) (h_f92_2 : ∀ (k : Nat) (e : Dr D R), FnOk Try.prog cx 92 e → FnOk Try.prog cx 92 (f92_2_d (g_f92_2 k) e)) (k : Nat) : OrcOk Try.prog cx (f69_o (R := R) g_f92_2 k) := (OrcOk.add (h_f92_2 k _ FnOk.no) OrcOk.no)
noncomputable def f69_b : Code := bodyOf Try.f69
noncomputable def f69_ann : Nat → Option LAnn := fun _key => none
noncomputable def f69_r {R : Type} (_g_f92_2 : Nat → f92_2_T R) (_k : Nat) : Lrc D R := noLrc
noncomputable def rec_f93_2 {R : Type} : Nat → (f93_2_T R) × (f73_2_T R) × (f92_2_T R) × (f69_T R)
  | 0 => (fun _ _ _ _ _ _ _ => none, fun _ _ _ _ => none, fun _ _ _ _ => none, fun _ _ _ _ => none)
  | k + 1 => (f93_2_s (fun _ => (rec_f93_2 (R := R) k).2.2.2) k, f73_2_s (fun _ => (rec_f93_2 (R := R) k).1) k, f92_2_s (fun _ => (rec_f93_2 (R := R) k).2.1) k, f69_s (fun _ => (rec_f93_2 (R := R) k).2.2.1) k)
theorem rec_f93_2_succ {R : Type} (k : Nat) : rec_f93_2 (R := R) (k + 1) = (f93_2_s (fun _ => (rec_f93_2 (R := R) k).2.2.2) k, f73_2_s (fun _ => (rec_f93_2 (R := R) k).1) k, f92_2_s (fun _ => (rec_f93_2 (R := R) k).2.1) k, f69_s (fun _ => (rec_f93_2 (R := R) k).2.2.1) k) := rfl
theorem rec_f93_2_ok {R : Type} : ∀ k, (∀ e : Dr D R, FnOk Try.prog cx 93 e → FnOk Try.prog cx 93 (f93_2_d (rec_f93_2 (R := R) k).1 e)) ∧ (∀ e : Dr D R, FnOk Try.prog cx 73 e → FnOk Try.prog cx 73 (f73_2_d (rec_f93_2 (R := R) k).2.1 e)) ∧ (∀ e : Dr D R, FnOk Try.prog cx 92 e → FnOk Try.prog cx 92 (f92_2_d (rec_f93_2 (R := R) k).2.2.1 e)) ∧ (∀ e : Dr D R, FnOk Try.prog cx 69 e → FnOk Try.prog cx 69 (f69_d (rec_f93_2 (R := R) k).2.2.2 e))
  | 0 => ⟨fun e he => he.door0 fun x y K => rfl, fun e he => he.door0 fun x y K => rfl, fun e he => he.door0 fun x y K => rfl, fun e he => he.door0 fun x y _K => rfl⟩
  | k + 1 => by
    rw [rec_f93_2_succ]
    exact ⟨fun e he => he.door fun x y => body_ok (keep := kp) (ann := f93_2_ann) (lrc := f93_2_r (R := R) (fun _ => (rec_f93_2 (R := R) k).2.2.2) k) (N := 21) (n0 := 3) (c := []) cxOk mixed (f93_2_o_ok (fun _ => (rec_f93_2 (R := R) k).2.2.2) (fun _ e he => (rec_f93_2_ok (R := R) k).2.2.2 e he) k) (body := f93_2_b) (by kernel_rfl : Try.prog.funcs[93]? = some Try.f93) (by kernel_rfl) (by kernel_rfl) (by kernel_rfl) (by kernel_rfl) (of_decide_eq_true (by kernel_rfl)) (L := []) (by kernel_rfl) trivial (J := []) (by kernel_rfl) trivial (LrcNat.no) (fun _K => by delta f93_2_s f93_2_o; generalize @f66 R = a0; revert a0; refine id ?_; intros; kernel_rfl),
      fun e he => he.door fun x y => body_ok (keep := kp) (ann := f73_2_ann) (lrc := f73_2_r (R := R) (fun _ => (rec_f93_2 (R := R) k).1) k) (N := 19) (n0 := 3) (c := []) cxOk mixed (f73_2_o_ok (fun _ => (rec_f93_2 (R := R) k).1) (fun _ e he => (rec_f93_2_ok (R := R) k).1 e he) k) (body := f73_2_b) (by kernel_rfl : Try.prog.funcs[73]? = some Try.f73) (by kernel_rfl) (by kernel_rfl) (by kernel_rfl) (by kernel_rfl) (of_decide_eq_true (by kernel_rfl)) (L := [f73_2_l2_b]) (by kernel_rfl) (⟨(f73_2_l2_d_ok (fun _ => (rec_f93_2 (R := R) k).1) (fun _ e he => (rec_f93_2_ok (R := R) k).1 e he) k).use (by kernel_rfl), trivial⟩) (J := []) (by kernel_rfl) trivial ((LrcNat.add (f73_2_l2_d_ok (fun _ => (rec_f93_2 (R := R) k).1) (fun _ e he => (rec_f93_2_ok (R := R) k).1 e he) k).2 LrcNat.no)) (fun _K => by kernel_rfl),
      fun e he => he.door fun x y => body_ok (keep := kp) (ann := f92_2_ann) (lrc := f92_2_r (R := R) (fun _ => (rec_f93_2 (R := R) k).2.1) k) (N := 9) (n0 := 3) (c := []) cxOk mixed (f92_2_o_ok (fun _ => (rec_f93_2 (R := R) k).2.1) (fun _ e he => (rec_f93_2_ok (R := R) k).2.1 e he) k) (body := f92_2_b) (by kernel_rfl : Try.prog.funcs[92]? = some Try.f92) (by kernel_rfl) (by kernel_rfl) (by kernel_rfl) (by kernel_rfl) (of_decide_eq_true (by kernel_rfl)) (L := []) (by kernel_rfl) trivial (J := []) (by kernel_rfl) trivial (LrcNat.no) (fun _K => by kernel_rfl),
      fun e he => he.door fun _x _y => body_ok (keep := kp) (ann := f69_ann) (lrc := f69_r (R := R) (fun _ => (rec_f93_2 (R := R) k).2.2.1) k) (N := 12) (n0 := 0) (c := []) cxOk mixed (f69_o_ok (fun _ => (rec_f93_2 (R := R) k).2.2.1) (fun _ e he => (rec_f93_2_ok (R := R) k).2.2.1 e he) k) (body := f69_b) (by kernel_rfl : Try.prog.funcs[69]? = some Try.f69) (by kernel_rfl) (by kernel_rfl) (by kernel_rfl) (by kernel_rfl) (of_decide_eq_true (by kernel_rfl)) (L := []) (by kernel_rfl) trivial (J := []) (by kernel_rfl) trivial (LrcNat.no) (fun _K => by kernel_rfl)⟩
noncomputable def f93_2 {R : Type} (k : Nat) (a0 : Int) (a1 : List Int) (a2 : List D2) (a3 : Bool) (a4 a5 : Int) (K : Bool → Int → Int → Option R) : Option R := (rec_f93_2 (R := R) k).1 a0 a1 a2 a3 a4 a5 K
theorem f93_2_ok {R : Type} (k : Nat) {e : Dr D R} (he : FnOk Try.prog cx 93 e) : FnOk Try.prog cx 93 (f93_2_d (f93_2 k) e) := (rec_f93_2_ok (R := R) k).1 e he
noncomputable def f73_2 {R : Type} (k : Nat) (a0 : List D2) (a1 a2 : Int) (K : Int → Int → Int → Option R) : Option R := (rec_f93_2 (R := R) k).2.1 a0 a1 a2 K
theorem f73_2_ok {R : Type} (k : Nat) {e : Dr D R} (he : FnOk Try.prog cx 73 e) : FnOk Try.prog cx 73 (f73_2_d (f73_2 k) e) := (rec_f93_2_ok (R := R) k).2.1 e he
noncomputable def f92_2 {R : Type} (k : Nat) (a0 : List D2) (a1 a2 : Int) (K : Bool → Int → Int → Option R) : Option R := (rec_f93_2 (R := R) k).2.2.1 a0 a1 a2 K
theorem f92_2_ok {R : Type} (k : Nat) {e : Dr D R} (he : FnOk Try.prog cx 92 e) : FnOk Try.prog cx 92 (f92_2_d (f92_2 k) e) := (rec_f93_2_ok (R := R) k).2.2.1 e he
noncomputable def f69 {R : Type} (k : Nat) (a0 : List D2) (a1 a2 : Int) (K : Bool → Option R) : Option R := (rec_f93_2 (R := R) k).2.2.2 a0 a1 a2 K
theorem f69_ok {R : Type} (k : Nat) {e : Dr D R} (he : FnOk Try.prog cx 69 e) : FnOk Try.prog cx 69 (f69_d (f69 k) e) := (rec_f93_2_ok (R := R) k).2.2.2 e he
theorem f93_2_step {R : Type} (k : Nat) (a0 : Int) (a1 : List Int) (a2 : List D2) (a3 : Bool) (a4 a5 : Int) (K : Bool → Int → Int → Option R) : f93_2 (k + 1) a0 a1 a2 a3 a4 a5 K = f93_2_s (fun _ => f69 (R := R) k) k a0 a1 a2 a3 a4 a5 K := rfl
theorem f73_2_step {R : Type} (k : Nat) (a0 : List D2) (a1 a2 : Int) (K : Int → Int → Int → Option R) : f73_2 (k + 1) a0 a1 a2 K = f73_2_s (fun _ => f93_2 (R := R) k) k a0 a1 a2 K := rfl
theorem f92_2_step {R : Type} (k : Nat) (a0 : List D2) (a1 a2 : Int) (K : Bool → Int → Int → Option R) : f92_2 (k + 1) a0 a1 a2 K = f92_2_s (fun _ => f73_2 (R := R) k) k a0 a1 a2 K := rfl
theorem f69_step {R : Type} (k : Nat) (a0 : List D2) (a1 a2 : Int) (K : Bool → Option R) : f69 (k + 1) a0 a1 a2 K = f69_s (fun _ => f92_2 (R := R) k) k a0 a1 a2 K := rfl

abbrev f67_T (R : Type) : Type := Int → List Int → List D2 → Bool → Int → Int → (Bool → Option R) → Option R
/-! ## 67: diorama/element.Check$2 -/
noncomputable def f67 {R : Type} (k : Nat) (a0 : Int) (_a1 : List Int) (_a2 : List D2) (_a3 : Bool) (a4 _a5 : Int) (K : Bool → Option R) : Option R :=
 f25 k a0 (fun v1 v2 v3 v4 v5 _v6 =>
  f68 k v1 v2 v3 v4 v5 a4 (fun v7 =>
   K (!v7)))
noncomputable def f67_d {R : Type} (g : f67_T R) (e : Dr D R) : Dr D R := door [.agg [.int .i64, .list (.int .u8), .list (.named 2), .bool], .int .i64, .int .i64] [] (fun (x : ((Int × List Int × List D2 × Bool × Unit) × Int × Int × Unit)) (y : (Unit)) K => g x.1.1 x.1.2.1 x.1.2.2.1 x.1.2.2.2.1 x.2.1 x.2.2.1 (fun z0 => K ⟨.bool z0, []⟩)) e
noncomputable def f67_o {R : Type} (k : Nat) : Orc D R := (orcAdd 68 (f68_d (f68 k) noDr) (orcAdd 25 (f25_d (f25 k) noDr) noOrc))
theorem f67_o_ok {R : Type} (k : Nat) : OrcOk Try.prog cx (f67_o (R := R) k) := (OrcOk.add (f68_ok k FnOk.no) (OrcOk.add (f25_ok k FnOk.no) OrcOk.no))
noncomputable def f67_b : Code := bodyOf Try.f67
noncomputable def f67_ann : Nat → Option LAnn := fun _key => none
noncomputable def f67_r {R : Type} (_k : Nat) : Lrc D R := noLrc
theorem f67_ok {R : Type} (k : Nat) {e : Dr D R} (he : FnOk Try.prog cx 67 e) : FnOk Try.prog cx 67 (f67_d (f67 k) e) :=
  he.door fun _x _y => body_ok (keep := kp) (ann := f67_ann) (lrc := f67_r (R := R) k) (N := 19) (n0 := 0) (c := []) cxOk mixed (f67_o_ok k) (body := f67_b) (by kernel_rfl : Try.prog.funcs[67]? = some Try.f67) (by kernel_rfl) (by kernel_rfl) (by kernel_rfl) (by kernel_rfl) (of_decide_eq_true (by kernel_rfl)) (L := []) (by kernel_rfl) trivial (J := []) (by kernel_rfl) trivial (LrcNat.no) (fun _K => by delta f67 f67_o; generalize @f25 R = a0; generalize @f68 R = a1; revert a0 a1; refine id ?_; intros; kernel_rfl)

abbrev f93_4_T (R : Type) : Type := Int → List Int → List D2 → Bool → Int → Int → (Bool → Int → Int → Option R) → Option R
abbrev f73_4_T (R : Type) : Type := List D2 → Int → Int → (Int → Int → Int → Option R) → Option R
abbrev f92_4_T (R : Type) : Type := List D2 → Int → Int → (Bool → Int → Int → Option R) → Option R
abbrev f69_2_T (R : Type) : Type := List D2 → Int → Int → (Bool → Option R) → Option R
/-! ## 93: diorama/element.some$1 -/
noncomputable def f93_4_s {R : Type} (g_f69_2 : Nat → f69_2_T R) (k : Nat) (a0 : Int) (a1 : List Int) (a2 : List D2) (a3 : Bool) (a4 a5 : Int) (K : Bool → Int → Int → Option R) : Option R :=
 f67 k a0 a1 a2 a3 a4 a5 (fun v1 =>
  bif v1 then
   K true a4 a5
  else
   g_f69_2 k a2 a0 (IntKind.i64.wrap (a5 + 1)) (fun v2 =>
    K v2 a4 a5))
noncomputable def f93_4_d {R : Type} (g : f93_4_T R) (e : Dr D R) : Dr D R := door [.agg [.int .i64, .list (.int .u8), .list (.named 2), .bool], .ptr 0 0, .ptr 1 0, .ptr 2 0] [.box [.fn 67 []], .box [.int .i64], .box [.int .i64]] (fun (x : ((Int × List Int × List D2 × Bool × Unit) × Unit × Unit × Unit × Unit)) (y : (((Unit) × Unit) × (Int × Unit) × (Int × Unit) × Unit)) K => g x.1.1 x.1.2.1 x.1.2.2.1 x.1.2.2.2.1 y.2.1.1 y.2.2.1.1 (fun z0 z1 z2 => K ⟨.bool z0, [some (.box [.fn 67 []]), some (.box [.int .i64 z1]), some (.box [.int .i64 z2])]⟩)) e
/-! ## 73: slices.IndexFunc[[]diorama/api.Node,diorama/api.Node] -/
noncomputable def f73_4_l2 {R : Type} (g_f93_4 : Nat → f93_4_T R) : Nat → List D2 → Int → Int → Int → Int → (Int → Int → Option R) → (Int → Int → Int → Option R) → Option R
  | 0, _, _, _, _, _, _, _ => none
  | k + 1, v1, v2, v3, v4, v5, X0, X1 =>
  bif decide (v3 < v2) then
   bif inb v3 v1.length then
    g_f93_4 k (D2.c0 (v1.getD v3.toNat zero2)) (D2.c1 (v1.getD v3.toNat zero2)) (D2.c2 (v1.getD v3.toNat zero2)) (D2.c3 (v1.getD v3.toNat zero2)) v4 v5 (fun v6 v7 v8 =>
     bif v6 then
      X1 v3 v7 v8
     else
      f73_4_l2 g_f93_4 k v1 v2 (IntKind.i64.wrap (v3 + 1)) v7 v8 X0 X1)
   else
    none
  else
   X0 v4 v5
noncomputable def f73_4_s {R : Type} (g_f93_4 : Nat → f93_4_T R) (k : Nat) (a0 : List D2) (a1 a2 : Int) (K : Int → Int → Int → Option R) : Option R :=
 f73_4_l2 g_f93_4 k a0 (a0.length : Int) 0 a1 a2 (fun v9 v10 =>
  K (-1) v9 v10) K
noncomputable def f73_4_d {R : Type} (g : f73_4_T R) (e : Dr D R) : Dr D R := door [.list (.named 2), .fn 93 [.ptr 0 0, .ptr 1 0, .ptr 2 0]] [.box [.fn 67 []], .box [.int .i64], .box [.int .i64]] (fun (x : (List D2 × (Unit × Unit × Unit × Unit) × Unit)) (y : (((Unit) × Unit) × (Int × Unit) × (Int × Unit) × Unit)) K => g x.1 y.2.1.1 y.2.2.1.1 (fun z0 z1 z2 => K ⟨.int .i64 z0, [some (.box [.fn 67 []]), some (.box [.int .i64 z1]), some (.box [.int .i64 z2])]⟩)) e
/-! ## 92: slices.ContainsFunc[[]diorama/api.Node,diorama/api.Node] -/
noncomputable def f92_4_s {R : Type} (g_f73_4 : Nat → f73_4_T R) (k : Nat) (a0 : List D2) (a1 a2 : Int) (K : Bool → Int → Int → Option R) : Option R :=
 g_f73_4 k a0 a1 a2 (fun v1 v2 v3 =>
  K (decide (v1 ≥ 0)) v2 v3)
noncomputable def f92_4_d {R : Type} (g : f92_4_T R) (e : Dr D R) : Dr D R := door [.list (.named 2), .fn 93 [.ptr 0 0, .ptr 1 0, .ptr 2 0]] [.box [.fn 67 []], .box [.int .i64], .box [.int .i64]] (fun (x : (List D2 × (Unit × Unit × Unit × Unit) × Unit)) (y : (((Unit) × Unit) × (Int × Unit) × (Int × Unit) × Unit)) K => g x.1 y.2.1.1 y.2.2.1.1 (fun z0 z1 z2 => K ⟨.bool z0, [some (.box [.fn 67 []]), some (.box [.int .i64 z1]), some (.box [.int .i64 z2])]⟩)) e
/-! ## 69: diorama/element.some -/
noncomputable def f69_2_s {R : Type} (g_f92_4 : Nat → f92_4_T R) (k : Nat) (a0 : List D2) (a1 a2 : Int) (K : Bool → Option R) : Option R :=
 g_f92_4 k a0 a1 a2 (fun v1 _v2 _v3 =>
  K v1)
noncomputable def f69_2_d {R : Type} (g : f69_2_T R) (e : Dr D R) : Dr D R := door [.list (.named 2), .int .i64, .int .i64, .fn 67 []] [] (fun (x : (List D2 × Int × Int × (Unit) × Unit)) (y : (Unit)) K => g x.1 x.2.1 x.2.2.1 (fun z0 => K ⟨.bool z0, []⟩)) e
noncomputable def f93_4_o {R : Type} (g_f69_2 : Nat → f69_2_T R) (k : Nat) : Orc D R := (orcAdd 69 (f69_2_d (g_f69_2 k) noDr) (orcAdd 67 (f67_d (f67 k) noDr) noOrc))
theorem f93_4_o_ok {R : Type} (g_f69_2 : Nat → f69_2_T R) (h_f69_2 : ∀ (k : Nat) (e : Dr D R), FnOk Try.prog cx 69 e → FnOk Try.prog cx 69 (f69_2_d (g_f69_2 k) e)) (k : Nat) : OrcOk Try.prog cx (f93_4_o (R := R) g_f69_2 k) := (OrcOk.add (h_f69_2 k _ FnOk.no) (OrcOk.add (f67_ok k FnOk.no) OrcOk.no))
noncomputable def f93_4_b : Code := bodyOf Try.f93
noncomputable def f93_4_ann : Nat → Option LAnn := fun _key => none
noncomputable def f93_4_r {R : Type} (_g_f69_2 : Nat → f69_2_T R) (_k : Nat) : Lrc D R := noLrc
noncomputable def f73_4_o {R : Type} (g_f93_4 : Nat → f93_4_T R) (k : Nat) : Orc D R := (orcAdd 93 (f93_4_d (g_f93_4 k) noDr) noOrc)
theorem f73_4_o_ok {R : Type} (g_f93_4 : Nat → f93_4_T R) (h_f93_4 : ∀ (k : Nat) (e : Dr D R), FnOk Try.prog cx 93 e → FnOk Try.prog cx 93 (f93_4_d (g_f93_4 k) e)) (k : Nat) : OrcOk Try.prog cx (f73_4_o (R := R) g_f93_4 k) := (OrcOk.add (h_f93_4 k _ FnOk.no) OrcOk.no)
noncomputable def f73_4_b : Code := bodyOf Try.f73
noncomputable def f73_4_l2_a : LAnn := ⟨⟨[], [0, 1, 7, 8], [0, 1, 2]⟩, exOf (some ⟨[], [4], [0, 1, 2]⟩) [(0, ⟨[], [], [0, 1, 2]⟩)]⟩
noncomputable def f73_4_ann : Nat → Option LAnn := fun key => bif Nat.beq key 2 then some f73_4_l2_a else none
noncomputable def f73_4_l2_b : Code := loopAt f73_4_b 0
noncomputable def f73_4_l2_g {R : Type} (g_f93_4 : Nat → f93_4_T R) (k : Nat) (x : (List D2 × (Unit × Unit × Unit × Unit) × Int × Int × Unit)) (y : (((Unit) × Unit) × (Int × Unit) × (Int × Unit) × Unit)) (K : KX R) : Option R := f73_4_l2 g_f93_4 k x.1 x.2.2.1 x.2.2.2.1 y.2.1.1 y.2.2.1.1 (fun z0 z1 => K (.exit 0) [] [some (.box [.fn 67 []]), some (.box [.int .i64 z0]), some (.box [.int .i64 z1])]) (fun z0 z1 z2 => K (.ret) [.int .i64 z0] [some (.box [.fn 67 []]), some (.box [.int .i64 z1]), some (.box [.int .i64 z2])])
noncomputable def f73_4_l2_d {R : Type} (g_f93_4 : Nat → f93_4_T R) (k : Nat) : Lr D R := ldoor [.list (.named 2), .fn 93 [.ptr 0 0, .ptr 1 0, .ptr 2 0], .int .i64, .int .i64] [some (.box [.fn 67 []]), some (.box [.int .i64]), some (.box [.int .i64])] (f73_4_l2_g g_f93_4 k)
noncomputable def f73_4_l2_r {R : Type} (_g_f93_4 : Nat → f93_4_T R) (_k : Nat) : Lrc D R := noLrc
theorem f73_4_l2_d_ok {R : Type} (g_f93_4 : Nat → f93_4_T R) (h_f93_4 : ∀ (k : Nat) (e : Dr D R), FnOk Try.prog cx 93 e → FnOk Try.prog cx 93 (f93_4_d (g_f93_4 k) e)) : ∀ k, LoopOk Try.prog cx 19 3 f73_4_ann (f73_4_l2_d (R := R) g_f93_4 k) f73_4_l2_b :=
  loop_ok (keep := kp) (lrc := f73_4_l2_r (R := R) g_f93_4) cxOk mixed (f73_4_o_ok g_f93_4 h_f93_4) (show f73_4_ann (Am.keyOf f73_4_l2_b) = some f73_4_l2_a by kernel_rfl) (L := []) (by kernel_rfl) (fun _k => trivial) (J := []) (by kernel_rfl) (fun _k => trivial) (fun _k => LrcNat.no) (fun _x _y _K => by kernel_rfl) (fun _k _x _y _K => by kernel_rfl)
noncomputable def f73_4_r {R : Type} (g_f93_4 : Nat → f93_4_T R) (k : Nat) : Lrc D R := (lrcAdd 2 (f73_4_l2_d g_f93_4 k) noLrc)
noncomputable def f92_4_o {R : Type} (g_f73_4 : Nat → f73_4_T R) (k : Nat) : Orc D R := (orcAdd 73 (f73_4_d (g_f73_4 k) noDr) noOrc)
theorem f92_4_o_ok {R : Type} (g_f73_4 : Nat → f73_4_T R) (h_f73_4 : ∀ (k : Nat) (e : Dr D R), FnOk Try.prog cx 73 e → FnOk Try.prog cx 73 (f73_4_d (g_f73_4 k) e)) (k : Nat) : OrcOk Try.prog cx (f92_4_o (R := R) g_f73_4 k) := (OrcOk.add (h_f73_4 k _ FnOk.no) OrcOk.no)
noncomputable def f92_4_b : Code := bodyOf Try.f92
noncomputable def f92_4_ann : Nat → Option LAnn := fun _key => none
noncomputable def f92_4_r {R : Type} (_g_f73_4 : Nat → f73_4_T R) (_k : Nat) : Lrc D R := noLrc
noncomputable def f69_2_o {R : Type} (g_f92_4 : Nat → f92_4_T R) (k : Nat) : Orc D R := (orcAdd 92 (f92_4_d (g_f92_4 k) noDr) noOrc)
theorem f69_2_o_ok {R : Type} (g_f92_4 : Nat → f92_4_T R) (h_f92_4 : ∀ (k : Nat) (e : Dr D R), FnOk Try.prog cx 92 e → FnOk Try.prog cx 92 (f92_4_d (g_f92_4 k) e)) (k : Nat) : OrcOk Try.prog cx (f69_2_o (R := R) g_f92_4 k) := (OrcOk.add (h_f92_4 k _ FnOk.no) OrcOk.no)
noncomputable def f69_2_b : Code := bodyOf Try.f69
noncomputable def f69_2_ann : Nat → Option LAnn := fun _key => none
noncomputable def f69_2_r {R : Type} (_g_f92_4 : Nat → f92_4_T R) (_k : Nat) : Lrc D R := noLrc
noncomputable def rec_f93_4 {R : Type} : Nat → (f93_4_T R) × (f73_4_T R) × (f92_4_T R) × (f69_2_T R)
  | 0 => (fun _ _ _ _ _ _ _ => none, fun _ _ _ _ => none, fun _ _ _ _ => none, fun _ _ _ _ => none)
  | k + 1 => (f93_4_s (fun _ => (rec_f93_4 (R := R) k).2.2.2) k, f73_4_s (fun _ => (rec_f93_4 (R := R) k).1) k, f92_4_s (fun _ => (rec_f93_4 (R := R) k).2.1) k, f69_2_s (fun _ => (rec_f93_4 (R := R) k).2.2.1) k)
theorem rec_f93_4_succ {R : Type} (k : Nat) : rec_f93_4 (R := R) (k + 1) = (f93_4_s (fun _ => (rec_f93_4 (R := R) k).2.2.2) k, f73_4_s (fun _ => (rec_f93_4 (R := R) k).1) k, f92_4_s (fun _ => (rec_f93_4 (R := R) k).2.1) k, f69_2_s (fun _ => (rec_f93_4 (R := R) k).2.2.1) k) := rfl
theorem rec_f93_4_ok {R : Type} : ∀ k, (∀ e : Dr D R, FnOk Try.prog cx 93 e → FnOk Try.prog cx 93 (f93_4_d (rec_f93_4 (R := R) k).1 e)) ∧ (∀ e : Dr D R, FnOk Try.prog cx 73 e → FnOk Try.prog cx 73 (f73_4_d (rec_f93_4 (R := R) k).2.1 e)) ∧ (∀ e : Dr D R, FnOk Try.prog cx 92 e → FnOk Try.prog cx 92 (f92_4_d (rec_f93_4 (R := R) k).2.2.1 e)) ∧ (∀ e : Dr D R, FnOk Try.prog cx 69 e → FnOk Try.prog cx 69 (f69_2_d (rec_f93_4 (R := R) k).2.2.2 e))
  | 0 => ⟨fun e he => he.door0 fun x y K => rfl, fun e he => he.door0 fun x y K => rfl, fun e he => he.door0 fun x y K => rfl, fun e he => he.door0 fun x y _K => rfl⟩
  | k + 1 => by
    rw [rec_f93_4_succ]
    exact ⟨fun e he => he.door fun x y => body_ok (keep := kp) (ann := f93_4_ann) (lrc := f93_4_r (R := R) (fun _ => (rec_f93_4 (R := R) k).2.2.2) k) (N := 21) (n0 := 3) (c := []) cxOk mixed (f93_4_o_ok (fun _ => (rec_f93_4 (R := R) k).2.2.2) (fun _ e he => (rec_f93_4_ok (R := R) k).2.2.2 e he) k) (body := f93_4_b) (by kernel_rfl : Try.prog.funcs[93]? = some Try.f93) (by kernel_rfl) (by kernel_rfl) (by kernel_rfl) (by kernel_rfl) (of_decide_eq_true (by kernel_rfl)) (L := []) (by kernel_rfl) trivial (J := []) (by kernel_rfl) trivial (LrcNat.no) (fun _K => by delta f93_4_s f93_4_o; generalize @f67 R = a0; revert a0; refine id ?_; intros; kernel_rfl),
      fun e he => he.door fun x y => body_ok (keep := kp) (ann := f73_4_ann) (lrc := f73_4_r (R := R) (fun _ => (rec_f93_4 (R := R) k).1) k) (N := 19) (n0 := 3) (c := []) cxOk mixed (f73_4_o_ok (fun _ => (rec_f93_4 (R := R) k).1) (fun _ e he => (rec_f93_4_ok (R := R) k).1 e he) k) (body := f73_4_b) (by kernel_rfl : Try.prog.funcs[73]? = some Try.f73) (by kernel_rfl) (by kernel_rfl) (by kernel_rfl) (by kernel_rfl) (of_decide_eq_true (by kernel_rfl)) (L := [f73_4_l2_b]) (by kernel_rfl) (⟨(f73_4_l2_d_ok (fun _ => (rec_f93_4 (R := R) k).1) (fun _ e he => (rec_f93_4_ok (R := R) k).1 e he) k).use (by kernel_rfl), trivial⟩) (J := []) (by kernel_rfl) trivial ((LrcNat.add (f73_4_l2_d_ok (fun _ => (rec_f93_4 (R := R) k).1) (fun _ e he => (rec_f93_4_ok (R := R) k).1 e he) k).2 LrcNat.no)) (fun _K => by kernel_rfl),
      fun e he => he.door fun x y => body_ok (keep := kp) (ann := f92_4_ann) (lrc := f92_4_r (R := R) (fun _ => (rec_f93_4 (R := R) k).2.1) k) (N := 9) (n0 := 3) (c := []) cxOk mixed (f92_4_o_ok (fun _ => (rec_f93_4 (R := R) k).2.1) (fun _ e he => (rec_f93_4_ok (R := R) k).2.1 e he) k) (body := f92_4_b) (by kernel_rfl : Try.prog.funcs[92]? = some Try.f92) (by kernel_rfl) (by kernel_rfl) (by kernel_rfl) (by kernel_rfl) (of_decide_eq_true (by kernel_rfl)) (L := []) (by kernel_rfl) trivial (J := []) (by kernel_rfl) trivial (LrcNat.no) (fun _K => by kernel_rfl),
      fun e he => he.door fun _x _y => body_ok (keep := kp) (ann := f69_2_ann) (lrc := f69_2_r (R := R) (fun _ => (rec_f93_4 (R := R) k).2.2.1) k) (N := 12) (n0 := 0) (c := []) cxOk mixed (f69_2_o_ok (fun _ => (rec_f93_4 (R := R) k).2.2.1) (fun _ e he => (rec_f93_4_ok (R := R) k).2.2.1 e he) k) (body := f69_2_b) (by kernel_rfl : Try.prog.funcs[69]? = some Try.f69) (by kernel_rfl) (by kernel_rfl) (by kernel_rfl) (by kernel_rfl) (of_decide_eq_true (by kernel_rfl)) (L := []) (by kernel_rfl) trivial (J := []) (by kernel_rfl) trivial (LrcNat.no) (fun _K => by kernel_rfl)⟩
noncomputable def f93_4 {R : Type} (k : Nat) (a0 : Int) (a1 : List Int) (a2 : List D2) (a3 : Bool) (a4 a5 : Int) (K : Bool → Int → Int → Option R) : Option R := (rec_f93_4 (R := R) k).1 a0 a1 a2 a3 a4 a5 K
theorem f93_4_ok {R : Type} (k : Nat) {e : Dr D R} (he : FnOk Try.prog cx 93 e) : FnOk Try.prog cx 93 (f93_4_d (f93_4 k) e) := (rec_f93_4_ok (R := R) k).1 e he
noncomputable def f73_4 {R : Type} (k : Nat) (a0 : List D2) (a1 a2 : Int) (K : Int → Int → Int → Option R) : Option R := (rec_f93_4 (R := R) k).2.1 a0 a1 a2 K
theorem f73_4_ok {R : Type} (k : Nat) {e : Dr D R} (he : FnOk Try.prog cx 73 e) : FnOk Try.prog cx 73 (f73_4_d (f73_4 k) e) := (rec_f93_4_ok (R := R) k).2.1 e he
noncomputable def f92_4 {R : Type} (k : Nat) (a0 : List D2) (a1 a2 : Int) (K : Bool → Int → Int → Option R) : Option R := (rec_f93_4 (R := R) k).2.2.1 a0 a1 a2 K
theorem f92_4_ok {R : Type} (k : Nat) {e : Dr D R} (he : FnOk Try.prog cx 92 e) : FnOk Try.prog cx 92 (f92_4_d (f92_4 k) e) := (rec_f93_4_ok (R := R) k).2.2.1 e he
noncomputable def f69_2 {R : Type} (k : Nat) (a0 : List D2) (a1 a2 : Int) (K : Bool → Option R) : Option R := (rec_f93_4 (R := R) k).2.2.2 a0 a1 a2 K
theorem f69_2_ok {R : Type} (k : Nat) {e : Dr D R} (he : FnOk Try.prog cx 69 e) : FnOk Try.prog cx 69 (f69_2_d (f69_2 k) e) := (rec_f93_4_ok (R := R) k).2.2.2 e he
theorem f93_4_step {R : Type} (k : Nat) (a0 : Int) (a1 : List Int) (a2 : List D2) (a3 : Bool) (a4 a5 : Int) (K : Bool → Int → Int → Option R) : f93_4 (k + 1) a0 a1 a2 a3 a4 a5 K = f93_4_s (fun _ => f69_2 (R := R) k) k a0 a1 a2 a3 a4 a5 K := rfl
theorem f73_4_step {R : Type} (k : Nat) (a0 : List D2) (a1 a2 : Int) (K : Int → Int → Int → Option R) : f73_4 (k + 1) a0 a1 a2 K = f73_4_s (fun _ => f93_4 (R := R) k) k a0 a1 a2 K := rfl
theorem f92_4_step {R : Type} (k : Nat) (a0 : List D2) (a1 a2 : Int) (K : Bool → Int → Int → Option R) : f92_4 (k + 1) a0 a1 a2 K = f92_4_s (fun _ => f73_4 (R := R) k) k a0 a1 a2 K := rfl
theorem f69_2_step {R : Type} (k : Nat) (a0 : List D2) (a1 a2 : Int) (K : Bool → Option R) : f69_2 (k + 1) a0 a1 a2 K = f69_2_s (fun _ => f92_4 (R := R) k) k a0 a1 a2 K := rfl

abbrev f70_T (R : Type) : Type := Int → List Int → List D2 → Bool → Int → Int → (Bool → Option R) → Option R
/-! ## 70: diorama/element.Check$3 -/
noncomputable def f70 {R : Type} (_k : Nat) (_a0 : Int) (_a1 : List Int) (_a2 : List D2) (_a3 : Bool) (_a4 a5 : Int) (K : Bool → Option R) : Option R :=
 K (decide (a5 > 8))
noncomputable def f70_d {R : Type} (g : f70_T R) (e : Dr D R) : Dr D R := door [.agg [.int .i64, .list (.int .u8), .list (.named 2), .bool], .int .i64, .int .i64] [] (fun (x : ((Int × List Int × List D2 × Bool × Unit) × Int × Int × Unit)) (y : (Unit)) K => g x.1.1 x.1.2.1 x.1.2.2.1 x.1.2.2.2.1 x.2.1 x.2.2.1 (fun z0 => K ⟨.bool z0, []⟩)) e
noncomputable def f70_o {R : Type} (_k : Nat) : Orc D R := noOrc
theorem f70_o_ok {R : Type} (k : Nat) : OrcOk Try.prog cx (f70_o (R := R) k) := OrcOk.no
noncomputable def f70_b : Code := bodyOf Try.f70
noncomputable def f70_ann : Nat → Option LAnn := fun _key => none
noncomputable def f70_r {R : Type} (_k : Nat) : Lrc D R := noLrc
theorem f70_ok {R : Type} (k : Nat) {e : Dr D R} (he : FnOk Try.prog cx 70 e) : FnOk Try.prog cx 70 (f70_d (f70 k) e) :=
  he.door fun _x _y => body_ok (keep := kp) (ann := f70_ann) (lrc := f70_r (R := R) k) (N := 9) (n0 := 0) (c := []) cxOk mixed (f70_o_ok k) (body := f70_b) (by kernel_rfl : Try.prog.funcs[70]? = some Try.f70) (by kernel_rfl) (by kernel_rfl) (by kernel_rfl) (by kernel_rfl) (of_decide_eq_true (by kernel_rfl)) (L := []) (by kernel_rfl) trivial (J := []) (by kernel_rfl) trivial (LrcNat.no) (fun _K => by kernel_rfl)


end Go.Proofs.Ytklhjegfkpmdoaa

/-! What the functions do, as plain functions; and that they do. -/
namespace Go.Proofs.Ytklhjegfkpmdoaa
open Go Go.Am
abbrev f93_6_T (R : Type) : Type := Int → List Int → List D2 → Bool → Int → Int → (Bool → Int → Int → Option R) → Option R
abbrev f73_6_T (R : Type) : Type := List D2 → Int → Int → (Int → Int → Int → Option R) → Option R
abbrev f92_6_T (R : Type) : Type := List D2 → Int → Int → (Bool → Int → Int → Option R) → Option R
abbrev f69_3_T (R : Type) : Type := List D2 → Int → Int → (Bool → Option R) → Option R
/-! ## 93: diorama/element.some$1 -/
noncomputable def f93_6_s {R : Type} (g_f69_3 : Nat → f69_3_T R) (k : Nat) (a0 : Int) (a1 : List Int) (a2 : List D2) (a3 : Bool) (a4 a5 : Int) (K : Bool → Int → Int → Option R) : Option R :=
 f70 k a0 a1 a2 a3 a4 a5 (fun v1 =>
  bif v1 then
   K true a4 a5
  else
   g_f69_3 k a2 a0 (IntKind.i64.wrap (a5 + 1)) (fun v2 =>
    K v2 a4 a5))
noncomputable def f93_6_d {R : Type} (g : f93_6_T R) (e : Dr D R) : Dr D R := door [.agg [.int .i64, .list (.int .u8), .list (.named 2), .bool], .ptr 0 0, .ptr 1 0, .ptr 2 0] [.box [.fn 70 []], .box [.int .i64], .box [.int .i64]] (fun (x : ((Int × List Int × List D2 × Bool × Unit) × Unit × Unit × Unit × Unit)) (y : (((Unit) × Unit) × (Int × Unit) × (Int × Unit) × Unit)) K => g x.1.1 x.1.2.1 x.1.2.2.1 x.1.2.2.2.1 y.2.1.1 y.2.2.1.1 (fun z0 z1 z2 => K ⟨.bool z0, [some (.box [.fn 70 []]), some (.box [.int .i64 z1]), some (.box [.int .i64 z2])]⟩)) e
/-! ## 73: slices.IndexFunc[[]diorama/api.Node,diorama/api.Node] -/
noncomputable def f73_6_l2 {R : Type} (g_f93_6 : Nat → f93_6_T R) : Nat → List D2 → Int → Int → Int → Int → (Int → Int → Option R) → (Int → Int → Int → Option R) → Option R
  | 0, _, _, _, _, _, _, _ => none
  | k + 1, v1, v2, v3, v4, v5, X0, X1 =>
  bif decide (v3 < v2) then
   bif inb v3 v1.length then
    g_f93_6 k (D2.c0 (v1.getD v3.toNat zero2)) (D2.c1 (v1.getD v3.toNat zero2)) (D2.c2 (v1.getD v3.toNat zero2)) (D2.c3 (v1.getD v3.toNat zero2)) v4 v5 (fun v6 v7 v8 =>
     bif v6 then
      X1 v3 v7 v8
     else
      f73_6_l2 g_f93_6 k v1 v2 (IntKind.i64.wrap (v3 + 1)) v7 v8 X0 X1)
   else
    none
  else
   X0 v4 v5
noncomputable def f73_6_s {R : Type} (g_f93_6 : Nat → f93_6_T R) (k : Nat) (a0 : List D2) (a1 a2 : Int) (K : Int → Int → Int → Option R) : Option R :=
 f73_6_l2 g_f93_6 k a0 (a0.length : Int) 0 a1 a2 (fun v9 v10 =>
  K (-1) v9 v10) K
noncomputable def f73_6_d {R : Type} (g : f73_6_T R) (e : Dr D R) : Dr D R := door [.list (.named 2), .fn 93 [.ptr 0 0, .ptr 1 0, .ptr 2 0]] [.box [.fn 70 []], .box [.int .i64], .box [.int .i64]] (fun (x : (List D2 × (Unit × Unit × Unit × Unit) × Unit)) (y : (((Unit) × Unit) × (Int × Unit) × (Int × Unit) × Unit)) K => g x.1 y.2.1.1 y.2.2.1.1 (fun z0 z1 z2 => K ⟨.int .i64 z0, [some (.box [.fn 70 []]), some (.box [.int .i64 z1]), some (.box [.int .i64 z2])]⟩)) e
/-! ## 92: slices.ContainsFunc[[]diorama/api.Node,diorama/api.Node] -/
noncomputable def f92_6_s {R : Type} (g_f73_6 : Nat → f73_6_T R) (k : Nat) (a0 : List D2) (a1 a2 : Int) (K : Bool → Int → Int → Option R) : Option R :=
 g_f73_6 k a0 a1 a2 (fun v1 v2 v3 =>
  K (decide (v1 ≥ 0)) v2 v3)
noncomputable def f92_6_d {R : Type} (g : f92_6_T R) (e : Dr D R) : Dr D R := door [.list (.named 2), .fn 93 [.ptr 0 0, .ptr 1 0, .ptr 2 0]] [.box [.fn 70 []], .box [.int .i64], .box [.int .i64]] (fun (x : (List D2 × (Unit × Unit × Unit × Unit) × Unit)) (y : (((Unit) × Unit) × (Int × Unit) × (Int × Unit) × Unit)) K => g x.1 y.2.1.1 y.2.2.1.1 (fun z0 z1 z2 => K ⟨.bool z0, [some (.box [.fn 70 []]), some (.box [.int .i64 z1]), some (.box [.int .i64 z2])]⟩)) e
/-! ## 69: diorama/element.some -/
noncomputable def f69_3_s {R : Type} (g_f92_6 : Nat → f92_6_T R) (k : Nat) (a0 : List D2) (a1 a2 : Int) (K : Bool → Option R) : Option R :=
 g_f92_6 k a0 a1 a2 (fun v1 _v2 _v3 =>
  K v1)
noncomputable def f69_3_d {R : Type} (g : f69_3_T R) (e : Dr D R) : Dr D R := door [.list (.named 2), .int .i64, .int .i64, .fn 70 []] [] (fun (x : (List D2 × Int × Int × (Unit) × Unit)) (y : (Unit)) K => g x.1 x.2.1 x.2.2.1 (fun z0 => K ⟨.bool z0, []⟩)) e
noncomputable def f93_6_o {R : Type} (g_f69_3 : Nat → f69_3_T R) (k : Nat) : Orc D R := (orcAdd 69 (f69_3_d (g_f69_3 k) noDr) (orcAdd 70 (f70_d (f70 k) noDr) noOrc))
theorem f93_6_o_ok {R : Type} (g_f69_3 : Nat → f69_3_T R) (h_f69_3 : ∀ (k : Nat) (e : Dr D R), FnOk Try.prog cx 69 e → FnOk Try.prog cx 69 (f69_3_d (g_f69_3 k) e)) (k : Nat) : OrcOk Try.prog cx (f93_6_o (R := R) g_f69_3 k) := (OrcOk.add (h_f69_3 k _ FnOk.no) (OrcOk.add (f70_ok k FnOk.no) OrcOk.no))
noncomputable def f93_6_b : Code := bodyOf Try.f93
noncomputable def f93_6_ann : Nat → Option LAnn := fun _key => none
noncomputable def f93_6_r {R : Type} (_g_f69_3 : Nat → f69_3_T R) (_k : Nat) : Lrc D R := noLrc
noncomputable def f73_6_o {R : Type} (g_f93_6 : Nat → f93_6_T R) (k : Nat) : Orc D R := (orcAdd 93 (f93_6_d (g_f93_6 k) noDr) noOrc)
theorem f73_6_o_ok {R : Type} (g_f93_6 : Nat → f93_6_T R) (h_f93_6 : ∀ (k : Nat) (e : Dr D R), FnOk Try.prog cx 93 e → FnOk Try.prog cx 93 (f93_6_d (g_f93_6 k) e)) (k : Nat) : OrcOk Try.prog cx (f73_6_o (R := R) g_f93_6 k) := (OrcOk.add (h_f93_6 k _ FnOk.no) OrcOk.no)
noncomputable def f73_6_b : Code := bodyOf Try.f73
noncomputable def f73_6_l2_a : LAnn := ⟨⟨[], [0, 1, 7, 8], [0, 1, 2]⟩, exOf (some ⟨[], [4], [0, 1, 2]⟩) [(0, ⟨[], [], [0, 1, 2]⟩)]⟩
noncomputable def f73_6_ann : Nat → Option LAnn := fun key => bif Nat.beq key 2 then some f73_6_l2_a else none
noncomputable def f73_6_l2_b : Code := loopAt f73_6_b 0
noncomputable def f73_6_l2_g {R : Type} (g_f93_6 : Nat → f93_6_T R) (k : Nat) (x : (List D2 × (Unit × Unit × Unit × Unit) × Int × Int × Unit)) (y : (((Unit) × Unit) × (Int × Unit) × (Int × Unit) × Unit)) (K : KX R) : Option R := f73_6_l2 g_f93_6 k x.1 x.2.2.1 x.2.2.2.1 y.2.1.1 y.2.2.1.1 (fun z0 z1 => K (.exit 0) [] [some (.box [.fn 70 []]), some (.box [.int .i64 z0]), some (.box [.int .i64 z1])]) (fun z0 z1 z2 => K (.ret) [.int .i64 z0] [some (.box [.fn 70 []]), some (.box [.int .i64 z1]), some (.box [.int .i64 z2])])
noncomputable def f73_6_l2_d {R : Type} (g_f93_6 : Nat → f93_6_T R) (k : Nat) : Lr D R := ldoor [.list (.named 2), .fn 93 [.ptr 0 0, .ptr 1 0, .ptr 2 0], .int .i64, .int .i64] [some (.box [.fn 70 []]), some (.box [.int .i64]), some (.box [.int .i64])] (f73_6_l2_g g_f93_6 k)
noncomputable def f73_6_l2_r {R : Type} (_g_f93_6 : Nat → f93_6_T R) (_k : Nat) : Lrc D R := noLrc
theorem f73_6_l2_d_ok {R : Type} (g_f93_6 : Nat → f93_6_T R) (h_f93_6 : ∀ (k : Nat) (e : Dr D R), FnOk Try.prog cx 93 e → FnOk Try.prog cx 93 (f93_6_d (g_f93_6 k) e)) : ∀ k, LoopOk Try.prog cx 19 3 f73_6_ann (f73_6_l2_d (R := R) g_f93_6 k) f73_6_l2_b :=
  loop_ok (keep := kp) (lrc := f73_6_l2_r (R := R) g_f93_6) cxOk mixed (f73_6_o_ok g_f93_6 h_f93_6) (show f73_6_ann (Am.keyOf f73_6_l2_b) = some f73_6_l2_a by kernel_rfl) (L := []) (by kernel_rfl) (fun _k => trivial) (J := []) (by kernel_rfl) (fun _k => trivial) (fun _k => LrcNat.no) (fun _x _y _K => by kernel_rfl) (fun _k _x _y _K => by kernel_rfl)
noncomputable def f73_6_r {R : Type} (g_f93_6 : Nat → f93_6_T R) (k : Nat) : Lrc D R := (lrcAdd 2 (f73_6_l2_d g_f93_6 k) noLrc)
noncomputable def f92_6_o {R : Type} (g_f73_6 : Nat → f73_6_T R) (k : Nat) : Orc D R := (orcAdd 73 (f73_6_d (g_f73_6 k) noDr) noOrc)
theorem f92_6_o_ok {R : Type} (g_f73_6 : Nat → f73_6_T R) (h_f73_6 : ∀ (k : Nat) (e : Dr D R), FnOk Try.prog cx 73 e → FnOk Try.prog cx 73 (f73_6_d (g_f73_6 k) e)) (k : Nat) : OrcOk Try.prog cx (f92_6_o (R := R) g_f73_6 k) := (OrcOk.add (h_f73_6 k _ FnOk.no) OrcOk.no)
noncomputable def f92_6_b : Code := bodyOf Try.f92
noncomputable def f92_6_ann : Nat → Option LAnn := fun _key => none
noncomputable def f92_6_r {R : Type} (_g_f73_6 : Nat → f73_6_T R) (_k : Nat) : Lrc D R := noLrc
noncomputable def f69_3_o {R : Type} (g_f92_6 : Nat → f92_6_T R) (k : Nat) : Orc D R := (orcAdd 92 (f92_6_d (g_f92_6 k) noDr) noOrc)
theorem f69_3_o_ok {R : Type} (g_f92_6 : Nat → f92_6_T R) (h_f92_6 : ∀ (k : Nat) (e : Dr D R), FnOk Try.prog cx 92 e → FnOk Try.prog cx 92 (f92_6_d (g_f92_6 k) e)) (k : Nat) : OrcOk Try.prog cx (f69_3_o (R := R) g_f92_6 k) := (OrcOk.add (h_f92_6 k _ FnOk.no) OrcOk.no)
noncomputable def f69_3_b : Code := bodyOf Try.f69
noncomputable def f69_3_ann : Nat → Option LAnn := fun _key => none
noncomputable def f69_3_r {R : Type} (_g_f92_6 : Nat → f92_6_T R) (_k : Nat) : Lrc D R := noLrc
noncomputable def rec_f93_6 {R : Type} : Nat → (f93_6_T R) × (f73_6_T R) × (f92_6_T R) × (f69_3_T R)
  | 0 => (fun _ _ _ _ _ _ _ => none, fun _ _ _ _ => none, fun _ _ _ _ => none, fun _ _ _ _ => none)
  | k + 1 => (f93_6_s (fun _ => (rec_f93_6 (R := R) k).2.2.2) k, f73_6_s (fun _ => (rec_f93_6 (R := R) k).1) k, f92_6_s (fun _ => (rec_f93_6 (R := R) k).2.1) k, f69_3_s (fun _ => (rec_f93_6 (R := R) k).2.2.1) k)
theorem rec_f93_6_succ {R : Type} (k : Nat) : rec_f93_6 (R := R) (k + 1) = (f93_6_s (fun _ => (rec_f93_6 (R := R) k).2.2.2) k, f73_6_s (fun _ => (rec_f93_6 (R := R) k).1) k, f92_6_s (fun _ => (rec_f93_6 (R := R) k).2.1) k, f69_3_s (fun _ => (rec_f93_6 (R := R) k).2.2.1) k) := rfl
theorem rec_f93_6_ok {R : Type} : ∀ k, (∀ e : Dr D R, FnOk Try.prog cx 93 e → FnOk Try.prog cx 93 (f93_6_d (rec_f93_6 (R := R) k).1 e)) ∧ (∀ e : Dr D R, FnOk Try.prog cx 73 e → FnOk Try.prog cx 73 (f73_6_d (rec_f93_6 (R := R) k).2.1 e)) ∧ (∀ e : Dr D R, FnOk Try.prog cx 92 e → FnOk Try.prog cx 92 (f92_6_d (rec_f93_6 (R := R) k).2.2.1 e)) ∧ (∀ e : Dr D R, FnOk Try.prog cx 69 e → FnOk Try.prog cx 69 (f69_3_d (rec_f93_6 (R := R) k).2.2.2 e))
  | 0 => ⟨fun e he => he.door0 fun x y K => rfl, fun e he => he.door0 fun x y K => rfl, fun e he => he.door0 fun x y K => rfl, fun e he => he.door0 fun x y _K => rfl⟩
  | k + 1 => by
    rw [rec_f93_6_succ]
    exact ⟨fun e he => he.door fun x y => body_ok (keep := kp) (ann := f93_6_ann) (lrc := f93_6_r (R := R) (fun _ => (rec_f93_6 (R := R) k).2.2.2) k) (N := 21) (n0 := 3) (c := []) cxOk mixed (f93_6_o_ok (fun _ => (rec_f93_6 (R := R) k).2.2.2) (fun _ e he => (rec_f93_6_ok (R := R) k).2.2.2 e he) k) (body := f93_6_b) (by kernel_rfl : Try.prog.funcs[93]? = some Try.f93) (by kernel_rfl) (by kernel_rfl) (by kernel_rfl) (by kernel_rfl) (of_decide_eq_true (by kernel_rfl)) (L := []) (by kernel_rfl) trivial (J := []) (by kernel_rfl) trivial (LrcNat.no) (fun _K => by delta f93_6_s f93_6_o; generalize @f70 R = a0; revert a0; refine id ?_; intros; kernel_rfl),
      fun e he => he.door fun x y => body_ok (keep := kp) (ann := f73_6_ann) (lrc := f73_6_r (R := R) (fun _ => (rec_f93_6 (R := R) k).1) k) (N := 19) (n0 := 3) (c := []) cxOk mixed (f73_6_o_ok (fun _ => (rec_f93_6 (R := R) k).1) (fun _ e he => (rec_f93_6_ok (R := R) k).1 e he) k) (body := f73_6_b) (by kernel_rfl : Try.prog.funcs[73]? = some Try.f73) (by kernel_rfl) (by kernel_rfl) (by kernel_rfl) (by kernel_rfl) (of_decide_eq_true (by kernel_rfl)) (L := [f73_6_l2_b]) (by kernel_rfl) (⟨(f73_6_l2_d_ok (fun _ => (rec_f93_6 (R := R) k).1) (fun _ e he => (rec_f93_6_ok (R := R) k).1 e he) k).use (by kernel_rfl), trivial⟩) (J := []) (by kernel_rfl) trivial ((LrcNat.add (f73_6_l2_d_ok (fun _ => (rec_f93_6 (R := R) k).1) (fun _ e he => (rec_f93_6_ok (R := R) k).1 e he) k).2 LrcNat.no)) (fun _K => by kernel_rfl),
      fun e he => he.door fun x y => body_ok (keep := kp) (ann := f92_6_ann) (lrc := f92_6_r (R := R) (fun _ => (rec_f93_6 (R := R) k).2.1) k) (N := 9) (n0 := 3) (c := []) cxOk mixed (f92_6_o_ok (fun _ => (rec_f93_6 (R := R) k).2.1) (fun _ e he => (rec_f93_6_ok (R := R) k).2.1 e he) k) (body := f92_6_b) (by kernel_rfl : Try.prog.funcs[92]? = some Try.f92) (by kernel_rfl) (by kernel_rfl) (by kernel_rfl) (by kernel_rfl) (of_decide_eq_true (by kernel_rfl)) (L := []) (by kernel_rfl) trivial (J := []) (by kernel_rfl) trivial (LrcNat.no) (fun _K => by kernel_rfl),
      fun e he => he.door fun _x _y => body_ok (keep := kp) (ann := f69_3_ann) (lrc := f69_3_r (R := R) (fun _ => (rec_f93_6 (R := R) k).2.2.1) k) (N := 12) (n0 := 0) (c := []) cxOk mixed (f69_3_o_ok (fun _ => (rec_f93_6 (R := R) k).2.2.1) (fun _ e he => (rec_f93_6_ok (R := R) k).2.2.1 e he) k) (body := f69_3_b) (by kernel_rfl : Try.prog.funcs[69]? = some Try.f69) (by kernel_rfl) (by kernel_rfl) (by kernel_rfl) (by kernel_rfl) (of_decide_eq_true (by kernel_rfl)) (L := []) (by kernel_rfl) trivial (J := []) (by kernel_rfl) trivial (LrcNat.no) (fun _K => by kernel_rfl)⟩
noncomputable def f93_6 {R : Type} (k : Nat) (a0 : Int) (a1 : List Int) (a2 : List D2) (a3 : Bool) (a4 a5 : Int) (K : Bool → Int → Int → Option R) : Option R := (rec_f93_6 (R := R) k).1 a0 a1 a2 a3 a4 a5 K
theorem f93_6_ok {R : Type} (k : Nat) {e : Dr D R} (he : FnOk Try.prog cx 93 e) : FnOk Try.prog cx 93 (f93_6_d (f93_6 k) e) := (rec_f93_6_ok (R := R) k).1 e he
noncomputable def f73_6 {R : Type} (k : Nat) (a0 : List D2) (a1 a2 : Int) (K : Int → Int → Int → Option R) : Option R := (rec_f93_6 (R := R) k).2.1 a0 a1 a2 K
theorem f73_6_ok {R : Type} (k : Nat) {e : Dr D R} (he : FnOk Try.prog cx 73 e) : FnOk Try.prog cx 73 (f73_6_d (f73_6 k) e) := (rec_f93_6_ok (R := R) k).2.1 e he
noncomputable def f92_6 {R : Type} (k : Nat) (a0 : List D2) (a1 a2 : Int) (K : Bool → Int → Int → Option R) : Option R := (rec_f93_6 (R := R) k).2.2.1 a0 a1 a2 K
theorem f92_6_ok {R : Type} (k : Nat) {e : Dr D R} (he : FnOk Try.prog cx 92 e) : FnOk Try.prog cx 92 (f92_6_d (f92_6 k) e) := (rec_f93_6_ok (R := R) k).2.2.1 e he
noncomputable def f69_3 {R : Type} (k : Nat) (a0 : List D2) (a1 a2 : Int) (K : Bool → Option R) : Option R := (rec_f93_6 (R := R) k).2.2.2 a0 a1 a2 K
theorem f69_3_ok {R : Type} (k : Nat) {e : Dr D R} (he : FnOk Try.prog cx 69 e) : FnOk Try.prog cx 69 (f69_3_d (f69_3 k) e) := (rec_f93_6_ok (R := R) k).2.2.2 e he
theorem f93_6_step {R : Type} (k : Nat) (a0 : Int) (a1 : List Int) (a2 : List D2) (a3 : Bool) (a4 a5 : Int) (K : Bool → Int → Int → Option R) : f93_6 (k + 1) a0 a1 a2 a3 a4 a5 K = f93_6_s (fun _ => f69_3 (R := R) k) k a0 a1 a2 a3 a4 a5 K := rfl
theorem f73_6_step {R : Type} (k : Nat) (a0 : List D2) (a1 a2 : Int) (K : Int → Int → Int → Option R) : f73_6 (k + 1) a0 a1 a2 K = f73_6_s (fun _ => f93_6 (R := R) k) k a0 a1 a2 K := rfl
theorem f92_6_step {R : Type} (k : Nat) (a0 : List D2) (a1 a2 : Int) (K : Bool → Int → Int → Option R) : f92_6 (k + 1) a0 a1 a2 K = f92_6_s (fun _ => f73_6 (R := R) k) k a0 a1 a2 K := rfl
theorem f69_3_step {R : Type} (k : Nat) (a0 : List D2) (a1 a2 : Int) (K : Bool → Option R) : f69_3 (k + 1) a0 a1 a2 K = f69_3_s (fun _ => f92_6 (R := R) k) k a0 a1 a2 K := rfl

abbrev f71_T (R : Type) : Type := Int → List Int → List D2 → Bool → Int → Int → Int → (Bool → Int → Option R) → Option R
/-! ## 71: diorama/element.Check$4 -/
noncomputable def f71 {R : Type} (_k : Nat) (_a0 : Int) (_a1 : List Int) (_a2 : List D2) (_a3 : Bool) (_a4 _a5 a6 : Int) (K : Bool → Int → Option R) : Option R :=
 K (decide ((IntKind.i64.wrap (a6 + 1)) > 4000)) (IntKind.i64.wrap (a6 + 1))
noncomputable def f71_d {R : Type} (g : f71_T R) (e : Dr D R) : Dr D R := door [.agg [.int .i64, .list (.int .u8), .list (.named 2), .bool], .int .i64, .int .i64, .ptr 0 0] [.box [.int .i64]] (fun (x : ((Int × List Int × List D2 × Bool × Unit) × Int × Int × Unit × Unit)) (y : ((Int × Unit) × Unit)) K => g x.1.1 x.1.2.1 x.1.2.2.1 x.1.2.2.2.1 x.2.1 x.2.2.1 y.1.1 (fun z0 z1 => K ⟨.bool z0, [some (.box [.int .i64 z1])]⟩)) e
noncomputable def f71_o {R : Type} (_k : Nat) : Orc D R := noOrc
theorem f71_o_ok {R : Type} (k : Nat) : OrcOk Try.prog cx (f71_o (R := R) k) := OrcOk.no
noncomputable def f71_b : Code := bodyOf Try.f71
noncomputable def f71_ann : Nat → Option LAnn := fun _key => none
noncomputable def f71_r {R : Type} (_k : Nat) : Lrc D R := noLrc
theorem f71_ok {R : Type} (k : Nat) {e : Dr D R} (he : FnOk Try.prog cx 71 e) : FnOk Try.prog cx 71 (f71_d (f71 k) e) :=
  he.door fun _x _y => body_ok (keep := kp) (ann := f71_ann) (lrc := f71_r (R := R) k) (N := 12) (n0 := 1) (c := []) cxOk mixed (f71_o_ok k) (body := f71_b) (by kernel_rfl : Try.prog.funcs[71]? = some Try.f71) (by kernel_rfl) (by kernel_rfl) (by kernel_rfl) (by kernel_rfl) (of_decide_eq_true (by kernel_rfl)) (L := []) (by kernel_rfl) trivial (J := []) (by kernel_rfl) trivial (LrcNat.no) (fun _K => by kernel_rfl)

abbrev f93_8_T (R : Type) : Type := Int → List Int → List D2 → Bool → Int → Int → Int → (Bool → Int → Int → Int → Option R) → Option R
abbrev f73_8_T (R : Type) : Type := List D2 → Int → Int → Int → (Int → Int → Int → Int → Option R) → Option R
abbrev f92_8_T (R : Type) : Type := List D2 → Int → Int → Int → (Bool → Int → Int → Int → Option R) → Option R
abbrev f69_4_T (R : Type) : Type := List D2 → Int → Int → Int → (Bool → Int → Option R) → Option R
/-! ## 93: diorama/element.some$1 -/
noncomputable def f93_8_s {R : Type} (g_f69_4 : Nat → f69_4_T R) (k : Nat) (a0 : Int) (a1 : List Int) (a2 : List D2) (a3 : Bool) (a4 a5 a6 : Int) (K : Bool → Int → Int → Int → Option R) : Option R :=
 f71 k a0 a1 a2 a3 a5 a6 a4 (fun v1 v2 =>
  bif v1 then
   K true v2 a5 a6
  else
   g_f69_4 k a2 a0 (IntKind.i64.wrap (a6 + 1)) v2 (fun v3 v4 =>
    K v3 v4 a5 a6))
noncomputable def f93_8_d {R : Type} (g : f93_8_T R) (e : Dr D R) : Dr D R := door [.agg [.int .i64, .list (.int .u8), .list (.named 2), .bool], .ptr 0 0, .ptr 2 0, .ptr 3 0] [.box [.fn 71 [.ptr 1 0]], .box [.int .i64], .box [.int .i64], .box [.int .i64]] (fun (x : ((Int × List Int × List D2 × Bool × Unit) × Unit × Unit × Unit × Unit)) (y : (((Unit × Unit) × Unit) × (Int × Unit) × (Int × Unit) × (Int × Unit) × Unit)) K => g x.1.1 x.1.2.1 x.1.2.2.1 x.1.2.2.2.1 y.2.1.1 y.2.2.1.1 y.2.2.2.1.1 (fun z0 z1 z2 z3 => K ⟨.bool z0, [some (.box [.fn 71 [.ptr 1 0]]), some (.box [.int .i64 z1]), some (.box [.int .i64 z2]), some (.box [.int .i64 z3])]⟩)) e
/-! ## 73: slices.IndexFunc[[]diorama/api.Node,diorama/api.Node] -/
noncomputable def f73_8_l2 {R : Type} (g_f93_8 : Nat → f93_8_T R) : Nat → List D2 → Int → Int → Int → Int → Int → (Int → Int → Int → Option R) → (Int → Int → Int → Int → Option R) → Option R
  | 0, _, _, _, _, _, _, _, _ => none
  | k + 1, v1, v2, v3, v4, v5, v6, X0, X1 =>
  bif decide (v3 < v2) then
   bif inb v3 v1.length then
    g_f93_8 k (D2.c0 (v1.getD v3.toNat zero2)) (D2.c1 (v1.getD v3.toNat zero2)) (D2.c2 (v1.getD v3.toNat zero2)) (D2.c3 (v1.getD v3.toNat zero2)) v4 v5 v6 (fun v7 v8 v9 v10 =>
     bif v7 then
      X1 v3 v8 v9 v10
     else
      f73_8_l2 g_f93_8 k v1 v2 (IntKind.i64.wrap (v3 + 1)) v8 v9 v10 X0 X1)
   else
    none
  else
   X0 v4 v5 v6
noncomputable def f73_8_s {R : Type} (g_f93_8 : Nat → f93_8_T R) (k : Nat) (a0 : List D2) (a1 a2 a3 : Int) (K : Int → Int → Int → Int → Option R) : Option R :=
 f73_8_l2 g_f93_8 k a0 (a0.length : Int) 0 a1 a2 a3 (fun v11 v12 v13 =>
  K (-1) v11 v12 v13) K
noncomputable def f73_8_d {R : Type} (g : f73_8_T R) (e : Dr D R) : Dr D R := door [.list (.named 2), .fn 93 [.ptr 0 0, .ptr 2 0, .ptr 3 0]] [.box [.fn 71 [.ptr 1 0]], .box [.int .i64], .box [.int .i64], .box [.int .i64]] (fun (x : (List D2 × (Unit × Unit × Unit × Unit) × Unit)) (y : (((Unit × Unit) × Unit) × (Int × Unit) × (Int × Unit) × (Int × Unit) × Unit)) K => g x.1 y.2.1.1 y.2.2.1.1 y.2.2.2.1.1 (fun z0 z1 z2 z3 => K ⟨.int .i64 z0, [some (.box [.fn 71 [.ptr 1 0]]), some (.box [.int .i64 z1]), some (.box [.int .i64 z2]), some (.box [.int .i64 z3])]⟩)) e
/-! ## 92: slices.ContainsFunc[[]diorama/api.Node,diorama/api.Node] -/
noncomputable def f92_8_s {R : Type} (g_f73_8 : Nat → f73_8_T R) (k : Nat) (a0 : List D2) (a1 a2 a3 : Int) (K : Bool → Int → Int → Int → Option R) : Option R :=
 g_f73_8 k a0 a1 a2 a3 (fun v1 v2 v3 v4 =>
  K (decide (v1 ≥ 0)) v2 v3 v4)
noncomputable def f92_8_d {R : Type} (g : f92_8_T R) (e : Dr D R) : Dr D R := door [.list (.named 2), .fn 93 [.ptr 0 0, .ptr 2 0, .ptr 3 0]] [.box [.fn 71 [.ptr 1 0]], .box [.int .i64], .box [.int .i64], .box [.int .i64]] (fun (x : (List D2 × (Unit × Unit × Unit × Unit) × Unit)) (y : (((Unit × Unit) × Unit) × (Int × Unit) × (Int × Unit) × (Int × Unit) × Unit)) K => g x.1 y.2.1.1 y.2.2.1.1 y.2.2.2.1.1 (fun z0 z1 z2 z3 => K ⟨.bool z0, [some (.box [.fn 71 [.ptr 1 0]]), some (.box [.int .i64 z1]), some (.box [.int .i64 z2]), some (.box [.int .i64 z3])]⟩)) e
/-! ## 69: diorama/element.some -/
noncomputable def f69_4_s {R : Type} (g_f92_8 : Nat → f92_8_T R) (k : Nat) (a0 : List D2) (a1 a2 a3 : Int) (K : Bool → Int → Option R) : Option R :=
 g_f92_8 k a0 a3 a1 a2 (fun v1 v2 _v3 _v4 =>
  K v1 v2)
noncomputable def f69_4_d {R : Type} (g : f69_4_T R) (e : Dr D R) : Dr D R := door [.list (.named 2), .int .i64, .int .i64, .fn 71 [.ptr 0 0]] [.box [.int .i64]] (fun (x : (List D2 × Int × Int × (Unit × Unit) × Unit)) (y : ((Int × Unit) × Unit)) K => g x.1 x.2.1 x.2.2.1 y.1.1 (fun z0 z1 => K ⟨.bool z0, [some (.box [.int .i64 z1])]⟩)) e
noncomputable def f93_8_o {R : Type} (g_f69_4 : Nat → f69_4_T R) (k : Nat) : Orc D R := (orcAdd 69 (f69_4_d (g_f69_4 k) noDr) (orcAdd 71 (f71_d (f71 k) noDr) noOrc))
theorem f93_8_o_ok {R : Type} (g_f69_4 : Nat → f69_4_T R) (h_f69_4 : ∀ (k : Nat) (e : Dr D R), FnOk Try.prog cx 69 e → FnOk Try.prog cx 69 (f69_4_d (g_f69_4 k) e)) (k : Nat) : OrcOk Try.prog cx (f93_8_o (R := R) g_f69_4 k) := (OrcOk.add (h_f69_4 k _ FnOk.no) (OrcOk.add (f71_ok k FnOk.no) OrcOk.no))
noncomputable def f93_8_b : Code := bodyOf Try.f93
noncomputable def f93_8_ann : Nat → Option LAnn := fun _key => none
noncomputable def f93_8_r {R : Type} (_g_f69_4 : Nat → f69_4_T R) (_k : Nat) : Lrc D R := noLrc
noncomputable def f73_8_o {R : Type} (g_f93_8 : Nat → f93_8_T R) (k : Nat) : Orc D R := (orcAdd 93 (f93_8_d (g_f93_8 k) noDr) noOrc)
theorem f73_8_o_ok {R : Type} (g_f93_8 : Nat → f93_8_T R) (h_f93_8 : ∀ (k : Nat) (e : Dr D R), FnOk Try.prog cx 93 e → FnOk Try.prog cx 93 (f93_8_d (g_f93_8 k) e)) (k : Nat) : OrcOk Try.prog cx (f73_8_o (R := R) g_f93_8 k) := (OrcOk.add (h_f93_8 k _ FnOk.no) OrcOk.no)
noncomputable def f73_8_b : Code := bodyOf Try.f73
noncomputable def f73_8_l2_a : LAnn := ⟨⟨[], [0, 1, 7, 8], [0, 1, 2, 3]⟩, exOf (some ⟨[], [4], [0, 1, 2, 3]⟩) [(0, ⟨[], [], [0, 1, 2, 3]⟩)]⟩
noncomputable def f73_8_ann : Nat → Option LAnn := fun key => bif Nat.beq key 2 then some f73_8_l2_a else none
noncomputable def f73_8_l2_b : Code := loopAt f73_8_b 0
noncomputable def f73_8_l2_g {R : Type} (g_f93_8 : Nat → f93_8_T R) (k : Nat) (x : (List D2 × (Unit × Unit × Unit × Unit) × Int × Int × Unit)) (y : (((Unit × Unit) × Unit) × (Int × Unit) × (Int × Unit) × (Int × Unit) × Unit)) (K : KX R) : Option R := f73_8_l2 g_f93_8 k x.1 x.2.2.1 x.2.2.2.1 y.2.1.1 y.2.2.1.1 y.2.2.2.1.1 (fun z0 z1 z2 => K (.exit 0) [] [some (.box [.fn 71 [.ptr 1 0]]), some (.box [.int .i64 z0]), some (.box [.int .i64 z1]), some (.box [.int .i64 z2])]) (fun z0 z1 z2 z3 => K (.ret) [.int .i64 z0] [some (.box [.fn 71 [.ptr 1 0]]), some (.box [.int .i64 z1]), some (.box [.int .i64 z2]), some (.box [.int .i64 z3])])
noncomputable def f73_8_l2_d {R : Type} (g_f93_8 : Nat → f93_8_T R) (k : Nat) : Lr D R := ldoor [.list (.named 2), .fn 93 [.ptr 0 0, .ptr 2 0, .ptr 3 0], .int .i64, .int .i64] [some (.box [.fn 71 [.ptr 1 0]]), some (.box [.int .i64]), some (.box [.int .i64]), some (.box [.int .i64])] (f73_8_l2_g g_f93_8 k)
noncomputable def f73_8_l2_r {R : Type} (_g_f93_8 : Nat → f93_8_T R) (_k : Nat) : Lrc D R := noLrc
theorem f73_8_l2_d_ok {R : Type} (g_f93_8 : Nat → f93_8_T R) (h_f93_8 : ∀ (k : Nat) (e : Dr D R), FnOk Try.prog cx 93 e → FnOk Try.prog cx 93 (f93_8_d (g_f93_8 k) e)) : ∀ k, LoopOk Try.prog cx 19 4 f73_8_ann (f73_8_l2_d (R := R) g_f93_8 k) f73_8_l2_b :=
  loop_ok (keep := kp) (lrc := f73_8_l2_r (R := R) g_f93_8) cxOk mixed (f73_8_o_ok g_f93_8 h_f93_8) (show f73_8_ann (Am.keyOf f73_8_l2_b) = some f73_8_l2_a by kernel_rfl) (L := []) (by kernel_rfl) (fun _k => trivial) (J := []) (by kernel_rfl) (fun _k => trivial) (fun _k => LrcNat.no) (fun _x _y _K => by kernel_rfl) (fun _k _x _y _K => by kernel_rfl)
noncomputable def f73_8_r {R : Type} (g_f93_8 : Nat → f93_8_T R) (k : Nat) : Lrc D R := (lrcAdd 2 (f73_8_l2_d g_f93_8 k) noLrc)
noncomputable def f92_8_o {R : Type} (g_f73_8 : Nat → f73_8_T R) (k : Nat) : Orc D R := (orcAdd 73 (f73_8_d (g_f73_8 k) noDr) noOrc)
theorem f92_8_o_ok {R : Type} (g_f73_8 : Nat → f73_8_T R) (h_f73_8 : ∀ (k : Nat) (e : Dr D R), FnOk Try.prog cx 73 e → FnOk Try.prog cx 73 (f73_8_d (g_f73_8 k) e)) (k : Nat) : OrcOk Try.prog cx (f92_8_o (R := R) g_f73_8 k) := (OrcOk.add (h_f73_8 k _ FnOk.no) OrcOk.no)
noncomputable def f92_8_b : Code := bodyOf Try.f92
noncomputable def f92_8_ann : Nat → Option LAnn := fun _key => none
noncomputable def f92_8_r {R : Type} (_g_f73_8 : Nat → f73_8_T R) (_k : Nat) : Lrc D R := noLrc
noncomputable def f69_4_o {R : Type} (g_f92_8 : Nat → f92_8_T R) (k : Nat) : Orc D R := (orcAdd 92 (f92_8_d (g_f92_8 k) noDr) noOrc)
theorem f69_4_o_ok {R : Type} (g_f92_8 : Nat → f92_8_T R) (h_f92_8 : ∀ (k : Nat) (e : Dr D R), FnOk Try.prog cx 92 e → FnOk Try.prog cx 92 (f92_8_d (g_f92_8 k) e)) (k : Nat) : OrcOk Try.prog cx (f69_4_o (R := R) g_f92_8 k) := (OrcOk.add (h_f92_8 k _ FnOk.no) OrcOk.no)
noncomputable def f69_4_b : Code := bodyOf Try.f69
noncomputable def f69_4_ann : Nat → Option LAnn := fun _key => none
noncomputable def f69_4_r {R : Type} (_g_f92_8 : Nat → f92_8_T R) (_k : Nat) : Lrc D R := noLrc
noncomputable def rec_f93_8 {R : Type} : Nat → (f93_8_T R) × (f73_8_T R) × (f92_8_T R) × (f69_4_T R)
  | 0 => (fun _ _ _ _ _ _ _ _ => none, fun _ _ _ _ _ => none, fun _ _ _ _ _ => none, fun _ _ _ _ _ => none)
  | k + 1 => (f93_8_s (fun _ => (rec_f93_8 (R := R) k).2.2.2) k, f73_8_s (fun _ => (rec_f93_8 (R := R) k).1) k, f92_8_s (fun _ => (rec_f93_8 (R := R) k).2.1) k, f69_4_s (fun _ => (rec_f93_8 (R := R) k).2.2.1) k)
theorem rec_f93_8_succ {R : Type} (k : Nat) : rec_f93_8 (R := R) (k + 1) = (f93_8_s (fun _ => (rec_f93_8 (R := R) k).2.2.2) k, f73_8_s (fun _ => (rec_f93_8 (R := R) k).1) k, f92_8_s (fun _ => (rec_f93_8 (R := R) k).2.1) k, f69_4_s (fun _ => (rec_f93_8 (R := R) k).2.2.1) k) := rfl
theorem rec_f93_8_ok {R : Type} : ∀ k, (∀ e : Dr D R, FnOk Try.prog cx 93 e → FnOk Try.prog cx 93 (f93_8_d (rec_f93_8 (R := R) k).1 e)) ∧ (∀ e : Dr D R, FnOk Try.prog cx 73 e → FnOk Try.prog cx 73 (f73_8_d (rec_f93_8 (R := R) k).2.1 e)) ∧ (∀ e : Dr D R, FnOk Try.prog cx 92 e → FnOk Try.prog cx 92 (f92_8_d (rec_f93_8 (R := R) k).2.2.1 e)) ∧ (∀ e : Dr D R, FnOk Try.prog cx 69 e → FnOk Try.prog cx 69 (f69_4_d (rec_f93_8 (R := R) k).2.2.2 e))
  | 0 => ⟨fun e he => he.door0 fun x y K => rfl, fun e he => he.door0 fun x y K => rfl, fun e he => he.door0 fun x y K => rfl, fun e he => he.door0 fun x y _K => rfl⟩
  | k + 1 => by
    rw [rec_f93_8_succ]
    exact ⟨fun e he => he.door fun x y => body_ok (keep := kp) (ann := f93_8_ann) (lrc := f93_8_r (R := R) (fun _ => (rec_f93_8 (R := R) k).2.2.2) k) (N := 21) (n0 := 4) (c := []) cxOk mixed (f93_8_o_ok (fun _ => (rec_f93_8 (R := R) k).2.2.2) (fun _ e he => (rec_f93_8_ok (R := R) k).2.2.2 e he) k) (body := f93_8_b) (by kernel_rfl : Try.prog.funcs[93]? = some Try.f93) (by kernel_rfl) (by kernel_rfl) (by kernel_rfl) (by kernel_rfl) (of_decide_eq_true (by kernel_rfl)) (L := []) (by kernel_rfl) trivial (J := []) (by kernel_rfl) trivial (LrcNat.no) (fun _K => by delta f93_8_s f93_8_o; generalize @f71 R = a0; revert a0; refine id ?_; intros; kernel_rfl),
      fun e he => he.door fun x y => body_ok (keep := kp) (ann := f73_8_ann) (lrc := f73_8_r (R := R) (fun _ => (rec_f93_8 (R := R) k).1) k) (N := 19) (n0 := 4) (c := []) cxOk mixed (f73_8_o_ok (fun _ => (rec_f93_8 (R := R) k).1) (fun _ e he => (rec_f93_8_ok (R := R) k).1 e he) k) (body := f73_8_b) (by kernel_rfl : Try.prog.funcs[73]? = some Try.f73) (by kernel_rfl) (by kernel_rfl) (by kernel_rfl) (by kernel_rfl) (of_decide_eq_true (by kernel_rfl)) (L := [f73_8_l2_b]) (by kernel_rfl) (⟨(f73_8_l2_d_ok (fun _ => (rec_f93_8 (R := R) k).1) (fun _ e he => (rec_f93_8_ok (R := R) k).1 e he) k).use (by kernel_rfl), trivial⟩) (J := []) (by kernel_rfl) trivial ((LrcNat.add (f73_8_l2_d_ok (fun _ => (rec_f93_8 (R := R) k).1) (fun _ e he => (rec_f93_8_ok (R := R) k).1 e he) k).2 LrcNat.no)) (fun _K => by kernel_rfl),
      fun e he => he.door fun x y => body_ok (keep := kp) (ann := f92_8_ann) (lrc := f92_8_r (R := R) (fun _ => (rec_f93_8 (R := R) k).2.1) k) (N := 9) (n0 := 4) (c := []) cxOk mixed (f92_8_o_ok (fun _ => (rec_f93_8 (R := R) k).2.1) (fun _ e he => (rec_f93_8_ok (R := R) k).2.1 e he) k) (body := f92_8_b) (by kernel_rfl : Try.prog.funcs[92]? = some Try.f92) (by kernel_rfl) (by kernel_rfl) (by kernel_rfl) (by kernel_rfl) (of_decide_eq_true (by kernel_rfl)) (L := []) (by kernel_rfl) trivial (J := []) (by kernel_rfl) trivial (LrcNat.no) (fun _K => by kernel_rfl),
      fun e he => he.door fun _x _y => body_ok (keep := kp) (ann := f69_4_ann) (lrc := f69_4_r (R := R) (fun _ => (rec_f93_8 (R := R) k).2.2.1) k) (N := 12) (n0 := 1) (c := []) cxOk mixed (f69_4_o_ok (fun _ => (rec_f93_8 (R := R) k).2.2.1) (fun _ e he => (rec_f93_8_ok (R := R) k).2.2.1 e he) k) (body := f69_4_b) (by kernel_rfl : Try.prog.funcs[69]? = some Try.f69) (by kernel_rfl) (by kernel_rfl) (by kernel_rfl) (by kernel_rfl) (of_decide_eq_true (by kernel_rfl)) (L := []) (by kernel_rfl) trivial (J := []) (by kernel_rfl) trivial (LrcNat.no) (fun _K => by kernel_rfl)⟩
noncomputable def f93_8 {R : Type} (k : Nat) (a0 : Int) (a1 : List Int) (a2 : List D2) (a3 : Bool) (a4 a5 a6 : Int) (K : Bool → Int → Int → Int → Option R) : Option R := (rec_f93_8 (R := R) k).1 a0 a1 a2 a3 a4 a5 a6 K
theorem f93_8_ok {R : Type} (k : Nat) {e : Dr D R} (he : FnOk Try.prog cx 93 e) : FnOk Try.prog cx 93 (f93_8_d (f93_8 k) e) := (rec_f93_8_ok (R := R) k).1 e he
noncomputable def f73_8 {R : Type} (k : Nat) (a0 : List D2) (a1 a2 a3 : Int) (K : Int → Int → Int → Int → Option R) : Option R := (rec_f93_8 (R := R) k).2.1 a0 a1 a2 a3 K
theorem f73_8_ok {R : Type} (k : Nat) {e : Dr D R} (he : FnOk Try.prog cx 73 e) : FnOk Try.prog cx 73 (f73_8_d (f73_8 k) e) := (rec_f93_8_ok (R := R) k).2.1 e he
noncomputable def f92_8 {R : Type} (k : Nat) (a0 : List D2) (a1 a2 a3 : Int) (K : Bool → Int → Int → Int → Option R) : Option R := (rec_f93_8 (R := R) k).2.2.1 a0 a1 a2 a3 K
theorem f92_8_ok {R : Type} (k : Nat) {e : Dr D R} (he : FnOk Try.prog cx 92 e) : FnOk Try.prog cx 92 (f92_8_d (f92_8 k) e) := (rec_f93_8_ok (R := R) k).2.2.1 e he
noncomputable def f69_4 {R : Type} (k : Nat) (a0 : List D2) (a1 a2 a3 : Int) (K : Bool → Int → Option R) : Option R := (rec_f93_8 (R := R) k).2.2.2 a0 a1 a2 a3 K
theorem f69_4_ok {R : Type} (k : Nat) {e : Dr D R} (he : FnOk Try.prog cx 69 e) : FnOk Try.prog cx 69 (f69_4_d (f69_4 k) e) := (rec_f93_8_ok (R := R) k).2.2.2 e he
theorem f93_8_step {R : Type} (k : Nat) (a0 : Int) (a1 : List Int) (a2 : List D2) (a3 : Bool) (a4 a5 a6 : Int) (K : Bool → Int → Int → Int → Option R) : f93_8 (k + 1) a0 a1 a2 a3 a4 a5 a6 K = f93_8_s (fun _ => f69_4 (R := R) k) k a0 a1 a2 a3 a4 a5 a6 K := rfl
theorem f73_8_step {R : Type} (k : Nat) (a0 : List D2) (a1 a2 a3 : Int) (K : Int → Int → Int → Int → Option R) : f73_8 (k + 1) a0 a1 a2 a3 K = f73_8_s (fun _ => f93_8 (R := R) k) k a0 a1 a2 a3 K := rfl
theorem f92_8_step {R : Type} (k : Nat) (a0 : List D2) (a1 a2 a3 : Int) (K : Bool → Int → Int → Int → Option R) : f92_8 (k + 1) a0 a1 a2 a3 K = f92_8_s (fun _ => f73_8 (R := R) k) k a0 a1 a2 a3 K := rfl
theorem f69_4_step {R : Type} (k : Nat) (a0 : List D2) (a1 a2 a3 : Int) (K : Bool → Int → Option R) : f69_4 (k + 1) a0 a1 a2 a3 K = f69_4_s (fun _ => f92_8 (R := R) k) k a0 a1 a2 a3 K := rfl

abbrev f37_T (R : Type) : Type := List D2 → (Int → Option R) → Option R
/-! ## 37: diorama/element.Check -/
noncomputable def f37 {R : Type} (k : Nat) (a0 : List D2) (K : Int → Option R) : Option R :=
 f69 k a0 0 1 (fun v1 =>
  bif v1 then
   K 4
  else
   f69_2 k a0 0 1 (fun v2 =>
    bif v2 then
     K 42
    else
     f69_3 k a0 0 1 (fun v3 =>
      bif v3 then
      K 43
      else
      f69_4 k a0 0 1 0 (fun v4 _v5 =>
      bif v4 then
      K 2
      else
      K 0))))
noncomputable def f37_d {R : Type} (g : f37_T R) (e : Dr D R) : Dr D R := door [.list (.named 2)] [] (fun (x : (List D2 × Unit)) (y : (Unit)) K => g x.1 (fun z0 => K ⟨.int .i64 z0, []⟩)) e
noncomputable def f37_o {R : Type} (k : Nat) : Orc D R := (orcAdd 69 (f69_4_d (f69_4 k) (f69_3_d (f69_3 k) (f69_2_d (f69_2 k) (f69_d (f69 k) noDr)))) noOrc)
theorem f37_o_ok {R : Type} (k : Nat) : OrcOk Try.prog cx (f37_o (R := R) k) := (OrcOk.add (f69_4_ok k (f69_3_ok k (f69_2_ok k (f69_ok k FnOk.no)))) OrcOk.no)
noncomputable def f37_b : Code := bodyOf Try.f37
noncomputable def f37_ann : Nat → Option LAnn := fun _key => none
noncomputable def f37_r {R : Type} (_k : Nat) : Lrc D R := noLrc
theorem f37_ok {R : Type} (k : Nat) {e : Dr D R} (he : FnOk Try.prog cx 37 e) : FnOk Try.prog cx 37 (f37_d (f37 k) e) :=
  he.door fun _x _y => body_ok (keep := kp) (ann := f37_ann) (lrc := f37_r (R := R) k) (N := 21) (n0 := 0) (c := []) cxOk mixed (f37_o_ok k) (body := f37_b) (by kernel_rfl : Try.prog.funcs[37]? = some Try.f37) (by kernel_rfl) (by kernel_rfl) (by kernel_rfl) (by kernel_rfl) (of_decide_eq_true (by kernel_rfl)) (L := []) (by kernel_rfl) trivial (J := []) (by kernel_rfl) trivial (LrcNat.no) (fun _K => by delta f37 f37_o; generalize @f69 R = a0; generalize @f69_2 R = a1; generalize @f69_3 R = a2; generalize @f69_4 R = a3; revert a0 a1 a2 a3; refine id ?_; intros; kernel_rfl)

abbrev f38_T (R : Type) : Type := List D2 → (Int → Option R) → Option R
/-! ## 38: diorama/dioramaref04.Nodes -/
noncomputable def f38_l3 {R : Type} (g_f38 : Nat → f38_T R) : Nat → List D2 → Int → Int → (Int → Option R) → Option R
  | 0, _, _, _, _ => none
  | k + 1, v1, v2, v3, X0 =>
  bif decide (v3 < (v1.length : Int)) then
   bif inb v3 v1.length then
    g_f38 k (D2.c2 (v1.getD v3.toNat zero2)) (fun v4 =>
     f38_l3 g_f38 k v1 (IntKind.i64.wrap (v2 + v4)) (IntKind.i64.wrap (v3 + 1)) X0)
   else
    none
  else
   X0 v2
noncomputable def f38_s {R : Type} (g_f38 : Nat → f38_T R) (k : Nat) (a0 : List D2) (K : Int → Option R) : Option R :=
 f38_l3 g_f38 k a0 (a0.length : Int) 0 K
noncomputable def f38_d {R : Type} (g : f38_T R) (e : Dr D R) : Dr D R := door [.list (.named 2)] [] (fun (x : (List D2 × Unit)) (y : (Unit)) K => g x.1 (fun z0 => K ⟨.int .i64 z0, []⟩)) e
noncomputable def f38_o {R : Type} (g_f38 : Nat → f38_T R) (k : Nat) : Orc D R := (orcAdd 38 (f38_d (g_f38 k) noDr) noOrc)
theorem f38_o_ok {R : Type} (g_f38 : Nat → f38_T R) (h_f38 : ∀ (k : Nat) (e : Dr D R), FnOk Try.prog cx 38 e → FnOk Try.prog cx 38 (f38_d (g_f38 k) e)) (k : Nat) : OrcOk Try.prog cx (f38_o (R := R) g_f38 k) := (OrcOk.add (h_f38 k _ FnOk.no) OrcOk.no)
noncomputable def f38_b : Code := bodyOf Try.f38
noncomputable def f38_l3_a : LAnn := ⟨⟨[], [0, 3, 4], []⟩, exOf (none) [(0, ⟨[], [3], []⟩)]⟩
noncomputable def f38_ann : Nat → Option LAnn := fun key => bif Nat.beq key 3 then some f38_l3_a else none
noncomputable def f38_l3_b : Code := loopAt f38_b 0
noncomputable def f38_l3_g {R : Type} (g_f38 : Nat → f38_T R) (k : Nat) (x : (List D2 × Int × Int × Unit)) (_y : (Unit)) (K : KX R) : Option R := f38_l3 g_f38 k x.1 x.2.1 x.2.2.1 (fun z0 => K (.exit 0) [.int .i64 z0] [])
noncomputable def f38_l3_d {R : Type} (g_f38 : Nat → f38_T R) (k : Nat) : Lr D R := ldoor [.list (.named 2), .int .i64, .int .i64] [] (f38_l3_g g_f38 k)
noncomputable def f38_l3_r {R : Type} (_g_f38 : Nat → f38_T R) (_k : Nat) : Lrc D R := noLrc
theorem f38_l3_d_ok {R : Type} (g_f38 : Nat → f38_T R) (h_f38 : ∀ (k : Nat) (e : Dr D R), FnOk Try.prog cx 38 e → FnOk Try.prog cx 38 (f38_d (g_f38 k) e)) : ∀ k, LoopOk Try.prog cx 22 0 f38_ann (f38_l3_d (R := R) g_f38 k) f38_l3_b :=
  loop_ok (keep := kp) (lrc := f38_l3_r (R := R) g_f38) cxOk mixed (f38_o_ok g_f38 h_f38) (show f38_ann (Am.keyOf f38_l3_b) = some f38_l3_a by kernel_rfl) (L := []) (by kernel_rfl) (fun _k => trivial) (J := []) (by kernel_rfl) (fun _k => trivial) (fun _k => LrcNat.no) (fun _x _y _K => by kernel_rfl) (fun _k _x _y _K => by kernel_rfl)
noncomputable def f38_r {R : Type} (g_f38 : Nat → f38_T R) (k : Nat) : Lrc D R := (lrcAdd 3 (f38_l3_d g_f38 k) noLrc)
noncomputable def rec_f38 {R : Type} : Nat → (f38_T R)
  | 0 => (fun _ _ => none)
  | k + 1 => (f38_s (fun _ => (rec_f38 (R := R) k)) k)
theorem rec_f38_succ {R : Type} (k : Nat) : rec_f38 (R := R) (k + 1) = (f38_s (fun _ => (rec_f38 (R := R) k)) k) := rfl
theorem rec_f38_ok {R : Type} : ∀ k, (∀ e : Dr D R, FnOk Try.prog cx 38 e → FnOk Try.prog cx 38 (f38_d (rec_f38 (R := R) k) e))
  | 0 => fun e he => he.door0 fun x y _K => rfl
  | k + 1 => by
    rw [rec_f38_succ]
    exact fun e he => he.door fun _x _y => body_ok (keep := kp) (ann := f38_ann) (lrc := f38_r (R := R) (fun _ => (rec_f38 (R := R) k)) k) (N := 22) (n0 := 0) (c := []) cxOk mixed (f38_o_ok (fun _ => (rec_f38 (R := R) k)) (fun _ e he => (rec_f38_ok (R := R) k) e he) k) (body := f38_b) (by kernel_rfl : Try.prog.funcs[38]? = some Try.f38) (by kernel_rfl) (by kernel_rfl) (by kernel_rfl) (by kernel_rfl) (of_decide_eq_true (by kernel_rfl)) (L := [f38_l3_b]) (by kernel_rfl) (⟨(f38_l3_d_ok (fun _ => (rec_f38 (R := R) k)) (fun _ e he => (rec_f38_ok (R := R) k) e he) k).use (by kernel_rfl), trivial⟩) (J := []) (by kernel_rfl) trivial ((LrcNat.add (f38_l3_d_ok (fun _ => (rec_f38 (R := R) k)) (fun _ e he => (rec_f38_ok (R := R) k) e he) k).2 LrcNat.no)) (fun _K => by kernel_rfl)
noncomputable def f38 {R : Type} (k : Nat) (a0 : List D2) (K : Int → Option R) : Option R := (rec_f38 (R := R) k) a0 K
theorem f38_ok {R : Type} (k : Nat) {e : Dr D R} (he : FnOk Try.prog cx 38 e) : FnOk Try.prog cx 38 (f38_d (f38 k) e) := (rec_f38_ok (R := R) k) e he
theorem f38_step {R : Type} (k : Nat) (a0 : List D2) (K : Int → Option R) : f38 (k + 1) a0 K = f38_s (fun _ => f38 (R := R) k) k a0 K := rfl


end Go.Proofs.Ytklhjegfkpmdoaa

/-! What the functions do, as plain functions; and that they do. -/
namespace Go.Proofs.Ytklhjegfkpmdoaa
open Go Go.Am
abbrev f72_T (R : Type) : Type := List D2 → Bool → Bool → (List Int → Option R) → Option R
/-! ## 72: diorama/dioramaref04.bytes -/
noncomputable def f72_l3 {R : Type} (g_f72 : Nat → f72_T R) : Nat → List D2 → Bool → Bool → Int → List Int → (List Int → Option R) → Option R
  | 0, _, _, _, _, _, _ => none
  | k + 1, v1, v2, v3, v4, v5, X0 =>
  bif decide (v4 < (v1.length : Int)) then
   bif inb v4 v1.length then
    f28 k (D2.c0 (v1.getD v4.toNat zero2)) (fun _v6 v7 =>
     bif room 1 (v5.length + v7.length) then
      bif (D2.c3 (v1.getD v4.toNat zero2)) then
      g_f72 k (D2.c2 (v1.getD v4.toNat zero2)) v2 v3 (fun v8 =>
      bif (D2.c3 (v1.getD v4.toNat zero2)) then
      bif v2 then
      f94 k v8 (fun v9 =>
      bif room 1 (([237, 132, (IntKind.u8.wrap ((shrI .i64 (IntKind.i64.wrap (v9)) 24))), (IntKind.u8.wrap ((shrI .i64 (IntKind.i64.wrap (v9)) 16))), (IntKind.u8.wrap ((shrI .i64 (IntKind.i64.wrap (v9)) 8))), (IntKind.u8.wrap ((IntKind.i64.wrap (v9))))]).length + v8.length) then
      f26 k (D2.c0 (v1.getD v4.toNat zero2)) (fun _v10 _v11 _v12 _v13 v14 _v15 =>
      bif v3 then
      bif v14 then
      bif room 1 ((v5 ++ v7).length + ([255]).length) then
      bif room 1 (((v5 ++ v7) ++ ([255])).length + (([237, 132, (IntKind.u8.wrap ((shrI .i64 (IntKind.i64.wrap (v9)) 24))), (IntKind.u8.wrap ((shrI .i64 (IntKind.i64.wrap (v9)) 16))), (IntKind.u8.wrap ((shrI .i64 (IntKind.i64.wrap (v9)) 8))), (IntKind.u8.wrap ((IntKind.i64.wrap (v9))))]) ++ v8).length) then
      f72_l3 g_f72 k v1 v2 v3 (IntKind.i64.wrap (v4 + 1)) (((v5 ++ v7) ++ ([255])) ++ (([237, 132, (IntKind.u8.wrap ((shrI .i64 (IntKind.i64.wrap (v9)) 24))), (IntKind.u8.wrap ((shrI .i64 (IntKind.i64.wrap (v9)) 16))), (IntKind.u8.wrap ((shrI .i64 (IntKind.i64.wrap (v9)) 8))), (IntKind.u8.wrap ((IntKind.i64.wrap (v9))))]) ++ v8)) X0
      else
      none
      else
      none
      else
      f54 k ((([237, 132, (IntKind.u8.wrap ((shrI .i64 (IntKind.i64.wrap (v9)) 24))), (IntKind.u8.wrap ((shrI .i64 (IntKind.i64.wrap (v9)) 16))), (IntKind.u8.wrap ((shrI .i64 (IntKind.i64.wrap (v9)) 8))), (IntKind.u8.wrap ((IntKind.i64.wrap (v9))))]) ++ v8).length : Int) 0 (fun _v16 v17 =>
      bif room 1 ((v5 ++ v7).length + v17.length) then
      bif room 1 (((v5 ++ v7) ++ v17).length + (([237, 132, (IntKind.u8.wrap ((shrI .i64 (IntKind.i64.wrap (v9)) 24))), (IntKind.u8.wrap ((shrI .i64 (IntKind.i64.wrap (v9)) 16))), (IntKind.u8.wrap ((shrI .i64 (IntKind.i64.wrap (v9)) 8))), (IntKind.u8.wrap ((IntKind.i64.wrap (v9))))]) ++ v8).length) then
      f72_l3 g_f72 k v1 v2 v3 (IntKind.i64.wrap (v4 + 1)) (((v5 ++ v7) ++ v17) ++ (([237, 132, (IntKind.u8.wrap ((shrI .i64 (IntKind.i64.wrap (v9)) 24))), (IntKind.u8.wrap ((shrI .i64 (IntKind.i64.wrap (v9)) 16))), (IntKind.u8.wrap ((shrI .i64 (IntKind.i64.wrap (v9)) 8))), (IntKind.u8.wrap ((IntKind.i64.wrap (v9))))]) ++ v8)) X0
      else
      none
      else
      none)
      else
      f54 k ((([237, 132, (IntKind.u8.wrap ((shrI .i64 (IntKind.i64.wrap (v9)) 24))), (IntKind.u8.wrap ((shrI .i64 (IntKind.i64.wrap (v9)) 16))), (IntKind.u8.wrap ((shrI .i64 (IntKind.i64.wrap (v9)) 8))), (IntKind.u8.wrap ((IntKind.i64.wrap (v9))))]) ++ v8).length : Int) 0 (fun _v18 v19 =>
      bif room 1 ((v5 ++ v7).length + v19.length) then
      bif room 1 (((v5 ++ v7) ++ v19).length + (([237, 132, (IntKind.u8.wrap ((shrI .i64 (IntKind.i64.wrap (v9)) 24))), (IntKind.u8.wrap ((shrI .i64 (IntKind.i64.wrap (v9)) 16))), (IntKind.u8.wrap ((shrI .i64 (IntKind.i64.wrap (v9)) 8))), (IntKind.u8.wrap ((IntKind.i64.wrap (v9))))]) ++ v8).length) then
      f72_l3 g_f72 k v1 v2 v3 (IntKind.i64.wrap (v4 + 1)) (((v5 ++ v7) ++ v19) ++ (([237, 132, (IntKind.u8.wrap ((shrI .i64 (IntKind.i64.wrap (v9)) 24))), (IntKind.u8.wrap ((shrI .i64 (IntKind.i64.wrap (v9)) 16))), (IntKind.u8.wrap ((shrI .i64 (IntKind.i64.wrap (v9)) 8))), (IntKind.u8.wrap ((IntKind.i64.wrap (v9))))]) ++ v8)) X0
      else
      none
      else
      none))
      else
      none)
      else
      f26 k (D2.c0 (v1.getD v4.toNat zero2)) (fun _v20 _v21 _v22 _v23 v24 _v25 =>
      bif v3 then
      bif v24 then
      bif room 1 ((v5 ++ v7).length + ([255]).length) then
      bif room 1 (((v5 ++ v7) ++ ([255])).length + v8.length) then
      f72_l3 g_f72 k v1 v2 v3 (IntKind.i64.wrap (v4 + 1)) (((v5 ++ v7) ++ ([255])) ++ v8) X0
      else
      none
      else
      none
      else
      f54 k (v8.length : Int) 0 (fun _v26 v27 =>
      bif room 1 ((v5 ++ v7).length + v27.length) then
      bif room 1 (((v5 ++ v7) ++ v27).length + v8.length) then
      f72_l3 g_f72 k v1 v2 v3 (IntKind.i64.wrap (v4 + 1)) (((v5 ++ v7) ++ v27) ++ v8) X0
      else
      none
      else
      none)
      else
      f54 k (v8.length : Int) 0 (fun _v28 v29 =>
      bif room 1 ((v5 ++ v7).length + v29.length) then
      bif room 1 (((v5 ++ v7) ++ v29).length + v8.length) then
      f72_l3 g_f72 k v1 v2 v3 (IntKind.i64.wrap (v4 + 1)) (((v5 ++ v7) ++ v29) ++ v8) X0
      else
      none
      else
      none))
      else
      f26 k (D2.c0 (v1.getD v4.toNat zero2)) (fun _v30 _v31 _v32 _v33 v34 _v35 =>
      bif v3 then
      bif v34 then
      bif room 1 ((v5 ++ v7).length + ([255]).length) then
      bif room 1 (((v5 ++ v7) ++ ([255])).length + v8.length) then
      f72_l3 g_f72 k v1 v2 v3 (IntKind.i64.wrap (v4 + 1)) (((v5 ++ v7) ++ ([255])) ++ v8) X0
      else
      none
      else
      none
      else
      f54 k (v8.length : Int) 0 (fun _v36 v37 =>
      bif room 1 ((v5 ++ v7).length + v37.length) then
      bif room 1 (((v5 ++ v7) ++ v37).length + v8.length) then
      f72_l3 g_f72 k v1 v2 v3 (IntKind.i64.wrap (v4 + 1)) (((v5 ++ v7) ++ v37) ++ v8) X0
      else
      none
      else
      none)
      else
      f54 k (v8.length : Int) 0 (fun _v38 v39 =>
      bif room 1 ((v5 ++ v7).length + v39.length) then
      bif room 1 (((v5 ++ v7) ++ v39).length + v8.length) then
      f72_l3 g_f72 k v1 v2 v3 (IntKind.i64.wrap (v4 + 1)) (((v5 ++ v7) ++ v39) ++ v8) X0
      else
      none
      else
      none)))
      else
      bif (D2.c3 (v1.getD v4.toNat zero2)) then
      bif v2 then
      f94 k (D2.c1 (v1.getD v4.toNat zero2)) (fun v40 =>
      bif room 1 (([237, 132, (IntKind.u8.wrap ((shrI .i64 (IntKind.i64.wrap (v40)) 24))), (IntKind.u8.wrap ((shrI .i64 (IntKind.i64.wrap (v40)) 16))), (IntKind.u8.wrap ((shrI .i64 (IntKind.i64.wrap (v40)) 8))), (IntKind.u8.wrap ((IntKind.i64.wrap (v40))))]).length + (D2.c1 (v1.getD v4.toNat zero2)).length) then
      f26 k (D2.c0 (v1.getD v4.toNat zero2)) (fun _v41 _v42 _v43 _v44 v45 _v46 =>
      bif v3 then
      bif v45 then
      bif room 1 ((v5 ++ v7).length + ([255]).length) then
      bif room 1 (((v5 ++ v7) ++ ([255])).length + (([237, 132, (IntKind.u8.wrap ((shrI .i64 (IntKind.i64.wrap (v40)) 24))), (IntKind.u8.wrap ((shrI .i64 (IntKind.i64.wrap (v40)) 16))), (IntKind.u8.wrap ((shrI .i64 (IntKind.i64.wrap (v40)) 8))), (IntKind.u8.wrap ((IntKind.i64.wrap (v40))))]) ++ (D2.c1 (v1.getD v4.toNat zero2))).length) then
      f72_l3 g_f72 k v1 v2 v3 (IntKind.i64.wrap (v4 + 1)) (((v5 ++ v7) ++ ([255])) ++ (([237, 132, (IntKind.u8.wrap ((shrI .i64 (IntKind.i64.wrap (v40)) 24))), (IntKind.u8.wrap ((shrI .i64 (IntKind.i64.wrap (v40)) 16))), (IntKind.u8.wrap ((shrI .i64 (IntKind.i64.wrap (v40)) 8))), (IntKind.u8.wrap ((IntKind.i64.wrap (v40))))]) ++ (D2.c1 (v1.getD v4.toNat zero2)))) X0
      else
      none
      else
      none
      else
      f54 k ((([237, 132, (IntKind.u8.wrap ((shrI .i64 (IntKind.i64.wrap (v40)) 24))), (IntKind.u8.wrap ((shrI .i64 (IntKind.i64.wrap (v40)) 16))), (IntKind.u8.wrap ((shrI .i64 (IntKind.i64.wrap (v40)) 8))), (IntKind.u8.wrap ((IntKind.i64.wrap (v40))))]) ++ (D2.c1 (v1.getD v4.toNat zero2))).length : Int) 0 (fun _v47 v48 =>
      bif room 1 ((v5 ++ v7).length + v48.length) then
      bif room 1 (((v5 ++ v7) ++ v48).length + (([237, 132, (IntKind.u8.wrap ((shrI .i64 (IntKind.i64.wrap (v40)) 24))), (IntKind.u8.wrap ((shrI .i64 (IntKind.i64.wrap (v40)) 16))), (IntKind.u8.wrap ((shrI .i64 (IntKind.i64.wrap (v40)) 8))), (IntKind.u8.wrap ((IntKind.i64.wrap (v40))))]) ++ (D2.c1 (v1.getD v4.toNat zero2))).length) then
      f72_l3 g_f72 k v1 v2 v3 (IntKind.i64.wrap (v4 + 1)) (((v5 ++ v7) ++ v48) ++ (([237, 132, (IntKind.u8.wrap ((shrI .i64 (IntKind.i64.wrap (v40)) 24))), (IntKind.u8.wrap ((shrI .i64 (IntKind.i64.wrap (v40)) 16))), (IntKind.u8.wrap ((shrI .i64 (IntKind.i64.wrap (v40)) 8))), (IntKind.u8.wrap ((IntKind.i64.wrap (v40))))]) ++ (D2.c1 (v1.getD v4.toNat zero2)))) X0
      else
      none
      else
      none)
      else
      f54 k ((([237, 132, (IntKind.u8.wrap ((shrI .i64 (IntKind.i64.wrap (v40)) 24))), (IntKind.u8.wrap ((shrI .i64 (IntKind.i64.wrap (v40)) 16))), (IntKind.u8.wrap ((shrI .i64 (IntKind.i64.wrap (v40)) 8))), (IntKind.u8.wrap ((IntKind.i64.wrap (v40))))]) ++ (D2.c1 (v1.getD v4.toNat zero2))).length : Int) 0 (fun _v49 v50 =>
      bif room 1 ((v5 ++ v7).length + v50.length) then
      bif room 1 (((v5 ++ v7) ++ v50).length + (([237, 132, (IntKind.u8.wrap ((shrI .i64 (IntKind.i64.wrap (v40)) 24))), (IntKind.u8.wrap ((shrI .i64 (IntKind.i64.wrap (v40)) 16))), (IntKind.u8.wrap ((shrI .i64 (IntKind.i64.wrap (v40)) 8))), (IntKind.u8.wrap ((IntKind.i64.wrap (v40))))]) ++ (D2.c1 (v1.getD v4.toNat zero2))).length) then
      f72_l3 g_f72 k v1 v2 v3 (IntKind.i64.wrap (v4 + 1)) (((v5 ++ v7) ++ v50) ++ (([237, 132, (IntKind.u8.wrap ((shrI .i64 (IntKind.i64.wrap (v40)) 24))), (IntKind.u8.wrap ((shrI .i64 (IntKind.i64.wrap (v40)) 16))), (IntKind.u8.wrap ((shrI .i64 (IntKind.i64.wrap (v40)) 8))), (IntKind.u8.wrap ((IntKind.i64.wrap (v40))))]) ++ (D2.c1 (v1.getD v4.toNat zero2)))) X0
      else
      none
      else
      none))
      else
      none)
      else
      f26 k (D2.c0 (v1.getD v4.toNat zero2)) (fun _v51 _v52 _v53 _v54 v55 _v56 =>
      bif v3 then
      bif v55 then
      bif room 1 ((v5 ++ v7).length + ([255]).length) then
      bif room 1 (((v5 ++ v7) ++ ([255])).length + (D2.c1 (v1.getD v4.toNat zero2)).length) then
      f72_l3 g_f72 k v1 v2 v3 (IntKind.i64.wrap (v4 + 1)) (((v5 ++ v7) ++ ([255])) ++ (D2.c1 (v1.getD v4.toNat zero2))) X0
      else
      none
      else
      none
      else
      f54 k ((D2.c1 (v1.getD v4.toNat zero2)).length : Int) 0 (fun _v57 v58 =>
      bif room 1 ((v5 ++ v7).length + v58.length) then
      bif room 1 (((v5 ++ v7) ++ v58).length + (D2.c1 (v1.getD v4.toNat zero2)).length) then
      f72_l3 g_f72 k v1 v2 v3 (IntKind.i64.wrap (v4 + 1)) (((v5 ++ v7) ++ v58) ++ (D2.c1 (v1.getD v4.toNat zero2))) X0
      else
      none
      else
      none)
      else
      f54 k ((D2.c1 (v1.getD v4.toNat zero2)).length : Int) 0 (fun _v59 v60 =>
      bif room 1 ((v5 ++ v7).length + v60.length) then
      bif room 1 (((v5 ++ v7) ++ v60).length + (D2.c1 (v1.getD v4.toNat zero2)).length) then
      f72_l3 g_f72 k v1 v2 v3 (IntKind.i64.wrap (v4 + 1)) (((v5 ++ v7) ++ v60) ++ (D2.c1 (v1.getD v4.toNat zero2))) X0
      else
      none
      else
      none))
      else
      f26 k (D2.c0 (v1.getD v4.toNat zero2)) (fun _v61 _v62 _v63 _v64 v65 _v66 =>
      bif v3 then
      bif v65 then
      bif room 1 ((v5 ++ v7).length + ([255]).length) then
      bif room 1 (((v5 ++ v7) ++ ([255])).length + (D2.c1 (v1.getD v4.toNat zero2)).length) then
      f72_l3 g_f72 k v1 v2 v3 (IntKind.i64.wrap (v4 + 1)) (((v5 ++ v7) ++ ([255])) ++ (D2.c1 (v1.getD v4.toNat zero2))) X0
      else
      none
      else
      none
      else
      f54 k ((D2.c1 (v1.getD v4.toNat zero2)).length : Int) 0 (fun _v67 v68 =>
      bif room 1 ((v5 ++ v7).length + v68.length) then
      bif room 1 (((v5 ++ v7) ++ v68).length + (D2.c1 (v1.getD v4.toNat zero2)).length) then
      f72_l3 g_f72 k v1 v2 v3 (IntKind.i64.wrap (v4 + 1)) (((v5 ++ v7) ++ v68) ++ (D2.c1 (v1.getD v4.toNat zero2))) X0
      else
      none
      else
      none)
      else
      f54 k ((D2.c1 (v1.getD v4.toNat zero2)).length : Int) 0 (fun _v69 v70 =>
      bif room 1 ((v5 ++ v7).length + v70.length) then
      bif room 1 (((v5 ++ v7) ++ v70).length + (D2.c1 (v1.getD v4.toNat zero2)).length) then
      f72_l3 g_f72 k v1 v2 v3 (IntKind.i64.wrap (v4 + 1)) (((v5 ++ v7) ++ v70) ++ (D2.c1 (v1.getD v4.toNat zero2))) X0
      else
      none
      else
      none))
     else
      none)
   else
    none
  else
   X0 v5
noncomputable def f72_s {R : Type} (g_f72 : Nat → f72_T R) (k : Nat) (a0 : List D2) (a1 a2 : Bool) (K : List Int → Option R) : Option R :=
 f72_l3 g_f72 k a0 a1 a2 0 ([] : List Int) K
noncomputable def f72_d {R : Type} (g : f72_T R) (e : Dr D R) : Dr D R := door [.list (.named 2), .bool, .bool] [] (fun (x : (List D2 × Bool × Bool × Unit)) (y : (Unit)) K => g x.1 x.2.1 x.2.2.1 (fun z0 => K ⟨.own 0, [some (.row (.int .u8) z0 true)]⟩)) e
noncomputable def f72_o {R : Type} (g_f72 : Nat → f72_T R) (k : Nat) : Orc D R := (orcAdd 72 (f72_d (g_f72 k) noDr) (orcAdd 28 (f28_d (f28 k) noDr) (orcAdd 94 (f94_d (f94 k) noDr) (orcAdd 26 (f26_d (f26 k) noDr) (orcAdd 54 (f54_d (f54 k) noDr) noOrc)))))
theorem f72_o_ok {R : Type} (g_f72 : Nat → f72_T R) (h_f72 : ∀ (k : Nat) (e : Dr D R), FnOk Try.prog cx 72 e → FnOk Try.prog cx 72 (f72_d (g_f72 k) e)) (k : Nat) : OrcOk Try.prog cx (f72_o (R := R) g_f72 k) := (OrcOk.add (h_f72 k _ FnOk.no) (OrcOk.add (f28_ok k FnOk.no) (OrcOk.add (f94_ok k FnOk.no) (OrcOk.add (f26_ok k FnOk.no) (OrcOk.add (f54_ok k FnOk.no) OrcOk.no)))))
noncomputable def f72_b : Code := bodyOf Try.f72
noncomputable def f72_l3_a : LAnn := ⟨⟨[(.tmp 7, .own 68719489024 (.int .u8))], [0, 1, 2, 7, 8], [68719489024]⟩, exOf (none) [(0, ⟨[], [7], [68719489024]⟩)]⟩
noncomputable def f72_ann : Nat → Option LAnn := fun key => bif Nat.beq key 3 then some f72_l3_a else none
noncomputable def f72_l3_b : Code := loopAt f72_b 0
noncomputable def f72_l3_g {R : Type} (g_f72 : Nat → f72_T R) (k : Nat) (x : (List D2 × Bool × Bool × Unit × Int × Unit)) (y : (List Int × Unit)) (K : KX R) : Option R := f72_l3 g_f72 k x.1 x.2.1 x.2.2.1 x.2.2.2.2.1 y.1 (fun z0 => K (.exit 0) [.own 68719489024] [some (.row (.int .u8) z0 true)])
noncomputable def f72_l3_d {R : Type} (g_f72 : Nat → f72_T R) (k : Nat) : Lr D R := ldoor [.list (.named 2), .bool, .bool, .own 68719489024, .int .i64] [some (.row (.int .u8) true)] (f72_l3_g g_f72 k)
noncomputable def f72_l3_r {R : Type} (_g_f72 : Nat → f72_T R) (_k : Nat) : Lrc D R := noLrc
theorem f72_l3_d_ok {R : Type} (g_f72 : Nat → f72_T R) (h_f72 : ∀ (k : Nat) (e : Dr D R), FnOk Try.prog cx 72 e → FnOk Try.prog cx 72 (f72_d (g_f72 k) e)) : ∀ k, LoopOk Try.prog cx 95 0 f72_ann (f72_l3_d (R := R) g_f72 k) f72_l3_b :=
  loop_ok (keep := kp) (lrc := f72_l3_r (R := R) g_f72) cxOk mixed (f72_o_ok g_f72 h_f72) (show f72_ann (Am.keyOf f72_l3_b) = some f72_l3_a by kernel_rfl) (L := []) (by kernel_rfl) (fun _k => trivial) (J := []) (by kernel_rfl) (fun _k => trivial) (fun _k => LrcNat.no) (fun _x _y _K => by kernel_rfl) (fun _k _x _y _K => by kernel_rfl)
noncomputable def f72_r {R : Type} (g_f72 : Nat → f72_T R) (k : Nat) : Lrc D R := (lrcAdd 3 (f72_l3_d g_f72 k) noLrc)
noncomputable def rec_f72 {R : Type} : Nat → (f72_T R)
  | 0 => (fun _ _ _ _ => none)
  | k + 1 => (f72_s (fun _ => (rec_f72 (R := R) k)) k)
theorem rec_f72_succ {R : Type} (k : Nat) : rec_f72 (R := R) (k + 1) = (f72_s (fun _ => (rec_f72 (R := R) k)) k) := rfl
theorem rec_f72_ok {R : Type} : ∀ k, (∀ e : Dr D R, FnOk Try.prog cx 72 e → FnOk Try.prog cx 72 (f72_d (rec_f72 (R := R) k) e))
  | 0 => fun e he => he.door0 fun x y _K => rfl
  | k + 1 => by
    rw [rec_f72_succ]
    exact fun e he => he.door fun _x _y => body_ok (keep := kp) (ann := f72_ann) (lrc := f72_r (R := R) (fun _ => (rec_f72 (R := R) k)) k) (N := 95) (n0 := 0) (c := []) cxOk mixed (f72_o_ok (fun _ => (rec_f72 (R := R) k)) (fun _ e he => (rec_f72_ok (R := R) k) e he) k) (body := f72_b) (by kernel_rfl : Try.prog.funcs[72]? = some Try.f72) (by kernel_rfl) (by kernel_rfl) (by kernel_rfl) (by kernel_rfl) (of_decide_eq_true (by kernel_rfl)) (L := [f72_l3_b]) (by kernel_rfl) (⟨(f72_l3_d_ok (fun _ => (rec_f72 (R := R) k)) (fun _ e he => (rec_f72_ok (R := R) k) e he) k).use (by kernel_rfl), trivial⟩) (J := []) (by kernel_rfl) trivial ((LrcNat.add (f72_l3_d_ok (fun _ => (rec_f72 (R := R) k)) (fun _ e he => (rec_f72_ok (R := R) k) e he) k).2 LrcNat.no)) (fun _K => by delta f72_s f72_o; generalize @f54 R = a0; generalize @f26 R = a1; generalize @f94 R = a2; generalize @f28 R = a3; revert a0 a1 a2 a3; refine id ?_; intros; kernel_rfl)
noncomputable def f72 {R : Type} (k : Nat) (a0 : List D2) (a1 a2 : Bool) (K : List Int → Option R) : Option R := (rec_f72 (R := R) k) a0 a1 a2 K
theorem f72_ok {R : Type} (k : Nat) {e : Dr D R} (he : FnOk Try.prog cx 72 e) : FnOk Try.prog cx 72 (f72_d (f72 k) e) := (rec_f72_ok (R := R) k) e he
theorem f72_step {R : Type} (k : Nat) (a0 : List D2) (a1 a2 : Bool) (K : List Int → Option R) : f72 (k + 1) a0 a1 a2 K = f72_s (fun _ => f72 (R := R) k) k a0 a1 a2 K := rfl

abbrev f74_T (R : Type) : Type := Int → List Int → List D2 → Bool → Int → (Bool → Int → Option R) → Option R
/-! ## 74: diorama/element.Find$1 -/
noncomputable def f74 {R : Type} (_k : Nat) (a0 : Int) (_a1 : List Int) (_a2 : List D2) (_a3 : Bool) (a4 : Int) (K : Bool → Int → Option R) : Option R :=
 K (a0 == a4) a4
noncomputable def f74_d {R : Type} (g : f74_T R) (e : Dr D R) : Dr D R := door [.agg [.int .i64, .list (.int .u8), .list (.named 2), .bool], .ptr 0 0] [.box [.int .i64]] (fun (x : ((Int × List Int × List D2 × Bool × Unit) × Unit × Unit)) (y : ((Int × Unit) × Unit)) K => g x.1.1 x.1.2.1 x.1.2.2.1 x.1.2.2.2.1 y.1.1 (fun z0 z1 => K ⟨.bool z0, [some (.box [.int .i64 z1])]⟩)) e
noncomputable def f74_o {R : Type} (_k : Nat) : Orc D R := noOrc
theorem f74_o_ok {R : Type} (k : Nat) : OrcOk Try.prog cx (f74_o (R := R) k) := OrcOk.no
noncomputable def f74_b : Code := bodyOf Try.f74
noncomputable def f74_ann : Nat → Option LAnn := fun _key => none
noncomputable def f74_r {R : Type} (_k : Nat) : Lrc D R := noLrc
theorem f74_ok {R : Type} (k : Nat) {e : Dr D R} (he : FnOk Try.prog cx 74 e) : FnOk Try.prog cx 74 (f74_d (f74 k) e) :=
  he.door fun _x _y => body_ok (keep := kp) (ann := f74_ann) (lrc := f74_r (R := R) k) (N := 8) (n0 := 1) (c := []) cxOk mixed (f74_o_ok k) (body := f74_b) (by kernel_rfl : Try.prog.funcs[74]? = some Try.f74) (by kernel_rfl) (by kernel_rfl) (by kernel_rfl) (by kernel_rfl) (of_decide_eq_true (by kernel_rfl)) (L := []) (by kernel_rfl) trivial (J := []) (by kernel_rfl) trivial (LrcNat.no) (fun _K => by kernel_rfl)

abbrev f73_9_T (R : Type) : Type := List D2 → Int → (Int → Int → Option R) → Option R
/-! ## 73: slices.IndexFunc[[]diorama/api.Node,diorama/api.Node] -/
noncomputable def f73_9_l2 {R : Type} : Nat → List D2 → Int → Int → Int → (Int → Option R) → (Int → Int → Option R) → Option R
  | 0, _, _, _, _, _, _ => none
  | k + 1, v1, v2, v3, v4, X0, X1 =>
  bif decide (v3 < v2) then
   bif inb v3 v1.length then
    f74 k (D2.c0 (v1.getD v3.toNat zero2)) (D2.c1 (v1.getD v3.toNat zero2)) (D2.c2 (v1.getD v3.toNat zero2)) (D2.c3 (v1.getD v3.toNat zero2)) v4 (fun v5 v6 =>
     bif v5 then
      X1 v3 v6
     else
      f73_9_l2 k v1 v2 (IntKind.i64.wrap (v3 + 1)) v6 X0 X1)
   else
    none
  else
   X0 v4
noncomputable def f73_9 {R : Type} (k : Nat) (a0 : List D2) (a1 : Int) (K : Int → Int → Option R) : Option R :=
 f73_9_l2 k a0 (a0.length : Int) 0 a1 (fun v7 =>
  K (-1) v7) K
noncomputable def f73_9_d {R : Type} (g : f73_9_T R) (e : Dr D R) : Dr D R := door [.list (.named 2), .fn 74 [.ptr 0 0]] [.box [.int .i64]] (fun (x : (List D2 × (Unit × Unit) × Unit)) (y : ((Int × Unit) × Unit)) K => g x.1 y.1.1 (fun z0 z1 => K ⟨.int .i64 z0, [some (.box [.int .i64 z1])]⟩)) e
noncomputable def f73_9_o {R : Type} (k : Nat) : Orc D R := (orcAdd 74 (f74_d (f74 k) noDr) noOrc)
theorem f73_9_o_ok {R : Type} (k : Nat) : OrcOk Try.prog cx (f73_9_o (R := R) k) := (OrcOk.add (f74_ok k FnOk.no) OrcOk.no)
noncomputable def f73_9_b : Code := bodyOf Try.f73
noncomputable def f73_9_l2_a : LAnn := ⟨⟨[], [0, 1, 7, 8], [0]⟩, exOf (some ⟨[], [4], [0]⟩) [(0, ⟨[], [], [0]⟩)]⟩
noncomputable def f73_9_ann : Nat → Option LAnn := fun key => bif Nat.beq key 2 then some f73_9_l2_a else none
noncomputable def f73_9_l2_b : Code := loopAt f73_9_b 0
noncomputable def f73_9_l2_g {R : Type} (k : Nat) (x : (List D2 × (Unit × Unit) × Int × Int × Unit)) (y : ((Int × Unit) × Unit)) (K : KX R) : Option R := f73_9_l2 k x.1 x.2.2.1 x.2.2.2.1 y.1.1 (fun z0 => K (.exit 0) [] [some (.box [.int .i64 z0])]) (fun z0 z1 => K (.ret) [.int .i64 z0] [some (.box [.int .i64 z1])])
noncomputable def f73_9_l2_d {R : Type} (k : Nat) : Lr D R := ldoor [.list (.named 2), .fn 74 [.ptr 0 0], .int .i64, .int .i64] [some (.box [.int .i64])] (f73_9_l2_g k)
noncomputable def f73_9_l2_r {R : Type} (_k : Nat) : Lrc D R := noLrc
theorem f73_9_l2_d_ok {R : Type} : ∀ k, LoopOk Try.prog cx 19 1 f73_9_ann (f73_9_l2_d (R := R) k) f73_9_l2_b :=
  loop_ok (keep := kp) (lrc := f73_9_l2_r (R := R)) cxOk mixed (f73_9_o_ok) (show f73_9_ann (Am.keyOf f73_9_l2_b) = some f73_9_l2_a by kernel_rfl) (L := []) (by kernel_rfl) (fun _k => trivial) (J := []) (by kernel_rfl) (fun _k => trivial) (fun _k => LrcNat.no) (fun _x _y _K => by kernel_rfl) (fun _k _x _y _K => by kernel_rfl)
noncomputable def f73_9_r {R : Type} (k : Nat) : Lrc D R := (lrcAdd 2 (f73_9_l2_d k) noLrc)
theorem f73_9_ok {R : Type} (k : Nat) {e : Dr D R} (he : FnOk Try.prog cx 73 e) : FnOk Try.prog cx 73 (f73_9_d (f73_9 k) e) :=
  he.door fun _x _y => body_ok (keep := kp) (ann := f73_9_ann) (lrc := f73_9_r (R := R) k) (N := 19) (n0 := 1) (c := []) cxOk mixed (f73_9_o_ok k) (body := f73_9_b) (by kernel_rfl : Try.prog.funcs[73]? = some Try.f73) (by kernel_rfl) (by kernel_rfl) (by kernel_rfl) (by kernel_rfl) (of_decide_eq_true (by kernel_rfl)) (L := [f73_9_l2_b]) (by kernel_rfl) (⟨(f73_9_l2_d_ok k).use (by kernel_rfl), trivial⟩) (J := []) (by kernel_rfl) trivial ((LrcNat.add (f73_9_l2_d_ok k).2 LrcNat.no)) (fun _K => by delta f73_9 f73_9_o; generalize @f74 R = a0; revert a0; refine id ?_; intros; kernel_rfl)

abbrev f110_T (R : Type) : Type := Int → (Int → List Int → Option R) → Option R
/-! ## 110: diorama/bits.Unknown -/
noncomputable def f110 {R : Type} (k : Nat) (a0 : Int) (K : Int → List Int → Option R) : Option R :=
 bif decide (a0 < 1) then
  K 1 ([] : List Int)
 else
  bif decide (a0 > 8) then
   K 1 ([] : List Int)
  else
   f82 k a0 (fun v1 =>
    f83 k (IntKind.u64.wrap (v1)) a0 (fun v2 =>
     K 0 v2))
noncomputable def f110_d {R : Type} (g : f110_T R) (e : Dr D R) : Dr D R := door [.int .i64] [] (fun (x : (Int × Unit)) (y : (Unit)) K => g x.1 (fun z0 z1 => K ⟨.tup [.own 0, .int .i64 z0], [some (.row (.int .u8) z1 true)]⟩)) e
noncomputable def f110_o {R : Type} (k : Nat) : Orc D R := (orcAdd 83 (f83_d (f83 k) noDr) (orcAdd 82 (f82_d (f82 k) noDr) noOrc))
theorem f110_o_ok {R : Type} (k : Nat) : OrcOk Try.prog cx (f110_o (R := R) k) := (OrcOk.add (f83_ok k FnOk.no) (OrcOk.add (f82_ok k FnOk.no) OrcOk.no))
noncomputable def f110_b : Code := bodyOf Try.f110
noncomputable def f110_ann : Nat → Option LAnn := fun _key => none
noncomputable def f110_r {R : Type} (_k : Nat) : Lrc D R := noLrc
theorem f110_ok {R : Type} (k : Nat) {e : Dr D R} (he : FnOk Try.prog cx 110 e) : FnOk Try.prog cx 110 (f110_d (f110 k) e) :=
  he.door fun _x _y => body_ok (keep := kp) (ann := f110_ann) (lrc := f110_r (R := R) k) (N := 15) (n0 := 0) (c := [(.tmp 2, .own 1099511627776 (.int .u8))]) cxOk mixed (f110_o_ok k) (body := f110_b) (by kernel_rfl : Try.prog.funcs[110]? = some Try.f110) (by kernel_rfl) (by kernel_rfl) (by kernel_rfl) (by kernel_rfl) (of_decide_eq_true (by kernel_rfl)) (L := []) (by kernel_rfl) trivial (J := []) (by kernel_rfl) trivial (LrcNat.no) (fun _K => by delta f110 f110_o; generalize @f82 R = a0; generalize @f83 R = a1; revert a0 a1; refine id ?_; intros; kernel_rfl)

abbrev f106_2_T (R : Type) : Type := Bool → Bool → Int → List Int → List D2 → Bool → (List Int → Option R) → Option R
abbrev f97_T (R : Type) : Type := Bool → Bool → List D2 → (List Int → Option R) → Option R
/-! ## 106: (diorama/element.writer).node -/
noncomputable def f106_2_s {R : Type} (g_f97 : Nat → f97_T R) (k : Nat) (a0 a1 : Bool) (a2 : Int) (a3 : List Int) (a4 : List D2) (a5 : Bool) (K : List Int → Option R) : Option R :=
 f27 k a2 (fun _v1 v2 =>
  bif a5 then
   g_f97 k a0 a1 a4 (fun v3 =>
    bif a0 then
     f108 k v3 (fun v4 =>
      f61 k (IntKind.i64.wrap (v4)) 4 (fun _v5 v6 =>
      f53 k ([[237, 132], v6, v3]) (fun v7 =>
      f52 k (v7.length : Int) 0 (fun _v8 v9 =>
      f25 k a2 (fun _v10 _v11 _v12 _v13 v14 _v15 =>
      bif v14 then
      bif a1 then
      f110 k 1 (fun _v16 v17 =>
      f53 k ([v2, v17, v7]) K)
      else
      f53 k ([v2, v9, v7]) K
      else
      f53 k ([v2, v9, v7]) K)))))
    else
     f52 k (v3.length : Int) 0 (fun _v21 v22 =>
      f25 k a2 (fun _v23 _v24 _v25 _v26 v27 _v28 =>
      bif v27 then
      bif a1 then
      f110 k 1 (fun _v29 v30 =>
      f53 k ([v2, v30, v3]) K)
      else
      f53 k ([v2, v22, v3]) K
      else
      f53 k ([v2, v22, v3]) K)))
  else
   f52 k (a3.length : Int) 0 (fun _v34 v35 =>
    f25 k a2 (fun _v36 _v37 _v38 _v39 v40 _v41 =>
     bif v40 then
      bif a1 then
      f110 k 1 (fun _v42 v43 =>
      f53 k ([v2, v43, a3]) K)
      else
      f53 k ([v2, v35, a3]) K
     else
      f53 k ([v2, v35, a3]) K)))
noncomputable def f106_2_d {R : Type} (g : f106_2_T R) (e : Dr D R) : Dr D R := door [.agg [.bool, .bool], .agg [.int .i64, .list (.int .u8), .list (.named 2), .bool]] [] (fun (x : ((Bool × Bool × Unit) × (Int × List Int × List D2 × Bool × Unit) × Unit)) (y : (Unit)) K => g x.1.1 x.1.2.1 x.2.1.1 x.2.1.2.1 x.2.1.2.2.1 x.2.1.2.2.2.1 (fun z0 => K ⟨.own 0, [some (.row (.int .u8) z0 true)]⟩)) e
/-! ## 97: (diorama/element.writer).list -/
noncomputable def f97_l3 {R : Type} (g_f106_2 : Nat → f106_2_T R) : Nat → List D2 → Int → Int → Bool → Bool → List Int → (List Int → Option R) → Option R
  | 0, _, _, _, _, _, _, _ => none
  | k + 1, v1, v2, v3, v4, v5, v6, X0 =>
  bif decide (v3 < v2) then
   bif inb v3 v1.length then
    g_f106_2 k v4 v5 (D2.c0 (v1.getD v3.toNat zero2)) (D2.c1 (v1.getD v3.toNat zero2)) (D2.c2 (v1.getD v3.toNat zero2)) (D2.c3 (v1.getD v3.toNat zero2)) (fun v7 =>
     bif room 1 (v6.length + v7.length) then
      f97_l3 g_f106_2 k v1 v2 (IntKind.i64.wrap (v3 + 1)) v4 v5 (v6 ++ v7) X0
     else
      none)
   else
    none
  else
   X0 v6
noncomputable def f97_s {R : Type} (g_f106_2 : Nat → f106_2_T R) (k : Nat) (a0 a1 : Bool) (a2 : List D2) (K : List Int → Option R) : Option R :=
 f97_l3 g_f106_2 k a2 (a2.length : Int) 0 a0 a1 ([] : List Int) K
noncomputable def f97_d {R : Type} (g : f97_T R) (e : Dr D R) : Dr D R := door [.agg [.bool, .bool], .list (.named 2)] [] (fun (x : ((Bool × Bool × Unit) × List D2 × Unit)) (y : (Unit)) K => g x.1.1 x.1.2.1 x.2.1 (fun z0 => K ⟨.own 0, [some (.row (.int .u8) z0 true)]⟩)) e
noncomputable def f106_2_o {R : Type} (g_f97 : Nat → f97_T R) (k : Nat) : Orc D R := (orcAdd 97 (f97_d (g_f97 k) noDr) (orcAdd 110 (f110_d (f110 k) noDr) (orcAdd 27 (f27_d (f27 k) noDr) (orcAdd 61 (f61_d (f61 k) noDr) (orcAdd 108 (f108_d (f108 k) noDr) (orcAdd 25 (f25_d (f25 k) noDr) (orcAdd 53 (f53_d (f53 k) noDr) (orcAdd 52 (f52_d (f52 k) noDr) noOrc))))))))
theorem f106_2_o_ok {R : Type} (g_f97 : Nat → f97_T R) (h_f97 : ∀ (k : Nat) (e : Dr D R), FnOk Try.prog cx 97 e → FnOk Try.prog cx 97 (f97_d (g_f97 k) e)) (k : Nat) : OrcOk Try.prog cx (f106_2_o (R := R) g_f97 k) := (OrcOk.add (h_f97 k _ FnOk.no) (OrcOk.add (f110_ok k FnOk.no) (OrcOk.add (f27_ok k FnOk.no) (OrcOk.add (f61_ok k FnOk.no) (OrcOk.add (f108_ok k FnOk.no) (OrcOk.add (f25_ok k FnOk.no) (OrcOk.add (f53_ok k FnOk.no) (OrcOk.add (f52_ok k FnOk.no) OrcOk.no))))))))
noncomputable def f106_2_b : Code := bodyOf Try.f106
noncomputable def f106_2_ann : Nat → Option LAnn := fun _key => none
noncomputable def f106_2_r {R : Type} (_g_f97 : Nat → f97_T R) (_k : Nat) : Lrc D R := noLrc
noncomputable def f97_o {R : Type} (g_f106_2 : Nat → f106_2_T R) (k : Nat) : Orc D R := (orcAdd 106 (f106_2_d (g_f106_2 k) noDr) noOrc)
theorem f97_o_ok {R : Type} (g_f106_2 : Nat → f106_2_T R) (h_f106_2 : ∀ (k : Nat) (e : Dr D R), FnOk Try.prog cx 106 e → FnOk Try.prog cx 106 (f106_2_d (g_f106_2 k) e)) (k : Nat) : OrcOk Try.prog cx (f97_o (R := R) g_f106_2 k) := (OrcOk.add (h_f106_2 k _ FnOk.no) OrcOk.no)
noncomputable def f97_b : Code := bodyOf Try.f97
noncomputable def f97_l3_a : LAnn := ⟨⟨[(.tmp 5, .own 68719489024 (.int .u8))], [2, 5, 8, 9, 10], [65584, 68719489024]⟩, exOf (none) [(0, ⟨[], [5], [68719489024]⟩)]⟩
noncomputable def f97_ann : Nat → Option LAnn := fun key => bif Nat.beq key 3 then some f97_l3_a else none
noncomputable def f97_l3_b : Code := loopAt f97_b 0
noncomputable def f97_l3_g {R : Type} (g_f106_2 : Nat → f106_2_T R) (k : Nat) (x : (Unit × Unit × List D2 × Int × Int × Unit)) (y : ((Bool × Bool × Unit) × List Int × Unit)) (K : KX R) : Option R := f97_l3 g_f106_2 k x.2.2.1 x.2.2.2.1 x.2.2.2.2.1 y.1.1 y.1.2.1 y.2.1 (fun z0 => K (.exit 0) [.own 68719489024] [some (.row (.int .u8) z0 true)])
noncomputable def f97_l3_d {R : Type} (g_f106_2 : Nat → f106_2_T R) (k : Nat) : Lr D R := ldoor [.ptr 65584 0, .own 68719489024, .list (.named 2), .int .i64, .int .i64] [some (.box [.bool, .bool]), some (.row (.int .u8) true)] (f97_l3_g g_f106_2 k)
noncomputable def f97_l3_r {R : Type} (_g_f106_2 : Nat → f106_2_T R) (_k : Nat) : Lrc D R := noLrc
theorem f97_l3_d_ok {R : Type} (g_f106_2 : Nat → f106_2_T R) (h_f106_2 : ∀ (k : Nat) (e : Dr D R), FnOk Try.prog cx 106 e → FnOk Try.prog cx 106 (f106_2_d (g_f106_2 k) e)) : ∀ k, LoopOk Try.prog cx 21 0 f97_ann (f97_l3_d (R := R) g_f106_2 k) f97_l3_b :=
  loop_ok (keep := kp) (lrc := f97_l3_r (R := R) g_f106_2) cxOk mixed (f97_o_ok g_f106_2 h_f106_2) (show f97_ann (Am.keyOf f97_l3_b) = some f97_l3_a by kernel_rfl) (L := []) (by kernel_rfl) (fun _k => trivial) (J := []) (by kernel_rfl) (fun _k => trivial) (fun _k => LrcNat.no) (fun _x _y _K => by kernel_rfl) (fun _k _x _y _K => by kernel_rfl)
noncomputable def f97_r {R : Type} (g_f106_2 : Nat → f106_2_T R) (k : Nat) : Lrc D R := (lrcAdd 3 (f97_l3_d g_f106_2 k) noLrc)
noncomputable def rec_f106_2 {R : Type} : Nat → (f106_2_T R) × (f97_T R)
  | 0 => (fun _ _ _ _ _ _ _ => none, fun _ _ _ _ => none)
  | k + 1 => (f106_2_s (fun _ => (rec_f106_2 (R := R) k).2) k, f97_s (fun _ => (rec_f106_2 (R := R) k).1) k)
theorem rec_f106_2_succ {R : Type} (k : Nat) : rec_f106_2 (R := R) (k + 1) = (f106_2_s (fun _ => (rec_f106_2 (R := R) k).2) k, f97_s (fun _ => (rec_f106_2 (R := R) k).1) k) := rfl
theorem rec_f106_2_ok {R : Type} : ∀ k, (∀ e : Dr D R, FnOk Try.prog cx 106 e → FnOk Try.prog cx 106 (f106_2_d (rec_f106_2 (R := R) k).1 e)) ∧ (∀ e : Dr D R, FnOk Try.prog cx 97 e → FnOk Try.prog cx 97 (f97_d (rec_f106_2 (R := R) k).2 e))
  | 0 => ⟨fun e he => he.door0 fun x y K => rfl, fun e he => he.door0 fun x y _K => rfl⟩
  | k + 1 => by
    rw [rec_f106_2_succ]
    exact ⟨fun e he => he.door fun x y => body_ok (keep := kp) (ann := f106_2_ann) (lrc := f106_2_r (R := R) (fun _ => (rec_f106_2 (R := R) k).2) k) (N := 69) (n0 := 0) (c := []) cxOk mixed (f106_2_o_ok (fun _ => (rec_f106_2 (R := R) k).2) (fun _ e he => (rec_f106_2_ok (R := R) k).2 e he) k) (body := f106_2_b) (by kernel_rfl : Try.prog.funcs[106]? = some Try.f106) (by kernel_rfl) (by kernel_rfl) (by kernel_rfl) (by kernel_rfl) (of_decide_eq_true (by kernel_rfl)) (L := []) (by kernel_rfl) trivial (J := []) (by kernel_rfl) trivial (LrcNat.no) (fun _K => by delta f106_2_s f106_2_o; generalize @f52 R = a0; generalize @f53 R = a1; generalize @f25 R = a2; generalize @f108 R = a3; generalize @f61 R = a4; generalize @f27 R = a5; generalize @f110 R = a6; revert a0 a1 a2 a3 a4 a5 a6; refine id ?_; intros; kernel_rfl),
      fun e he => he.door fun _x _y => body_ok (keep := kp) (ann := f97_ann) (lrc := f97_r (R := R) (fun _ => (rec_f106_2 (R := R) k).1) k) (N := 21) (n0 := 0) (c := []) cxOk mixed (f97_o_ok (fun _ => (rec_f106_2 (R := R) k).1) (fun _ e he => (rec_f106_2_ok (R := R) k).1 e he) k) (body := f97_b) (by kernel_rfl : Try.prog.funcs[97]? = some Try.f97) (by kernel_rfl) (by kernel_rfl) (by kernel_rfl) (by kernel_rfl) (of_decide_eq_true (by kernel_rfl)) (L := [f97_l3_b]) (by kernel_rfl) (⟨(f97_l3_d_ok (fun _ => (rec_f106_2 (R := R) k).1) (fun _ e he => (rec_f106_2_ok (R := R) k).1 e he) k).use (by kernel_rfl), trivial⟩) (J := []) (by kernel_rfl) trivial ((LrcNat.add (f97_l3_d_ok (fun _ => (rec_f106_2 (R := R) k).1) (fun _ e he => (rec_f106_2_ok (R := R) k).1 e he) k).2 LrcNat.no)) (fun _K => by kernel_rfl)⟩
noncomputable def f106_2 {R : Type} (k : Nat) (a0 a1 : Bool) (a2 : Int) (a3 : List Int) (a4 : List D2) (a5 : Bool) (K : List Int → Option R) : Option R := (rec_f106_2 (R := R) k).1 a0 a1 a2 a3 a4 a5 K
theorem f106_2_ok {R : Type} (k : Nat) {e : Dr D R} (he : FnOk Try.prog cx 106 e) : FnOk Try.prog cx 106 (f106_2_d (f106_2 k) e) := (rec_f106_2_ok (R := R) k).1 e he
noncomputable def f97 {R : Type} (k : Nat) (a0 a1 : Bool) (a2 : List D2) (K : List Int → Option R) : Option R := (rec_f106_2 (R := R) k).2 a0 a1 a2 K
theorem f97_ok {R : Type} (k : Nat) {e : Dr D R} (he : FnOk Try.prog cx 97 e) : FnOk Try.prog cx 97 (f97_d (f97 k) e) := (rec_f106_2_ok (R := R) k).2 e he
theorem f106_2_step {R : Type} (k : Nat) (a0 a1 : Bool) (a2 : Int) (a3 : List Int) (a4 : List D2) (a5 : Bool) (K : List Int → Option R) : f106_2 (k + 1) a0 a1 a2 a3 a4 a5 K = f106_2_s (fun _ => f97 (R := R) k) k a0 a1 a2 a3 a4 a5 K := rfl
theorem f97_step {R : Type} (k : Nat) (a0 a1 : Bool) (a2 : List D2) (K : List Int → Option R) : f97 (k + 1) a0 a1 a2 K = f97_s (fun _ => f106_2 (R := R) k) k a0 a1 a2 K := rfl

abbrev f79_T (R : Type) : Type := Bool → Bool → List D2 → (Int → List Int → Option R) → Option R
/-! ## 79: (diorama/element.writer).tree -/
noncomputable def f79 {R : Type} (k : Nat) (a0 a1 : Bool) (a2 : List D2) (K : Int → List Int → Option R) : Option R :=
 f37 k a2 (fun v1 =>
  bif (v1 != 0) then
   K v1 ([] : List Int)
  else
   f97 k a0 a1 a2 (fun v2 =>
    bif decide ((v2.length : Int) > 1048576) then
     K 2 ([] : List Int)
    else
     K 0 v2))
noncomputable def f79_d {R : Type} (g : f79_T R) (e : Dr D R) : Dr D R := door [.agg [.bool, .bool], .list (.named 2)] [] (fun (x : ((Bool × Bool × Unit) × List D2 × Unit)) (y : (Unit)) K => g x.1.1 x.1.2.1 x.2.1 (fun z0 z1 => K ⟨.tup [.own 0, .int .i64 z0], [some (.row (.int .u8) z1 true)]⟩)) e
noncomputable def f79_o {R : Type} (k : Nat) : Orc D R := (orcAdd 97 (f97_d (f97 k) noDr) (orcAdd 37 (f37_d (f37 k) noDr) noOrc))
theorem f79_o_ok {R : Type} (k : Nat) : OrcOk Try.prog cx (f79_o (R := R) k) := (OrcOk.add (f97_ok k FnOk.no) (OrcOk.add (f37_ok k FnOk.no) OrcOk.no))
noncomputable def f79_b : Code := bodyOf Try.f79
noncomputable def f79_ann : Nat → Option LAnn := fun _key => none
noncomputable def f79_r {R : Type} (_k : Nat) : Lrc D R := noLrc
theorem f79_ok {R : Type} (k : Nat) {e : Dr D R} (he : FnOk Try.prog cx 79 e) : FnOk Try.prog cx 79 (f79_d (f79 k) e) :=
  he.door fun _x _y => body_ok (keep := kp) (ann := f79_ann) (lrc := f79_r (R := R) k) (N := 20) (n0 := 0) (c := [(.tmp 4, .own 1099511627776 (.int .u8))]) cxOk mixed (f79_o_ok k) (body := f79_b) (by kernel_rfl : Try.prog.funcs[79]? = some Try.f79) (by kernel_rfl) (by kernel_rfl) (by kernel_rfl) (by kernel_rfl) (of_decide_eq_true (by kernel_rfl)) (L := []) (by kernel_rfl) trivial (J := []) (by kernel_rfl) trivial (LrcNat.no) (fun _K => by delta f79 f79_o; generalize @f37 R = a0; generalize @f97 R = a1; revert a0 a1; refine id ?_; intros; kernel_rfl)

abbrev f47_T (R : Type) : Type := List D2 → Bool → (Int → List Int → Option R) → Option R
/-! ## 47: diorama/element.Write -/
noncomputable def f47 {R : Type} (k : Nat) (a0 : List D2) (a1 : Bool) (K : Int → List Int → Option R) : Option R :=
 f79 k a1 false a0 K
noncomputable def f47_d {R : Type} (g : f47_T R) (e : Dr D R) : Dr D R := door [.list (.named 2), .bool] [] (fun (x : (List D2 × Bool × Unit)) (y : (Unit)) K => g x.1 x.2.1 (fun z0 z1 => K ⟨.tup [.own 0, .int .i64 z0], [some (.row (.int .u8) z1 true)]⟩)) e
noncomputable def f47_o {R : Type} (k : Nat) : Orc D R := (orcAdd 79 (f79_d (f79 k) noDr) noOrc)
theorem f47_o_ok {R : Type} (k : Nat) : OrcOk Try.prog cx (f47_o (R := R) k) := (OrcOk.add (f79_ok k FnOk.no) OrcOk.no)
noncomputable def f47_b : Code := bodyOf Try.f47
noncomputable def f47_ann : Nat → Option LAnn := fun _key => none
noncomputable def f47_r {R : Type} (_k : Nat) : Lrc D R := noLrc
theorem f47_ok {R : Type} (k : Nat) {e : Dr D R} (he : FnOk Try.prog cx 47 e) : FnOk Try.prog cx 47 (f47_d (f47 k) e) :=
  he.door fun _x _y => body_ok (keep := kp) (ann := f47_ann) (lrc := f47_r (R := R) k) (N := 12) (n0 := 0) (c := []) cxOk mixed (f47_o_ok k) (body := f47_b) (by kernel_rfl : Try.prog.funcs[47]? = some Try.f47) (by kernel_rfl) (by kernel_rfl) (by kernel_rfl) (by kernel_rfl) (of_decide_eq_true (by kernel_rfl)) (L := []) (by kernel_rfl) trivial (J := []) (by kernel_rfl) trivial (LrcNat.no) (fun _K => by delta f47 f47_o; generalize @f79 R = a0; revert a0; refine id ?_; intros; kernel_rfl)


end Go.Proofs.Ytklhjegfkpmdoaa

/-! What the functions do, as plain functions; and that they do. -/
namespace Go.Proofs.Ytklhjegfkpmdoaa
open Go Go.Am
abbrev f81_T (R : Type) : Type := List D2 → Int → Int → Int → (Bool → Option R) → Option R
/-! ## 81: diorama/dioramaref04.tested -/
noncomputable def f81_l2 {R : Type} (g_f81 : Nat → f81_T R) : Nat → List D2 → Int → Int → Int → Int → Option R → (Bool → Option R) → Option R
  | 0, _, _, _, _, _, _, _ => none
  | k + 1, v1, v2, v3, v4, v5, X0, X1 =>
  bif decide (v5 < (v1.length : Int)) then
   bif inb v5 v1.length then
    f26 k (D2.c0 (v1.getD v5.toNat zero2)) (fun v6 v7 v8 v9 v10 v11 =>
     bif (v4 == 1) then
      bif (!v11) then
      X1 true
      else
      bif decide (v8 < 0) then
      X1 true
      else
      bif (!(v9 == (D2.c3 (v1.getD v5.toNat zero2)))) then
      X1 true
      else
      bif (!(D2.c3 (v1.getD v5.toNat zero2))) then
      bif decide (((D2.c2 (v1.getD v5.toNat zero2)).length : Int) > 0) then
      X1 true
      else
      bif (D2.c3 (v1.getD v5.toNat zero2)) then
      bif decide (((D2.c1 (v1.getD v5.toNat zero2)).length : Int) > 0) then
      X1 true
      else
      g_f81 k (D2.c2 (v1.getD v5.toNat zero2)) (D2.c0 (v1.getD v5.toNat zero2)) (IntKind.i64.wrap (v3 + 1)) v4 (fun v12 =>
      bif v12 then
      X1 true
      else
      f81_l2 g_f81 k v1 v2 v3 v4 (IntKind.i64.wrap (v5 + 1)) X0 X1)
      else
      g_f81 k (D2.c2 (v1.getD v5.toNat zero2)) (D2.c0 (v1.getD v5.toNat zero2)) (IntKind.i64.wrap (v3 + 1)) v4 (fun v13 =>
      bif v13 then
      X1 true
      else
      f81_l2 g_f81 k v1 v2 v3 v4 (IntKind.i64.wrap (v5 + 1)) X0 X1)
      else
      bif (D2.c3 (v1.getD v5.toNat zero2)) then
      bif decide (((D2.c1 (v1.getD v5.toNat zero2)).length : Int) > 0) then
      X1 true
      else
      g_f81 k (D2.c2 (v1.getD v5.toNat zero2)) (D2.c0 (v1.getD v5.toNat zero2)) (IntKind.i64.wrap (v3 + 1)) v4 (fun v14 =>
      bif v14 then
      X1 true
      else
      f81_l2 g_f81 k v1 v2 v3 v4 (IntKind.i64.wrap (v5 + 1)) X0 X1)
      else
      g_f81 k (D2.c2 (v1.getD v5.toNat zero2)) (D2.c0 (v1.getD v5.toNat zero2)) (IntKind.i64.wrap (v3 + 1)) v4 (fun v15 =>
      bif v15 then
      X1 true
      else
      f81_l2 g_f81 k v1 v2 v3 v4 (IntKind.i64.wrap (v5 + 1)) X0 X1)
     else
      bif (v4 == 2) then
      f98 k v6 v7 v8 v9 v10 v2 (fun v16 =>
      bif (!v16) then
      X1 true
      else
      g_f81 k (D2.c2 (v1.getD v5.toNat zero2)) (D2.c0 (v1.getD v5.toNat zero2)) (IntKind.i64.wrap (v3 + 1)) v4 (fun v17 =>
      bif v17 then
      X1 true
      else
      f81_l2 g_f81 k v1 v2 v3 v4 (IntKind.i64.wrap (v5 + 1)) X0 X1))
      else
      bif (v4 == 3) then
      bif decide (v3 > 8) then
      X1 true
      else
      g_f81 k (D2.c2 (v1.getD v5.toNat zero2)) (D2.c0 (v1.getD v5.toNat zero2)) (IntKind.i64.wrap (v3 + 1)) v4 (fun v18 =>
      bif v18 then
      X1 true
      else
      f81_l2 g_f81 k v1 v2 v3 v4 (IntKind.i64.wrap (v5 + 1)) X0 X1)
      else
      g_f81 k (D2.c2 (v1.getD v5.toNat zero2)) (D2.c0 (v1.getD v5.toNat zero2)) (IntKind.i64.wrap (v3 + 1)) v4 (fun v19 =>
      bif v19 then
      X1 true
      else
      f81_l2 g_f81 k v1 v2 v3 v4 (IntKind.i64.wrap (v5 + 1)) X0 X1))
   else
    none
  else
   X0
noncomputable def f81_s {R : Type} (g_f81 : Nat → f81_T R) (k : Nat) (a0 : List D2) (a1 a2 a3 : Int) (K : Bool → Option R) : Option R :=
 f81_l2 g_f81 k a0 a1 a2 a3 0 (
  K false) K
noncomputable def f81_d {R : Type} (g : f81_T R) (e : Dr D R) : Dr D R := door [.list (.named 2), .int .i64, .int .i64, .int .i64] [] (fun (x : (List D2 × Int × Int × Int × Unit)) (y : (Unit)) K => g x.1 x.2.1 x.2.2.1 x.2.2.2.1 (fun z0 => K ⟨.bool z0, []⟩)) e
noncomputable def f81_o {R : Type} (g_f81 : Nat → f81_T R) (k : Nat) : Orc D R := (orcAdd 81 (f81_d (g_f81 k) noDr) (orcAdd 98 (f98_d (f98 k) noDr) (orcAdd 26 (f26_d (f26 k) noDr) noOrc)))
theorem f81_o_ok {R : Type} (g_f81 : Nat → f81_T R) (h_f81 : ∀ (k : Nat) (e : Dr D R), FnOk Try.prog cx 81 e → FnOk Try.prog cx 81 (f81_d (g_f81 k) e)) (k : Nat) : OrcOk Try.prog cx (f81_o (R := R) g_f81 k) := (OrcOk.add (h_f81 k _ FnOk.no) (OrcOk.add (f98_ok k FnOk.no) (OrcOk.add (f26_ok k FnOk.no) OrcOk.no)))
noncomputable def f81_b : Code := bodyOf Try.f81
noncomputable def f81_l2_a : LAnn := ⟨⟨[], [0, 1, 2, 3, 9], []⟩, exOf (some ⟨[], [8], []⟩) [(0, ⟨[], [], []⟩)]⟩
noncomputable def f81_ann : Nat → Option LAnn := fun key => bif Nat.beq key 2 then some f81_l2_a else none
noncomputable def f81_l2_b : Code := loopAt f81_b 0
noncomputable def f81_l2_g {R : Type} (g_f81 : Nat → f81_T R) (k : Nat) (x : (List D2 × Int × Int × Int × Int × Unit)) (_y : (Unit)) (K : KX R) : Option R := f81_l2 g_f81 k x.1 x.2.1 x.2.2.1 x.2.2.2.1 x.2.2.2.2.1 (K (.exit 0) [] []) (fun z0 => K (.ret) [.bool z0] [])
noncomputable def f81_l2_d {R : Type} (g_f81 : Nat → f81_T R) (k : Nat) : Lr D R := ldoor [.list (.named 2), .int .i64, .int .i64, .int .i64, .int .i64] [] (f81_l2_g g_f81 k)
noncomputable def f81_l2_r {R : Type} (_g_f81 : Nat → f81_T R) (_k : Nat) : Lrc D R := noLrc
theorem f81_l2_d_ok {R : Type} (g_f81 : Nat → f81_T R) (h_f81 : ∀ (k : Nat) (e : Dr D R), FnOk Try.prog cx 81 e → FnOk Try.prog cx 81 (f81_d (g_f81 k) e)) : ∀ k, LoopOk Try.prog cx 88 0 f81_ann (f81_l2_d (R := R) g_f81 k) f81_l2_b :=
  loop_ok (keep := kp) (lrc := f81_l2_r (R := R) g_f81) cxOk mixed (f81_o_ok g_f81 h_f81) (show f81_ann (Am.keyOf f81_l2_b) = some f81_l2_a by kernel_rfl) (L := []) (by kernel_rfl) (fun _k => trivial) (J := []) (by kernel_rfl) (fun _k => trivial) (fun _k => LrcNat.no) (fun _x _y _K => by kernel_rfl) (fun _k _x _y _K => by kernel_rfl)
noncomputable def f81_r {R : Type} (g_f81 : Nat → f81_T R) (k : Nat) : Lrc D R := (lrcAdd 2 (f81_l2_d g_f81 k) noLrc)
noncomputable def rec_f81 {R : Type} : Nat → (f81_T R)
  | 0 => (fun _ _ _ _ _ => none)
  | k + 1 => (f81_s (fun _ => (rec_f81 (R := R) k)) k)
theorem rec_f81_succ {R : Type} (k : Nat) : rec_f81 (R := R) (k + 1) = (f81_s (fun _ => (rec_f81 (R := R) k)) k) := rfl
theorem rec_f81_ok {R : Type} : ∀ k, (∀ e : Dr D R, FnOk Try.prog cx 81 e → FnOk Try.prog cx 81 (f81_d (rec_f81 (R := R) k) e))
  | 0 => fun e he => he.door0 fun x y _K => rfl
  | k + 1 => by
    rw [rec_f81_succ]
    exact fun e he => he.door fun _x _y => body_ok (keep := kp) (ann := f81_ann) (lrc := f81_r (R := R) (fun _ => (rec_f81 (R := R) k)) k) (N := 88) (n0 := 0) (c := []) cxOk mixed (f81_o_ok (fun _ => (rec_f81 (R := R) k)) (fun _ e he => (rec_f81_ok (R := R) k) e he) k) (body := f81_b) (by kernel_rfl : Try.prog.funcs[81]? = some Try.f81) (by kernel_rfl) (by kernel_rfl) (by kernel_rfl) (by kernel_rfl) (of_decide_eq_true (by kernel_rfl)) (L := [f81_l2_b]) (by kernel_rfl) (⟨(f81_l2_d_ok (fun _ => (rec_f81 (R := R) k)) (fun _ e he => (rec_f81_ok (R := R) k) e he) k).use (by kernel_rfl), trivial⟩) (J := []) (by kernel_rfl) trivial ((LrcNat.add (f81_l2_d_ok (fun _ => (rec_f81 (R := R) k)) (fun _ e he => (rec_f81_ok (R := R) k) e he) k).2 LrcNat.no)) (fun _K => by delta f81_s f81_o; generalize @f26 R = a0; generalize @f98 R = a1; revert a0 a1; refine id ?_; intros; kernel_rfl)
noncomputable def f81 {R : Type} (k : Nat) (a0 : List D2) (a1 a2 a3 : Int) (K : Bool → Option R) : Option R := (rec_f81 (R := R) k) a0 a1 a2 a3 K
theorem f81_ok {R : Type} (k : Nat) {e : Dr D R} (he : FnOk Try.prog cx 81 e) : FnOk Try.prog cx 81 (f81_d (f81 k) e) := (rec_f81_ok (R := R) k) e he
theorem f81_step {R : Type} (k : Nat) (a0 : List D2) (a1 a2 a3 : Int) (K : Bool → Option R) : f81 (k + 1) a0 a1 a2 a3 K = f81_s (fun _ => f81 (R := R) k) k a0 a1 a2 a3 K := rfl

abbrev f51_T (R : Type) : Type := List D2 → (Int → Option R) → Option R
/-! ## 51: diorama/dioramaref04.Check -/
noncomputable def f51 {R : Type} (k : Nat) (a0 : List D2) (K : Int → Option R) : Option R :=
 f81 k a0 0 1 1 (fun v1 =>
  bif v1 then
   K 4
  else
   f81 k a0 0 1 2 (fun v2 =>
    bif v2 then
     K 42
    else
     f81 k a0 0 1 3 (fun v3 =>
      bif v3 then
      K 43
      else
      f38 k a0 (fun v4 =>
      bif decide (v4 > 4000) then
      K 2
      else
      K 0))))
noncomputable def f51_d {R : Type} (g : f51_T R) (e : Dr D R) : Dr D R := door [.list (.named 2)] [] (fun (x : (List D2 × Unit)) (y : (Unit)) K => g x.1 (fun z0 => K ⟨.int .i64 z0, []⟩)) e
noncomputable def f51_o {R : Type} (k : Nat) : Orc D R := (orcAdd 81 (f81_d (f81 k) noDr) (orcAdd 38 (f38_d (f38 k) noDr) noOrc))
theorem f51_o_ok {R : Type} (k : Nat) : OrcOk Try.prog cx (f51_o (R := R) k) := (OrcOk.add (f81_ok k FnOk.no) (OrcOk.add (f38_ok k FnOk.no) OrcOk.no))
noncomputable def f51_b : Code := bodyOf Try.f51
noncomputable def f51_ann : Nat → Option LAnn := fun _key => none
noncomputable def f51_r {R : Type} (_k : Nat) : Lrc D R := noLrc
theorem f51_ok {R : Type} (k : Nat) {e : Dr D R} (he : FnOk Try.prog cx 51 e) : FnOk Try.prog cx 51 (f51_d (f51 k) e) :=
  he.door fun _x _y => body_ok (keep := kp) (ann := f51_ann) (lrc := f51_r (R := R) k) (N := 12) (n0 := 0) (c := []) cxOk mixed (f51_o_ok k) (body := f51_b) (by kernel_rfl : Try.prog.funcs[51]? = some Try.f51) (by kernel_rfl) (by kernel_rfl) (by kernel_rfl) (by kernel_rfl) (of_decide_eq_true (by kernel_rfl)) (L := []) (by kernel_rfl) trivial (J := []) (by kernel_rfl) trivial (LrcNat.no) (fun _K => by delta f51 f51_o; generalize @f38 R = a0; generalize @f81 R = a1; revert a0 a1; refine id ?_; intros; kernel_rfl)

abbrev f80_T (R : Type) : Type := List D2 → Bool → Bool → (Int → List Int → Option R) → Option R
/-! ## 80: diorama/dioramaref04.written -/
noncomputable def f80 {R : Type} (k : Nat) (a0 : List D2) (a1 a2 : Bool) (K : Int → List Int → Option R) : Option R :=
 f51 k a0 (fun v1 =>
  bif (v1 != 0) then
   K v1 ([] : List Int)
  else
   f72 k a0 a1 a2 (fun v2 =>
    bif decide ((v2.length : Int) > 1048576) then
     K 2 ([] : List Int)
    else
     K 0 v2))
noncomputable def f80_d {R : Type} (g : f80_T R) (e : Dr D R) : Dr D R := door [.list (.named 2), .bool, .bool] [] (fun (x : (List D2 × Bool × Bool × Unit)) (y : (Unit)) K => g x.1 x.2.1 x.2.2.1 (fun z0 z1 => K ⟨.tup [.own 0, .int .i64 z0], [some (.row (.int .u8) z1 true)]⟩)) e
noncomputable def f80_o {R : Type} (k : Nat) : Orc D R := (orcAdd 51 (f51_d (f51 k) noDr) (orcAdd 72 (f72_d (f72 k) noDr) noOrc))
theorem f80_o_ok {R : Type} (k : Nat) : OrcOk Try.prog cx (f80_o (R := R) k) := (OrcOk.add (f51_ok k FnOk.no) (OrcOk.add (f72_ok k FnOk.no) OrcOk.no))
noncomputable def f80_b : Code := bodyOf Try.f80
noncomputable def f80_ann : Nat → Option LAnn := fun _key => none
noncomputable def f80_r {R : Type} (_k : Nat) : Lrc D R := noLrc
theorem f80_ok {R : Type} (k : Nat) {e : Dr D R} (he : FnOk Try.prog cx 80 e) : FnOk Try.prog cx 80 (f80_d (f80 k) e) :=
  he.door fun _x _y => body_ok (keep := kp) (ann := f80_ann) (lrc := f80_r (R := R) k) (N := 23) (n0 := 0) (c := [(.tmp 6, .own 1099511627776 (.int .u8))]) cxOk mixed (f80_o_ok k) (body := f80_b) (by kernel_rfl : Try.prog.funcs[80]? = some Try.f80) (by kernel_rfl) (by kernel_rfl) (by kernel_rfl) (by kernel_rfl) (of_decide_eq_true (by kernel_rfl)) (L := []) (by kernel_rfl) trivial (J := []) (by kernel_rfl) trivial (LrcNat.no) (fun _K => by delta f80 f80_o; generalize @f72 R = a0; generalize @f51 R = a1; revert a0 a1; refine id ?_; intros; kernel_rfl)

abbrev f48_T (R : Type) : Type := List D2 → Bool → (Int → List Int → Option R) → Option R
/-! ## 48: diorama/dioramaref04.Write -/
noncomputable def f48 {R : Type} (k : Nat) (a0 : List D2) (a1 : Bool) (K : Int → List Int → Option R) : Option R :=
 f80 k a0 a1 false K
noncomputable def f48_d {R : Type} (g : f48_T R) (e : Dr D R) : Dr D R := door [.list (.named 2), .bool] [] (fun (x : (List D2 × Bool × Unit)) (y : (Unit)) K => g x.1 x.2.1 (fun z0 z1 => K ⟨.tup [.own 0, .int .i64 z0], [some (.row (.int .u8) z1 true)]⟩)) e
noncomputable def f48_o {R : Type} (k : Nat) : Orc D R := (orcAdd 80 (f80_d (f80 k) noDr) noOrc)
theorem f48_o_ok {R : Type} (k : Nat) : OrcOk Try.prog cx (f48_o (R := R) k) := (OrcOk.add (f80_ok k FnOk.no) OrcOk.no)
noncomputable def f48_b : Code := bodyOf Try.f48
noncomputable def f48_ann : Nat → Option LAnn := fun _key => none
noncomputable def f48_r {R : Type} (_k : Nat) : Lrc D R := noLrc
theorem f48_ok {R : Type} (k : Nat) {e : Dr D R} (he : FnOk Try.prog cx 48 e) : FnOk Try.prog cx 48 (f48_d (f48 k) e) :=
  he.door fun _x _y => body_ok (keep := kp) (ann := f48_ann) (lrc := f48_r (R := R) k) (N := 11) (n0 := 0) (c := []) cxOk mixed (f48_o_ok k) (body := f48_b) (by kernel_rfl : Try.prog.funcs[48]? = some Try.f48) (by kernel_rfl) (by kernel_rfl) (by kernel_rfl) (by kernel_rfl) (of_decide_eq_true (by kernel_rfl)) (L := []) (by kernel_rfl) trivial (J := []) (by kernel_rfl) trivial (LrcNat.no) (fun _K => by delta f48 f48_o; generalize @f80 R = a0; revert a0; refine id ?_; intros; kernel_rfl)

abbrev f49_T (R : Type) : Type := List D2 → (Int → List Int → Option R) → Option R
/-! ## 49: diorama/element.WriteOpen -/
noncomputable def f49 {R : Type} (k : Nat) (a0 : List D2) (K : Int → List Int → Option R) : Option R :=
 f79 k false true a0 K
noncomputable def f49_d {R : Type} (g : f49_T R) (e : Dr D R) : Dr D R := door [.list (.named 2)] [] (fun (x : (List D2 × Unit)) (y : (Unit)) K => g x.1 (fun z0 z1 => K ⟨.tup [.own 0, .int .i64 z0], [some (.row (.int .u8) z1 true)]⟩)) e
noncomputable def f49_o {R : Type} (k : Nat) : Orc D R := (orcAdd 79 (f79_d (f79 k) noDr) noOrc)
theorem f49_o_ok {R : Type} (k : Nat) : OrcOk Try.prog cx (f49_o (R := R) k) := (OrcOk.add (f79_ok k FnOk.no) OrcOk.no)
noncomputable def f49_b : Code := bodyOf Try.f49
noncomputable def f49_ann : Nat → Option LAnn := fun _key => none
noncomputable def f49_r {R : Type} (_k : Nat) : Lrc D R := noLrc
theorem f49_ok {R : Type} (k : Nat) {e : Dr D R} (he : FnOk Try.prog cx 49 e) : FnOk Try.prog cx 49 (f49_d (f49 k) e) :=
  he.door fun _x _y => body_ok (keep := kp) (ann := f49_ann) (lrc := f49_r (R := R) k) (N := 9) (n0 := 0) (c := []) cxOk mixed (f49_o_ok k) (body := f49_b) (by kernel_rfl : Try.prog.funcs[49]? = some Try.f49) (by kernel_rfl) (by kernel_rfl) (by kernel_rfl) (by kernel_rfl) (of_decide_eq_true (by kernel_rfl)) (L := []) (by kernel_rfl) trivial (J := []) (by kernel_rfl) trivial (LrcNat.no) (fun _K => by delta f49 f49_o; generalize @f79 R = a0; revert a0; refine id ?_; intros; kernel_rfl)

abbrev f50_T (R : Type) : Type := List D2 → (Int → List Int → Option R) → Option R
/-! ## 50: diorama/dioramaref04.WriteOpen -/
noncomputable def f50 {R : Type} (k : Nat) (a0 : List D2) (K : Int → List Int → Option R) : Option R :=
 f80 k a0 false true K
noncomputable def f50_d {R : Type} (g : f50_T R) (e : Dr D R) : Dr D R := door [.list (.named 2)] [] (fun (x : (List D2 × Unit)) (y : (Unit)) K => g x.1 (fun z0 z1 => K ⟨.tup [.own 0, .int .i64 z0], [some (.row (.int .u8) z1 true)]⟩)) e
noncomputable def f50_o {R : Type} (k : Nat) : Orc D R := (orcAdd 80 (f80_d (f80 k) noDr) noOrc)
theorem f50_o_ok {R : Type} (k : Nat) : OrcOk Try.prog cx (f50_o (R := R) k) := (OrcOk.add (f80_ok k FnOk.no) OrcOk.no)
noncomputable def f50_b : Code := bodyOf Try.f50
noncomputable def f50_ann : Nat → Option LAnn := fun _key => none
noncomputable def f50_r {R : Type} (_k : Nat) : Lrc D R := noLrc
theorem f50_ok {R : Type} (k : Nat) {e : Dr D R} (he : FnOk Try.prog cx 50 e) : FnOk Try.prog cx 50 (f50_d (f50 k) e) :=
  he.door fun _x _y => body_ok (keep := kp) (ann := f50_ann) (lrc := f50_r (R := R) k) (N := 8) (n0 := 0) (c := []) cxOk mixed (f50_o_ok k) (body := f50_b) (by kernel_rfl : Try.prog.funcs[50]? = some Try.f50) (by kernel_rfl) (by kernel_rfl) (by kernel_rfl) (by kernel_rfl) (of_decide_eq_true (by kernel_rfl)) (L := []) (by kernel_rfl) trivial (J := []) (by kernel_rfl) trivial (LrcNat.no) (fun _K => by delta f50 f50_o; generalize @f80 R = a0; revert a0; refine id ?_; intros; kernel_rfl)

abbrev f13_T (R : Type) : Type := List D2 → Bool → (Bool → Option R) → Option R
/-! ## 13: diorama/dioramalaw04.ElementWrites -/
noncomputable def f13 {R : Type} (k : Nat) (a0 : List D2) (a1 : Bool) (K : Bool → Option R) : Option R :=
 f47 k a0 a1 (fun v1 v2 =>
  f48 k a0 a1 (fun v3 v4 =>
   f49 k a0 (fun v5 v6 =>
    f50 k a0 (fun v7 v8 =>
     f17 k v2 v4 (fun v9 =>
      bif v9 then
      bif (v1 == v3) then
      f17 k v6 v8 (fun v10 =>
      bif v10 then
      bif (v5 == v7) then
      f37 k a0 (fun v11 =>
      f51 k a0 (fun v12 =>
      bif (v11 == v12) then
      f18 k K
      else
      K false))
      else
      K false
      else
      K false)
      else
      K false
      else
      K false)))))
noncomputable def f13_d {R : Type} (g : f13_T R) (e : Dr D R) : Dr D R := door [.list (.named 2), .bool] [] (fun (x : (List D2 × Bool × Unit)) (y : (Unit)) K => g x.1 x.2.1 (fun z0 => K ⟨.bool z0, []⟩)) e
noncomputable def f13_o {R : Type} (k : Nat) : Orc D R := (orcAdd 50 (f50_d (f50 k) noDr) (orcAdd 49 (f49_d (f49 k) noDr) (orcAdd 48 (f48_d (f48 k) noDr) (orcAdd 51 (f51_d (f51 k) noDr) (orcAdd 47 (f47_d (f47 k) noDr) (orcAdd 37 (f37_d (f37 k) noDr) (orcAdd 18 (f18_d (f18 k) noDr) (orcAdd 17 (f17_d (f17 k) noDr) noOrc))))))))
theorem f13_o_ok {R : Type} (k : Nat) : OrcOk Try.prog cx (f13_o (R := R) k) := (OrcOk.add (f50_ok k FnOk.no) (OrcOk.add (f49_ok k FnOk.no) (OrcOk.add (f48_ok k FnOk.no) (OrcOk.add (f51_ok k FnOk.no) (OrcOk.add (f47_ok k FnOk.no) (OrcOk.add (f37_ok k FnOk.no) (OrcOk.add (f18_ok k FnOk.no) (OrcOk.add (f17_ok k FnOk.no) OrcOk.no))))))))
noncomputable def f13_b : Code := bodyOf Try.f13
noncomputable def f13_ann : Nat → Option LAnn := fun _key => none
noncomputable def f13_r {R : Type} (_k : Nat) : Lrc D R := noLrc
theorem f13_ok {R : Type} (k : Nat) {e : Dr D R} (he : FnOk Try.prog cx 13 e) : FnOk Try.prog cx 13 (f13_d (f13 k) e) :=
  he.door fun _x _y => body_ok (keep := kp) (ann := f13_ann) (lrc := f13_r (R := R) k) (N := 63) (n0 := 0) (c := []) cxOk mixed (f13_o_ok k) (body := f13_b) (by kernel_rfl : Try.prog.funcs[13]? = some Try.f13) (by kernel_rfl) (by kernel_rfl) (by kernel_rfl) (by kernel_rfl) (of_decide_eq_true (by kernel_rfl)) (L := []) (by kernel_rfl) trivial (J := []) (by kernel_rfl) trivial (LrcNat.no) (fun _K => by delta f13 f13_o; generalize @f17 R = a0; generalize @f18 R = a1; generalize @f37 R = a2; generalize @f47 R = a3; generalize @f51 R = a4; generalize @f48 R = a5; generalize @f49 R = a6; generalize @f50 R = a7; revert a0 a1 a2 a3 a4 a5 a6 a7; refine id ?_; intros; kernel_rfl)


end Go.Proofs.Ytklhjegfkpmdoaa
