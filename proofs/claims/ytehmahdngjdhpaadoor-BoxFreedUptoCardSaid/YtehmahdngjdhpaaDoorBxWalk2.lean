/- Proved: each of these functions does what a plain function says. Conditions: none. -/
import Derived.Test.YtehmahdngjdhpaaDoorBxWalk1

set_option maxRecDepth 100000
/-! What the functions do, as plain functions; and that they do. -/
namespace Go.Proofs.YtehmahdngjdhpaaDoor
open Go Go.Am
abbrev f62_T (R : Type) : Type := List D1 → Int → (Int → Int → Option R) → Option R
/-! ## 62: slices.IndexFunc[[]diorama/api.Node,diorama/api.Node] -/
noncomputable def f62_l2 {R : Type} : Nat → List D1 → Int → Int → Int → (Int → Option R) → (Int → Int → Option R) → Option R
  | 0, _, _, _, _, _, _ => none
  | k + 1, v1, v2, v3, v4, X0, X1 =>
  bif decide (v3 < v2) then
   bif inb v3 v1.length then
    f63 k (D1.c0 (v1.getD v3.toNat zero1)) (D1.c1 (v1.getD v3.toNat zero1)) (D1.c2 (v1.getD v3.toNat zero1)) (D1.c3 (v1.getD v3.toNat zero1)) v4 (fun v5 v6 =>
     bif v5 then
      X1 v3 v6
     else
      f62_l2 k v1 v2 (IntKind.i64.wrap (v3 + 1)) v6 X0 X1)
   else
    none
  else
   X0 v4
noncomputable def f62 {R : Type} (k : Nat) (a0 : List D1) (a1 : Int) (K : Int → Int → Option R) : Option R :=
 f62_l2 k a0 (a0.length : Int) 0 a1 (fun v7 =>
  K (-1) v7) K
noncomputable def f62_d {R : Type} (g : f62_T R) (e : Dr D R) : Dr D R := door [.list (.named 1), .fn 63 [.ptr 0 0]] [.box [.int .i64]] (fun (x : (List D1 × (Unit × Unit) × Unit)) (y : ((Int × Unit) × Unit)) K => g x.1 y.1.1 (fun z0 z1 => K ⟨.int .i64 z0, [some (.box [.int .i64 z1])]⟩)) e
noncomputable def f62_o {R : Type} (k : Nat) : Orc D R := (orcAdd 63 (f63_d (f63 k) noDr) noOrc)
theorem f62_o_ok {R : Type} (k : Nat) : OrcOk Tryd.prog cx (f62_o (R := R) k) := (OrcOk.add (f63_ok k FnOk.no) OrcOk.no)
noncomputable def f62_b : Code := bodyOf Tryd.f62
noncomputable def f62_l2_a : LAnn := ⟨⟨[], [0, 1, 7, 8], [0], []⟩, exOf (some ⟨[], [4], [0], []⟩) [(0, ⟨[], [], [0], []⟩)]⟩
noncomputable def f62_ann : Nat → Option LAnn := fun key => bif Nat.beq key 2 then some f62_l2_a else none
noncomputable def f62_l2_b : Code := loopAt f62_b 0
noncomputable def f62_l2_g {R : Type} (k : Nat) (x : (List D1 × (Unit × Unit) × Int × Int × Unit)) (y : ((Int × Unit) × Unit)) (K : KX R) : Option R := f62_l2 k x.1 x.2.2.1 x.2.2.2.1 y.1.1 (fun z0 => K (.exit 0) [] [some (.box [.int .i64 z0])]) (fun z0 z1 => K (.ret) [.int .i64 z0] [some (.box [.int .i64 z1])])
noncomputable def f62_l2_d {R : Type} (k : Nat) : Lr D R := ldoor [.list (.named 1), .fn 63 [.ptr 0 0], .int .i64, .int .i64] [some (.box [.int .i64])] (f62_l2_g k)
noncomputable def f62_l2_r {R : Type} (_k : Nat) : Lrc D R := noLrc
theorem f62_l2_d_ok {R : Type} : ∀ k, LoopOk Tryd.prog cx 19 1 f62_ann (f62_l2_d (R := R) k) f62_l2_b :=
  loop_ok (keep := kp) (lrc := f62_l2_r (R := R)) cxOk mixed (f62_o_ok) (show f62_ann (Am.keyOf f62_l2_b) = some f62_l2_a by kernel_rfl) (L := []) (by kernel_rfl) (fun _k => trivial) (J := []) (by kernel_rfl) (fun _k => trivial) (fun _k => LrcNat.no) (fun _x _y _K => by kernel_rfl) (fun _k _x _y _K => by kernel_rfl)
noncomputable def f62_r {R : Type} (k : Nat) : Lrc D R := (lrcAdd 2 (f62_l2_d k) noLrc)
theorem f62_ok {R : Type} (k : Nat) {e : Dr D R} (he : FnOk Tryd.prog cx 62 e) : FnOk Tryd.prog cx 62 (f62_d (f62 k) e) :=
  he.door fun _x _y => body_ok (keep := kp) (ann := f62_ann) (lrc := f62_r (R := R) k) (N := 19) (n0 := 1) (c := []) cxOk mixed (f62_o_ok k) (body := f62_b) (by kernel_rfl : Tryd.prog.funcs[62]? = some Tryd.f62) (by kernel_rfl) (by kernel_rfl) (by kernel_rfl) (by kernel_rfl) (of_decide_eq_true (by kernel_rfl)) (L := [f62_l2_b]) (by kernel_rfl) (⟨(f62_l2_d_ok k).use (by kernel_rfl), trivial⟩) (J := []) (by kernel_rfl) trivial ((LrcNat.add (f62_l2_d_ok k).2 LrcNat.no)) (fun _K => by delta f62 f62_o; generalize @f63 R = a0; revert a0; refine id ?_; intros; kernel_rfl)

abbrev f67_T (R : Type) : Type := Int → List Int → List D1 → Bool → ByteArray → Int → (Bool → Option R) → Option R
/-! ## 67: diorama/box.Check$1 -/
noncomputable def f67 {R : Type} (k : Nat) (a0 : Int) (_a1 : List Int) (_a2 : List D1) (_a3 : Bool) (_a4 : ByteArray) (_a5 : Int) (K : Bool → Option R) : Option R :=
 f28 k a0 (fun _v1 v2 =>
  K (v2 != 0))
noncomputable def f67_d {R : Type} (g : f67_T R) (e : Dr D R) : Dr D R := door [.agg [.int .i64, .list (.int .u8), .list (.named 1), .bool], .str, .int .i64] [] (fun (x : ((Int × List Int × List D1 × Bool × Unit) × ByteArray × Int × Unit)) (_y : (Unit)) K => g x.1.1 x.1.2.1 x.1.2.2.1 x.1.2.2.2.1 x.2.1 x.2.2.1 (fun z0 => K ⟨.bool z0, []⟩)) e
noncomputable def f67_o {R : Type} (k : Nat) : Orc D R := (orcAdd 28 (f28_d (f28 k) noDr) noOrc)
theorem f67_o_ok {R : Type} (k : Nat) : OrcOk Tryd.prog cx (f67_o (R := R) k) := (OrcOk.add (f28_ok k FnOk.no) OrcOk.no)
noncomputable def f67_b : Code := bodyOf Tryd.f67
noncomputable def f67_ann : Nat → Option LAnn := fun _key => none
noncomputable def f67_r {R : Type} (_k : Nat) : Lrc D R := noLrc
theorem f67_ok {R : Type} (k : Nat) {e : Dr D R} (he : FnOk Tryd.prog cx 67 e) : FnOk Tryd.prog cx 67 (f67_d (f67 k) e) :=
  he.door fun _x _y => body_ok (keep := kp) (ann := f67_ann) (lrc := f67_r (R := R) k) (N := 17) (n0 := 0) (c := []) cxOk mixed (f67_o_ok k) (body := f67_b) (by kernel_rfl : Tryd.prog.funcs[67]? = some Tryd.f67) (by kernel_rfl) (by kernel_rfl) (by kernel_rfl) (by kernel_rfl) (of_decide_eq_true (by kernel_rfl)) (L := []) (by kernel_rfl) trivial (J := []) (by kernel_rfl) trivial (LrcNat.no) (fun _K => by delta f67 f67_o; generalize @f28 R = a0; revert a0; refine id ?_; intros; kernel_rfl)

abbrev f87_2_T (R : Type) : Type := Int → List Int → List D1 → Bool → ByteArray → Int → (Bool → ByteArray → Int → Option R) → Option R
abbrev f62_3_T (R : Type) : Type := List D1 → ByteArray → Int → (Int → ByteArray → Int → Option R) → Option R
abbrev f86_2_T (R : Type) : Type := List D1 → ByteArray → Int → (Bool → ByteArray → Int → Option R) → Option R
abbrev f73_T (R : Type) : Type := List D1 → ByteArray → Int → (Bool → Option R) → Option R
/-! ## 87: diorama/box.some$1 -/
noncomputable def f87_2_s {R : Type} (g_f73 : Nat → f73_T R) (k : Nat) (a0 : Int) (a1 : List Int) (a2 : List D1) (a3 : Bool) (a4 : ByteArray) (a5 : Int) (K : Bool → ByteArray → Int → Option R) : Option R :=
 f28 k a0 (fun v1 _v2 =>
  f67 k a0 a1 a2 a3 a4 a5 (fun v3 =>
   bif v3 then
    K true a4 a5
   else
    g_f73 k a2 v1 (IntKind.i64.wrap (a5 + 1)) (fun v4 =>
     K v4 a4 a5)))
noncomputable def f87_2_d {R : Type} (g : f87_2_T R) (e : Dr D R) : Dr D R := door [.agg [.int .i64, .list (.int .u8), .list (.named 1), .bool], .ptr 0 0, .ptr 1 0, .ptr 2 0] [.box [.fn 67 []], .box [.str], .box [.int .i64]] (fun (x : ((Int × List Int × List D1 × Bool × Unit) × Unit × Unit × Unit × Unit)) (y : (((Unit) × Unit) × (ByteArray × Unit) × (Int × Unit) × Unit)) K => g x.1.1 x.1.2.1 x.1.2.2.1 x.1.2.2.2.1 y.2.1.1 y.2.2.1.1 (fun z0 z1 z2 => K ⟨.bool z0, [some (.box [.fn 67 []]), some (.box [.str z1]), some (.box [.int .i64 z2])]⟩)) e
/-! ## 62: slices.IndexFunc[[]diorama/api.Node,diorama/api.Node] -/
noncomputable def f62_3_l2 {R : Type} (g_f87_2 : Nat → f87_2_T R) : Nat → List D1 → Int → Int → ByteArray → Int → (ByteArray → Int → Option R) → (Int → ByteArray → Int → Option R) → Option R
  | 0, _, _, _, _, _, _, _ => none
  | k + 1, v1, v2, v3, v4, v5, X0, X1 =>
  bif decide (v3 < v2) then
   bif inb v3 v1.length then
    g_f87_2 k (D1.c0 (v1.getD v3.toNat zero1)) (D1.c1 (v1.getD v3.toNat zero1)) (D1.c2 (v1.getD v3.toNat zero1)) (D1.c3 (v1.getD v3.toNat zero1)) v4 v5 (fun v6 v7 v8 =>
     bif v6 then
      X1 v3 v7 v8
     else
      f62_3_l2 g_f87_2 k v1 v2 (IntKind.i64.wrap (v3 + 1)) v7 v8 X0 X1)
   else
    none
  else
   X0 v4 v5
noncomputable def f62_3_s {R : Type} (g_f87_2 : Nat → f87_2_T R) (k : Nat) (a0 : List D1) (a1 : ByteArray) (a2 : Int) (K : Int → ByteArray → Int → Option R) : Option R :=
 f62_3_l2 g_f87_2 k a0 (a0.length : Int) 0 a1 a2 (fun v9 v10 =>
  K (-1) v9 v10) K
noncomputable def f62_3_d {R : Type} (g : f62_3_T R) (e : Dr D R) : Dr D R := door [.list (.named 1), .fn 87 [.ptr 0 0, .ptr 1 0, .ptr 2 0]] [.box [.fn 67 []], .box [.str], .box [.int .i64]] (fun (x : (List D1 × (Unit × Unit × Unit × Unit) × Unit)) (y : (((Unit) × Unit) × (ByteArray × Unit) × (Int × Unit) × Unit)) K => g x.1 y.2.1.1 y.2.2.1.1 (fun z0 z1 z2 => K ⟨.int .i64 z0, [some (.box [.fn 67 []]), some (.box [.str z1]), some (.box [.int .i64 z2])]⟩)) e
/-! ## 86: slices.ContainsFunc[[]diorama/api.Node,diorama/api.Node] -/
noncomputable def f86_2_s {R : Type} (g_f62_3 : Nat → f62_3_T R) (k : Nat) (a0 : List D1) (a1 : ByteArray) (a2 : Int) (K : Bool → ByteArray → Int → Option R) : Option R :=
 g_f62_3 k a0 a1 a2 (fun v1 v2 v3 =>
  K (decide (v1 ≥ 0)) v2 v3)
noncomputable def f86_2_d {R : Type} (g : f86_2_T R) (e : Dr D R) : Dr D R := door [.list (.named 1), .fn 87 [.ptr 0 0, .ptr 1 0, .ptr 2 0]] [.box [.fn 67 []], .box [.str], .box [.int .i64]] (fun (x : (List D1 × (Unit × Unit × Unit × Unit) × Unit)) (y : (((Unit) × Unit) × (ByteArray × Unit) × (Int × Unit) × Unit)) K => g x.1 y.2.1.1 y.2.2.1.1 (fun z0 z1 z2 => K ⟨.bool z0, [some (.box [.fn 67 []]), some (.box [.str z1]), some (.box [.int .i64 z2])]⟩)) e
/-! ## 73: diorama/box.some -/
noncomputable def f73_s {R : Type} (g_f86_2 : Nat → f86_2_T R) (k : Nat) (a0 : List D1) (a1 : ByteArray) (a2 : Int) (K : Bool → Option R) : Option R :=
 g_f86_2 k a0 a1 a2 (fun v1 _v2 _v3 =>
  K v1)
noncomputable def f73_d {R : Type} (g : f73_T R) (e : Dr D R) : Dr D R := door [.list (.named 1), .str, .int .i64, .fn 67 []] [] (fun (x : (List D1 × ByteArray × Int × (Unit) × Unit)) (_y : (Unit)) K => g x.1 x.2.1 x.2.2.1 (fun z0 => K ⟨.bool z0, []⟩)) e
noncomputable def f87_2_o {R : Type} (g_f73 : Nat → f73_T R) (k : Nat) : Orc D R := (orcAdd 73 (f73_d (g_f73 k) noDr) (orcAdd 67 (f67_d (f67 k) noDr) (orcAdd 28 (f28_d (f28 k) noDr) noOrc)))
theorem f87_2_o_ok {R : Type} (g_f73 : Nat → f73_T R) (h_f73 : ∀ (k : Nat) (e : Dr D R), FnOk Tryd.prog cx 73 e → FnOk Tryd.prog cx 73 (f73_d (g_f73 k) e)) (k : Nat) : OrcOk Tryd.prog cx (f87_2_o (R := R) g_f73 k) := (OrcOk.add (h_f73 k _ FnOk.no) (OrcOk.add (f67_ok k FnOk.no) (OrcOk.add (f28_ok k FnOk.no) OrcOk.no)))
noncomputable def f87_2_b : Code := bodyOf Tryd.f87
noncomputable def f87_2_ann : Nat → Option LAnn := fun _key => none
noncomputable def f87_2_r {R : Type} (_g_f73 : Nat → f73_T R) (_k : Nat) : Lrc D R := noLrc
noncomputable def f62_3_o {R : Type} (g_f87_2 : Nat → f87_2_T R) (k : Nat) : Orc D R := (orcAdd 87 (f87_2_d (g_f87_2 k) noDr) noOrc)
theorem f62_3_o_ok {R : Type} (g_f87_2 : Nat → f87_2_T R) (h_f87_2 : ∀ (k : Nat) (e : Dr D R), FnOk Tryd.prog cx 87 e → FnOk Tryd.prog cx 87 (f87_2_d (g_f87_2 k) e)) (k : Nat) : OrcOk Tryd.prog cx (f62_3_o (R := R) g_f87_2 k) := (OrcOk.add (h_f87_2 k _ FnOk.no) OrcOk.no)
noncomputable def f62_3_b : Code := bodyOf Tryd.f62
noncomputable def f62_3_l2_a : LAnn := ⟨⟨[], [0, 1, 7, 8], [0, 1, 2], []⟩, exOf (some ⟨[], [4], [0, 1, 2], []⟩) [(0, ⟨[], [], [0, 1, 2], []⟩)]⟩
noncomputable def f62_3_ann : Nat → Option LAnn := fun key => bif Nat.beq key 2 then some f62_3_l2_a else none
noncomputable def f62_3_l2_b : Code := loopAt f62_3_b 0
noncomputable def f62_3_l2_g {R : Type} (g_f87_2 : Nat → f87_2_T R) (k : Nat) (x : (List D1 × (Unit × Unit × Unit × Unit) × Int × Int × Unit)) (y : (((Unit) × Unit) × (ByteArray × Unit) × (Int × Unit) × Unit)) (K : KX R) : Option R := f62_3_l2 g_f87_2 k x.1 x.2.2.1 x.2.2.2.1 y.2.1.1 y.2.2.1.1 (fun z0 z1 => K (.exit 0) [] [some (.box [.fn 67 []]), some (.box [.str z0]), some (.box [.int .i64 z1])]) (fun z0 z1 z2 => K (.ret) [.int .i64 z0] [some (.box [.fn 67 []]), some (.box [.str z1]), some (.box [.int .i64 z2])])
noncomputable def f62_3_l2_d {R : Type} (g_f87_2 : Nat → f87_2_T R) (k : Nat) : Lr D R := ldoor [.list (.named 1), .fn 87 [.ptr 0 0, .ptr 1 0, .ptr 2 0], .int .i64, .int .i64] [some (.box [.fn 67 []]), some (.box [.str]), some (.box [.int .i64])] (f62_3_l2_g g_f87_2 k)
noncomputable def f62_3_l2_r {R : Type} (_g_f87_2 : Nat → f87_2_T R) (_k : Nat) : Lrc D R := noLrc
theorem f62_3_l2_d_ok {R : Type} (g_f87_2 : Nat → f87_2_T R) (h_f87_2 : ∀ (k : Nat) (e : Dr D R), FnOk Tryd.prog cx 87 e → FnOk Tryd.prog cx 87 (f87_2_d (g_f87_2 k) e)) : ∀ k, LoopOk Tryd.prog cx 19 3 f62_3_ann (f62_3_l2_d (R := R) g_f87_2 k) f62_3_l2_b :=
  loop_ok (keep := kp) (lrc := f62_3_l2_r (R := R) g_f87_2) cxOk mixed (f62_3_o_ok g_f87_2 h_f87_2) (show f62_3_ann (Am.keyOf f62_3_l2_b) = some f62_3_l2_a by kernel_rfl) (L := []) (by kernel_rfl) (fun _k => trivial) (J := []) (by kernel_rfl) (fun _k => trivial) (fun _k => LrcNat.no) (fun _x _y _K => by kernel_rfl) (fun _k _x _y _K => by kernel_rfl)
noncomputable def f62_3_r {R : Type} (g_f87_2 : Nat → f87_2_T R) (k : Nat) : Lrc D R := (lrcAdd 2 (f62_3_l2_d g_f87_2 k) noLrc)
noncomputable def f86_2_o {R : Type} (g_f62_3 : Nat → f62_3_T R) (k : Nat) : Orc D R := (orcAdd 62 (f62_3_d (g_f62_3 k) noDr) noOrc)
theorem f86_2_o_ok {R : Type} (g_f62_3 : Nat → f62_3_T R) (h_f62_3 : ∀ (k : Nat) (e : Dr D R), FnOk Tryd.prog cx 62 e → FnOk Tryd.prog cx 62 (f62_3_d (g_f62_3 k) e)) (k : Nat) : OrcOk Tryd.prog cx (f86_2_o (R := R) g_f62_3 k) := (OrcOk.add (h_f62_3 k _ FnOk.no) OrcOk.no)
noncomputable def f86_2_b : Code := bodyOf Tryd.f86
noncomputable def f86_2_ann : Nat → Option LAnn := fun _key => none
noncomputable def f86_2_r {R : Type} (_g_f62_3 : Nat → f62_3_T R) (_k : Nat) : Lrc D R := noLrc
noncomputable def f73_o {R : Type} (g_f86_2 : Nat → f86_2_T R) (k : Nat) : Orc D R := (orcAdd 86 (f86_2_d (g_f86_2 k) noDr) noOrc)
theorem f73_o_ok {R : Type} (g_f86_2 : Nat → f86_2_T R) (h_f86_2 : ∀ (k : Nat) (e : Dr D R), FnOk Tryd.prog cx 86 e → FnOk Tryd.prog cx 86 (f86_2_d (g_f86_2 k) e)) (k : Nat) : OrcOk Tryd.prog cx (f73_o (R := R) g_f86_2 k) := (OrcOk.add (h_f86_2 k _ FnOk.no) OrcOk.no)
noncomputable def f73_b : Code := bodyOf Tryd.f73
noncomputable def f73_ann : Nat → Option LAnn := fun _key => none
noncomputable def f73_r {R : Type} (_g_f86_2 : Nat → f86_2_T R) (_k : Nat) : Lrc D R := noLrc
noncomputable def rec_f87_2 {R : Type} : Nat → (f87_2_T R) × (f62_3_T R) × (f86_2_T R) × (f73_T R)
  | 0 => (fun _ _ _ _ _ _ _ => none, fun _ _ _ _ => none, fun _ _ _ _ => none, fun _ _ _ _ => none)
  | k + 1 => (f87_2_s (fun _ => (rec_f87_2 (R := R) k).2.2.2) k, f62_3_s (fun _ => (rec_f87_2 (R := R) k).1) k, f86_2_s (fun _ => (rec_f87_2 (R := R) k).2.1) k, f73_s (fun _ => (rec_f87_2 (R := R) k).2.2.1) k)
theorem rec_f87_2_succ {R : Type} (k : Nat) : rec_f87_2 (R := R) (k + 1) = (f87_2_s (fun _ => (rec_f87_2 (R := R) k).2.2.2) k, f62_3_s (fun _ => (rec_f87_2 (R := R) k).1) k, f86_2_s (fun _ => (rec_f87_2 (R := R) k).2.1) k, f73_s (fun _ => (rec_f87_2 (R := R) k).2.2.1) k) := rfl
theorem rec_f87_2_ok {R : Type} : ∀ k, (∀ e : Dr D R, FnOk Tryd.prog cx 87 e → FnOk Tryd.prog cx 87 (f87_2_d (rec_f87_2 (R := R) k).1 e)) ∧ (∀ e : Dr D R, FnOk Tryd.prog cx 62 e → FnOk Tryd.prog cx 62 (f62_3_d (rec_f87_2 (R := R) k).2.1 e)) ∧ (∀ e : Dr D R, FnOk Tryd.prog cx 86 e → FnOk Tryd.prog cx 86 (f86_2_d (rec_f87_2 (R := R) k).2.2.1 e)) ∧ (∀ e : Dr D R, FnOk Tryd.prog cx 73 e → FnOk Tryd.prog cx 73 (f73_d (rec_f87_2 (R := R) k).2.2.2 e))
  | 0 => ⟨fun e he => he.door0 fun x y K => rfl, fun e he => he.door0 fun x y K => rfl, fun e he => he.door0 fun x y K => rfl, fun e he => he.door0 fun x y _K => rfl⟩
  | k + 1 => by
    rw [rec_f87_2_succ]
    exact ⟨fun e he => he.door fun x y => body_ok (keep := kp) (ann := f87_2_ann) (lrc := f87_2_r (R := R) (fun _ => (rec_f87_2 (R := R) k).2.2.2) k) (N := 28) (n0 := 3) (c := []) cxOk mixed (f87_2_o_ok (fun _ => (rec_f87_2 (R := R) k).2.2.2) (fun _ e he => (rec_f87_2_ok (R := R) k).2.2.2 e he) k) (body := f87_2_b) (by kernel_rfl : Tryd.prog.funcs[87]? = some Tryd.f87) (by kernel_rfl) (by kernel_rfl) (by kernel_rfl) (by kernel_rfl) (of_decide_eq_true (by kernel_rfl)) (L := []) (by kernel_rfl) trivial (J := []) (by kernel_rfl) trivial (LrcNat.no) (fun _K => by delta f87_2_s f87_2_o; generalize @f28 R = a0; generalize @f67 R = a1; revert a0 a1; refine id ?_; intros; kernel_rfl),
      fun e he => he.door fun x y => body_ok (keep := kp) (ann := f62_3_ann) (lrc := f62_3_r (R := R) (fun _ => (rec_f87_2 (R := R) k).1) k) (N := 19) (n0 := 3) (c := []) cxOk mixed (f62_3_o_ok (fun _ => (rec_f87_2 (R := R) k).1) (fun _ e he => (rec_f87_2_ok (R := R) k).1 e he) k) (body := f62_3_b) (by kernel_rfl : Tryd.prog.funcs[62]? = some Tryd.f62) (by kernel_rfl) (by kernel_rfl) (by kernel_rfl) (by kernel_rfl) (of_decide_eq_true (by kernel_rfl)) (L := [f62_3_l2_b]) (by kernel_rfl) (⟨(f62_3_l2_d_ok (fun _ => (rec_f87_2 (R := R) k).1) (fun _ e he => (rec_f87_2_ok (R := R) k).1 e he) k).use (by kernel_rfl), trivial⟩) (J := []) (by kernel_rfl) trivial ((LrcNat.add (f62_3_l2_d_ok (fun _ => (rec_f87_2 (R := R) k).1) (fun _ e he => (rec_f87_2_ok (R := R) k).1 e he) k).2 LrcNat.no)) (fun _K => by kernel_rfl),
      fun e he => he.door fun x y => body_ok (keep := kp) (ann := f86_2_ann) (lrc := f86_2_r (R := R) (fun _ => (rec_f87_2 (R := R) k).2.1) k) (N := 9) (n0 := 3) (c := []) cxOk mixed (f86_2_o_ok (fun _ => (rec_f87_2 (R := R) k).2.1) (fun _ e he => (rec_f87_2_ok (R := R) k).2.1 e he) k) (body := f86_2_b) (by kernel_rfl : Tryd.prog.funcs[86]? = some Tryd.f86) (by kernel_rfl) (by kernel_rfl) (by kernel_rfl) (by kernel_rfl) (of_decide_eq_true (by kernel_rfl)) (L := []) (by kernel_rfl) trivial (J := []) (by kernel_rfl) trivial (LrcNat.no) (fun _K => by kernel_rfl),
      fun e he => he.door fun _x _y => body_ok (keep := kp) (ann := f73_ann) (lrc := f73_r (R := R) (fun _ => (rec_f87_2 (R := R) k).2.2.1) k) (N := 12) (n0 := 0) (c := []) cxOk mixed (f73_o_ok (fun _ => (rec_f87_2 (R := R) k).2.2.1) (fun _ e he => (rec_f87_2_ok (R := R) k).2.2.1 e he) k) (body := f73_b) (by kernel_rfl : Tryd.prog.funcs[73]? = some Tryd.f73) (by kernel_rfl) (by kernel_rfl) (by kernel_rfl) (by kernel_rfl) (of_decide_eq_true (by kernel_rfl)) (L := []) (by kernel_rfl) trivial (J := []) (by kernel_rfl) trivial (LrcNat.no) (fun _K => by kernel_rfl)⟩
noncomputable def f87_2 {R : Type} (k : Nat) (a0 : Int) (a1 : List Int) (a2 : List D1) (a3 : Bool) (a4 : ByteArray) (a5 : Int) (K : Bool → ByteArray → Int → Option R) : Option R := (rec_f87_2 (R := R) k).1 a0 a1 a2 a3 a4 a5 K
theorem f87_2_ok {R : Type} (k : Nat) {e : Dr D R} (he : FnOk Tryd.prog cx 87 e) : FnOk Tryd.prog cx 87 (f87_2_d (f87_2 k) e) := (rec_f87_2_ok (R := R) k).1 e he
noncomputable def f62_3 {R : Type} (k : Nat) (a0 : List D1) (a1 : ByteArray) (a2 : Int) (K : Int → ByteArray → Int → Option R) : Option R := (rec_f87_2 (R := R) k).2.1 a0 a1 a2 K
theorem f62_3_ok {R : Type} (k : Nat) {e : Dr D R} (he : FnOk Tryd.prog cx 62 e) : FnOk Tryd.prog cx 62 (f62_3_d (f62_3 k) e) := (rec_f87_2_ok (R := R) k).2.1 e he
noncomputable def f86_2 {R : Type} (k : Nat) (a0 : List D1) (a1 : ByteArray) (a2 : Int) (K : Bool → ByteArray → Int → Option R) : Option R := (rec_f87_2 (R := R) k).2.2.1 a0 a1 a2 K
theorem f86_2_ok {R : Type} (k : Nat) {e : Dr D R} (he : FnOk Tryd.prog cx 86 e) : FnOk Tryd.prog cx 86 (f86_2_d (f86_2 k) e) := (rec_f87_2_ok (R := R) k).2.2.1 e he
noncomputable def f73 {R : Type} (k : Nat) (a0 : List D1) (a1 : ByteArray) (a2 : Int) (K : Bool → Option R) : Option R := (rec_f87_2 (R := R) k).2.2.2 a0 a1 a2 K
theorem f73_ok {R : Type} (k : Nat) {e : Dr D R} (he : FnOk Tryd.prog cx 73 e) : FnOk Tryd.prog cx 73 (f73_d (f73 k) e) := (rec_f87_2_ok (R := R) k).2.2.2 e he
theorem f87_2_step {R : Type} (k : Nat) (a0 : Int) (a1 : List Int) (a2 : List D1) (a3 : Bool) (a4 : ByteArray) (a5 : Int) (K : Bool → ByteArray → Int → Option R) : f87_2 (k + 1) a0 a1 a2 a3 a4 a5 K = f87_2_s (fun _ => f73 (R := R) k) k a0 a1 a2 a3 a4 a5 K := rfl
theorem f62_3_step {R : Type} (k : Nat) (a0 : List D1) (a1 : ByteArray) (a2 : Int) (K : Int → ByteArray → Int → Option R) : f62_3 (k + 1) a0 a1 a2 K = f62_3_s (fun _ => f87_2 (R := R) k) k a0 a1 a2 K := rfl
theorem f86_2_step {R : Type} (k : Nat) (a0 : List D1) (a1 : ByteArray) (a2 : Int) (K : Bool → ByteArray → Int → Option R) : f86_2 (k + 1) a0 a1 a2 K = f86_2_s (fun _ => f62_3 (R := R) k) k a0 a1 a2 K := rfl
theorem f73_step {R : Type} (k : Nat) (a0 : List D1) (a1 : ByteArray) (a2 : Int) (K : Bool → Option R) : f73 (k + 1) a0 a1 a2 K = f73_s (fun _ => f86_2 (R := R) k) k a0 a1 a2 K := rfl

abbrev f68_T (R : Type) : Type := Int → List Int → List D1 → Bool → ByteArray → Int → (Bool → Option R) → Option R
/-! ## 68: diorama/box.Check$2 -/
noncomputable def f68 {R : Type} (k : Nat) (a0 : Int) (a1 : List Int) (a2 : List D1) (a3 : Bool) (_a4 : ByteArray) (_a5 : Int) (K : Bool → Option R) : Option R :=
 f28 k a0 (fun v1 _v2 =>
  f30 k a0 (fun v3 =>
   bif (!(a3 == v3)) then
    K true
   else
    bif (!a3) then
     bif decide ((a2.length : Int) > 0) then
      K true
     else
      bif a3 then
      bif decide ((a1.length : Int) > 0) then
      K true
      else
      K (v1.toList == (⟨#[102, 114, 101, 101]⟩ : ByteArray).toList)
      else
      K (v1.toList == (⟨#[102, 114, 101, 101]⟩ : ByteArray).toList)
    else
     bif a3 then
      bif decide ((a1.length : Int) > 0) then
      K true
      else
      K (v1.toList == (⟨#[102, 114, 101, 101]⟩ : ByteArray).toList)
     else
      K (v1.toList == (⟨#[102, 114, 101, 101]⟩ : ByteArray).toList)))
noncomputable def f68_d {R : Type} (g : f68_T R) (e : Dr D R) : Dr D R := door [.agg [.int .i64, .list (.int .u8), .list (.named 1), .bool], .str, .int .i64] [] (fun (x : ((Int × List Int × List D1 × Bool × Unit) × ByteArray × Int × Unit)) (_y : (Unit)) K => g x.1.1 x.1.2.1 x.1.2.2.1 x.1.2.2.2.1 x.2.1 x.2.2.1 (fun z0 => K ⟨.bool z0, []⟩)) e
noncomputable def f68_o {R : Type} (k : Nat) : Orc D R := (orcAdd 30 (f30_d (f30 k) noDr) (orcAdd 28 (f28_d (f28 k) noDr) noOrc))
theorem f68_o_ok {R : Type} (k : Nat) : OrcOk Tryd.prog cx (f68_o (R := R) k) := (OrcOk.add (f30_ok k FnOk.no) (OrcOk.add (f28_ok k FnOk.no) OrcOk.no))
noncomputable def f68_b : Code := bodyOf Tryd.f68
noncomputable def f68_ann : Nat → Option LAnn := fun _key => none
noncomputable def f68_r {R : Type} (_k : Nat) : Lrc D R := noLrc
theorem f68_ok {R : Type} (k : Nat) {e : Dr D R} (he : FnOk Tryd.prog cx 68 e) : FnOk Tryd.prog cx 68 (f68_d (f68 k) e) :=
  he.door fun _x _y => body_ok (keep := kp) (ann := f68_ann) (lrc := f68_r (R := R) k) (N := 46) (n0 := 0) (c := []) cxOk mixed (f68_o_ok k) (body := f68_b) (by kernel_rfl : Tryd.prog.funcs[68]? = some Tryd.f68) (by kernel_rfl) (by kernel_rfl) (by kernel_rfl) (by kernel_rfl) (of_decide_eq_true (by kernel_rfl)) (L := []) (by kernel_rfl) trivial (J := []) (by kernel_rfl) trivial (LrcNat.no) (fun _K => by delta f68 f68_o; generalize @f28 R = a0; generalize @f30 R = a1; revert a0 a1; refine id ?_; intros; kernel_rfl)

abbrev f87_4_T (R : Type) : Type := Int → List Int → List D1 → Bool → ByteArray → Int → (Bool → ByteArray → Int → Option R) → Option R
abbrev f62_5_T (R : Type) : Type := List D1 → ByteArray → Int → (Int → ByteArray → Int → Option R) → Option R
abbrev f86_4_T (R : Type) : Type := List D1 → ByteArray → Int → (Bool → ByteArray → Int → Option R) → Option R
abbrev f73_2_T (R : Type) : Type := List D1 → ByteArray → Int → (Bool → Option R) → Option R
/-! ## 87: diorama/box.some$1 -/
noncomputable def f87_4_s {R : Type} (g_f73_2 : Nat → f73_2_T R) (k : Nat) (a0 : Int) (a1 : List Int) (a2 : List D1) (a3 : Bool) (a4 : ByteArray) (a5 : Int) (K : Bool → ByteArray → Int → Option R) : Option R :=
 f28 k a0 (fun v1 _v2 =>
  f68 k a0 a1 a2 a3 a4 a5 (fun v3 =>
   bif v3 then
    K true a4 a5
   else
    g_f73_2 k a2 v1 (IntKind.i64.wrap (a5 + 1)) (fun v4 =>
     K v4 a4 a5)))
noncomputable def f87_4_d {R : Type} (g : f87_4_T R) (e : Dr D R) : Dr D R := door [.agg [.int .i64, .list (.int .u8), .list (.named 1), .bool], .ptr 0 0, .ptr 1 0, .ptr 2 0] [.box [.fn 68 []], .box [.str], .box [.int .i64]] (fun (x : ((Int × List Int × List D1 × Bool × Unit) × Unit × Unit × Unit × Unit)) (y : (((Unit) × Unit) × (ByteArray × Unit) × (Int × Unit) × Unit)) K => g x.1.1 x.1.2.1 x.1.2.2.1 x.1.2.2.2.1 y.2.1.1 y.2.2.1.1 (fun z0 z1 z2 => K ⟨.bool z0, [some (.box [.fn 68 []]), some (.box [.str z1]), some (.box [.int .i64 z2])]⟩)) e
/-! ## 62: slices.IndexFunc[[]diorama/api.Node,diorama/api.Node] -/
noncomputable def f62_5_l2 {R : Type} (g_f87_4 : Nat → f87_4_T R) : Nat → List D1 → Int → Int → ByteArray → Int → (ByteArray → Int → Option R) → (Int → ByteArray → Int → Option R) → Option R
  | 0, _, _, _, _, _, _, _ => none
  | k + 1, v1, v2, v3, v4, v5, X0, X1 =>
  bif decide (v3 < v2) then
   bif inb v3 v1.length then
    g_f87_4 k (D1.c0 (v1.getD v3.toNat zero1)) (D1.c1 (v1.getD v3.toNat zero1)) (D1.c2 (v1.getD v3.toNat zero1)) (D1.c3 (v1.getD v3.toNat zero1)) v4 v5 (fun v6 v7 v8 =>
     bif v6 then
      X1 v3 v7 v8
     else
      f62_5_l2 g_f87_4 k v1 v2 (IntKind.i64.wrap (v3 + 1)) v7 v8 X0 X1)
   else
    none
  else
   X0 v4 v5
noncomputable def f62_5_s {R : Type} (g_f87_4 : Nat → f87_4_T R) (k : Nat) (a0 : List D1) (a1 : ByteArray) (a2 : Int) (K : Int → ByteArray → Int → Option R) : Option R :=
 f62_5_l2 g_f87_4 k a0 (a0.length : Int) 0 a1 a2 (fun v9 v10 =>
  K (-1) v9 v10) K
noncomputable def f62_5_d {R : Type} (g : f62_5_T R) (e : Dr D R) : Dr D R := door [.list (.named 1), .fn 87 [.ptr 0 0, .ptr 1 0, .ptr 2 0]] [.box [.fn 68 []], .box [.str], .box [.int .i64]] (fun (x : (List D1 × (Unit × Unit × Unit × Unit) × Unit)) (y : (((Unit) × Unit) × (ByteArray × Unit) × (Int × Unit) × Unit)) K => g x.1 y.2.1.1 y.2.2.1.1 (fun z0 z1 z2 => K ⟨.int .i64 z0, [some (.box [.fn 68 []]), some (.box [.str z1]), some (.box [.int .i64 z2])]⟩)) e
/-! ## 86: slices.ContainsFunc[[]diorama/api.Node,diorama/api.Node] -/
noncomputable def f86_4_s {R : Type} (g_f62_5 : Nat → f62_5_T R) (k : Nat) (a0 : List D1) (a1 : ByteArray) (a2 : Int) (K : Bool → ByteArray → Int → Option R) : Option R :=
 g_f62_5 k a0 a1 a2 (fun v1 v2 v3 =>
  K (decide (v1 ≥ 0)) v2 v3)
noncomputable def f86_4_d {R : Type} (g : f86_4_T R) (e : Dr D R) : Dr D R := door [.list (.named 1), .fn 87 [.ptr 0 0, .ptr 1 0, .ptr 2 0]] [.box [.fn 68 []], .box [.str], .box [.int .i64]] (fun (x : (List D1 × (Unit × Unit × Unit × Unit) × Unit)) (y : (((Unit) × Unit) × (ByteArray × Unit) × (Int × Unit) × Unit)) K => g x.1 y.2.1.1 y.2.2.1.1 (fun z0 z1 z2 => K ⟨.bool z0, [some (.box [.fn 68 []]), some (.box [.str z1]), some (.box [.int .i64 z2])]⟩)) e
/-! ## 73: diorama/box.some -/
noncomputable def f73_2_s {R : Type} (g_f86_4 : Nat → f86_4_T R) (k : Nat) (a0 : List D1) (a1 : ByteArray) (a2 : Int) (K : Bool → Option R) : Option R :=
 g_f86_4 k a0 a1 a2 (fun v1 _v2 _v3 =>
  K v1)
noncomputable def f73_2_d {R : Type} (g : f73_2_T R) (e : Dr D R) : Dr D R := door [.list (.named 1), .str, .int .i64, .fn 68 []] [] (fun (x : (List D1 × ByteArray × Int × (Unit) × Unit)) (_y : (Unit)) K => g x.1 x.2.1 x.2.2.1 (fun z0 => K ⟨.bool z0, []⟩)) e
noncomputable def f87_4_o {R : Type} (g_f73_2 : Nat → f73_2_T R) (k : Nat) : Orc D R := (orcAdd 73 (f73_2_d (g_f73_2 k) noDr) (orcAdd 68 (f68_d (f68 k) noDr) (orcAdd 28 (f28_d (f28 k) noDr) noOrc)))
theorem f87_4_o_ok {R : Type} (g_f73_2 : Nat → f73_2_T R) (h_f73_2 : ∀ (k : Nat) (e : Dr D R), FnOk Tryd.prog cx 73 e → FnOk Tryd.prog cx 73 (f73_2_d (g_f73_2 k) e)) (k : Nat) : OrcOk Tryd.prog cx (f87_4_o (R := R) g_f73_2 k) := (OrcOk.add (h_f73_2 k _ FnOk.no) (OrcOk.add (f68_ok k FnOk.no) (OrcOk.add (f28_ok k FnOk.no) OrcOk.no)))
noncomputable def f87_4_b : Code := bodyOf Tryd.f87
noncomputable def f87_4_ann : Nat → Option LAnn := fun _key => none
noncomputable def f87_4_r {R : Type} (_g_f73_2 : Nat → f73_2_T R) (_k : Nat) : Lrc D R := noLrc
noncomputable def f62_5_o {R : Type} (g_f87_4 : Nat → f87_4_T R) (k : Nat) : Orc D R := (orcAdd 87 (f87_4_d (g_f87_4 k) noDr) noOrc)
theorem f62_5_o_ok {R : Type} (g_f87_4 : Nat → f87_4_T R) (h_f87_4 : ∀ (k : Nat) (e : Dr D R), FnOk Tryd.prog cx 87 e → FnOk Tryd.prog cx 87 (f87_4_d (g_f87_4 k) e)) (k : Nat) : OrcOk Tryd.prog cx (f62_5_o (R := R) g_f87_4 k) := (OrcOk.add (h_f87_4 k _ FnOk.no) OrcOk.no)
noncomputable def f62_5_b : Code := bodyOf Tryd.f62
noncomputable def f62_5_l2_a : LAnn := ⟨⟨[], [0, 1, 7, 8], [0, 1, 2], []⟩, exOf (some ⟨[], [4], [0, 1, 2], []⟩) [(0, ⟨[], [], [0, 1, 2], []⟩)]⟩
noncomputable def f62_5_ann : Nat → Option LAnn := fun key => bif Nat.beq key 2 then some f62_5_l2_a else none
noncomputable def f62_5_l2_b : Code := loopAt f62_5_b 0
noncomputable def f62_5_l2_g {R : Type} (g_f87_4 : Nat → f87_4_T R) (k : Nat) (x : (List D1 × (Unit × Unit × Unit × Unit) × Int × Int × Unit)) (y : (((Unit) × Unit) × (ByteArray × Unit) × (Int × Unit) × Unit)) (K : KX R) : Option R := f62_5_l2 g_f87_4 k x.1 x.2.2.1 x.2.2.2.1 y.2.1.1 y.2.2.1.1 (fun z0 z1 => K (.exit 0) [] [some (.box [.fn 68 []]), some (.box [.str z0]), some (.box [.int .i64 z1])]) (fun z0 z1 z2 => K (.ret) [.int .i64 z0] [some (.box [.fn 68 []]), some (.box [.str z1]), some (.box [.int .i64 z2])])
noncomputable def f62_5_l2_d {R : Type} (g_f87_4 : Nat → f87_4_T R) (k : Nat) : Lr D R := ldoor [.list (.named 1), .fn 87 [.ptr 0 0, .ptr 1 0, .ptr 2 0], .int .i64, .int .i64] [some (.box [.fn 68 []]), some (.box [.str]), some (.box [.int .i64])] (f62_5_l2_g g_f87_4 k)
noncomputable def f62_5_l2_r {R : Type} (_g_f87_4 : Nat → f87_4_T R) (_k : Nat) : Lrc D R := noLrc
theorem f62_5_l2_d_ok {R : Type} (g_f87_4 : Nat → f87_4_T R) (h_f87_4 : ∀ (k : Nat) (e : Dr D R), FnOk Tryd.prog cx 87 e → FnOk Tryd.prog cx 87 (f87_4_d (g_f87_4 k) e)) : ∀ k, LoopOk Tryd.prog cx 19 3 f62_5_ann (f62_5_l2_d (R := R) g_f87_4 k) f62_5_l2_b :=
  loop_ok (keep := kp) (lrc := f62_5_l2_r (R := R) g_f87_4) cxOk mixed (f62_5_o_ok g_f87_4 h_f87_4) (show f62_5_ann (Am.keyOf f62_5_l2_b) = some f62_5_l2_a by kernel_rfl) (L := []) (by kernel_rfl) (fun _k => trivial) (J := []) (by kernel_rfl) (fun _k => trivial) (fun _k => LrcNat.no) (fun _x _y _K => by kernel_rfl) (fun _k _x _y _K => by kernel_rfl)
noncomputable def f62_5_r {R : Type} (g_f87_4 : Nat → f87_4_T R) (k : Nat) : Lrc D R := (lrcAdd 2 (f62_5_l2_d g_f87_4 k) noLrc)
noncomputable def f86_4_o {R : Type} (g_f62_5 : Nat → f62_5_T R) (k : Nat) : Orc D R := (orcAdd 62 (f62_5_d (g_f62_5 k) noDr) noOrc)
theorem f86_4_o_ok {R : Type} (g_f62_5 : Nat → f62_5_T R) (h_f62_5 : ∀ (k : Nat) (e : Dr D R), FnOk Tryd.prog cx 62 e → FnOk Tryd.prog cx 62 (f62_5_d (g_f62_5 k) e)) (k : Nat) : OrcOk Tryd.prog cx (f86_4_o (R := R) g_f62_5 k) := (OrcOk.add (h_f62_5 k _ FnOk.no) OrcOk.no)
noncomputable def f86_4_b : Code := bodyOf Tryd.f86
noncomputable def f86_4_ann : Nat → Option LAnn := fun _key => none
noncomputable def f86_4_r {R : Type} (_g_f62_5 : Nat → f62_5_T R) (_k : Nat) : Lrc D R := noLrc
noncomputable def f73_2_o {R : Type} (g_f86_4 : Nat → f86_4_T R) (k : Nat) : Orc D R := (orcAdd 86 (f86_4_d (g_f86_4 k) noDr) noOrc)
theorem f73_2_o_ok {R : Type} (g_f86_4 : Nat → f86_4_T R) (h_f86_4 : ∀ (k : Nat) (e : Dr D R), FnOk Tryd.prog cx 86 e → FnOk Tryd.prog cx 86 (f86_4_d (g_f86_4 k) e)) (k : Nat) : OrcOk Tryd.prog cx (f73_2_o (R := R) g_f86_4 k) := (OrcOk.add (h_f86_4 k _ FnOk.no) OrcOk.no)
noncomputable def f73_2_b : Code := bodyOf Tryd.f73
noncomputable def f73_2_ann : Nat → Option LAnn := fun _key => none
noncomputable def f73_2_r {R : Type} (_g_f86_4 : Nat → f86_4_T R) (_k : Nat) : Lrc D R := noLrc
noncomputable def rec_f87_4 {R : Type} : Nat → (f87_4_T R) × (f62_5_T R) × (f86_4_T R) × (f73_2_T R)
  | 0 => (fun _ _ _ _ _ _ _ => none, fun _ _ _ _ => none, fun _ _ _ _ => none, fun _ _ _ _ => none)
  | k + 1 => (f87_4_s (fun _ => (rec_f87_4 (R := R) k).2.2.2) k, f62_5_s (fun _ => (rec_f87_4 (R := R) k).1) k, f86_4_s (fun _ => (rec_f87_4 (R := R) k).2.1) k, f73_2_s (fun _ => (rec_f87_4 (R := R) k).2.2.1) k)
theorem rec_f87_4_succ {R : Type} (k : Nat) : rec_f87_4 (R := R) (k + 1) = (f87_4_s (fun _ => (rec_f87_4 (R := R) k).2.2.2) k, f62_5_s (fun _ => (rec_f87_4 (R := R) k).1) k, f86_4_s (fun _ => (rec_f87_4 (R := R) k).2.1) k, f73_2_s (fun _ => (rec_f87_4 (R := R) k).2.2.1) k) := rfl
theorem rec_f87_4_ok {R : Type} : ∀ k, (∀ e : Dr D R, FnOk Tryd.prog cx 87 e → FnOk Tryd.prog cx 87 (f87_4_d (rec_f87_4 (R := R) k).1 e)) ∧ (∀ e : Dr D R, FnOk Tryd.prog cx 62 e → FnOk Tryd.prog cx 62 (f62_5_d (rec_f87_4 (R := R) k).2.1 e)) ∧ (∀ e : Dr D R, FnOk Tryd.prog cx 86 e → FnOk Tryd.prog cx 86 (f86_4_d (rec_f87_4 (R := R) k).2.2.1 e)) ∧ (∀ e : Dr D R, FnOk Tryd.prog cx 73 e → FnOk Tryd.prog cx 73 (f73_2_d (rec_f87_4 (R := R) k).2.2.2 e))
  | 0 => ⟨fun e he => he.door0 fun x y K => rfl, fun e he => he.door0 fun x y K => rfl, fun e he => he.door0 fun x y K => rfl, fun e he => he.door0 fun x y _K => rfl⟩
  | k + 1 => by
    rw [rec_f87_4_succ]
    exact ⟨fun e he => he.door fun x y => body_ok (keep := kp) (ann := f87_4_ann) (lrc := f87_4_r (R := R) (fun _ => (rec_f87_4 (R := R) k).2.2.2) k) (N := 28) (n0 := 3) (c := []) cxOk mixed (f87_4_o_ok (fun _ => (rec_f87_4 (R := R) k).2.2.2) (fun _ e he => (rec_f87_4_ok (R := R) k).2.2.2 e he) k) (body := f87_4_b) (by kernel_rfl : Tryd.prog.funcs[87]? = some Tryd.f87) (by kernel_rfl) (by kernel_rfl) (by kernel_rfl) (by kernel_rfl) (of_decide_eq_true (by kernel_rfl)) (L := []) (by kernel_rfl) trivial (J := []) (by kernel_rfl) trivial (LrcNat.no) (fun _K => by delta f87_4_s f87_4_o; generalize @f28 R = a0; generalize @f68 R = a1; revert a0 a1; refine id ?_; intros; kernel_rfl),
      fun e he => he.door fun x y => body_ok (keep := kp) (ann := f62_5_ann) (lrc := f62_5_r (R := R) (fun _ => (rec_f87_4 (R := R) k).1) k) (N := 19) (n0 := 3) (c := []) cxOk mixed (f62_5_o_ok (fun _ => (rec_f87_4 (R := R) k).1) (fun _ e he => (rec_f87_4_ok (R := R) k).1 e he) k) (body := f62_5_b) (by kernel_rfl : Tryd.prog.funcs[62]? = some Tryd.f62) (by kernel_rfl) (by kernel_rfl) (by kernel_rfl) (by kernel_rfl) (of_decide_eq_true (by kernel_rfl)) (L := [f62_5_l2_b]) (by kernel_rfl) (⟨(f62_5_l2_d_ok (fun _ => (rec_f87_4 (R := R) k).1) (fun _ e he => (rec_f87_4_ok (R := R) k).1 e he) k).use (by kernel_rfl), trivial⟩) (J := []) (by kernel_rfl) trivial ((LrcNat.add (f62_5_l2_d_ok (fun _ => (rec_f87_4 (R := R) k).1) (fun _ e he => (rec_f87_4_ok (R := R) k).1 e he) k).2 LrcNat.no)) (fun _K => by kernel_rfl),
      fun e he => he.door fun x y => body_ok (keep := kp) (ann := f86_4_ann) (lrc := f86_4_r (R := R) (fun _ => (rec_f87_4 (R := R) k).2.1) k) (N := 9) (n0 := 3) (c := []) cxOk mixed (f86_4_o_ok (fun _ => (rec_f87_4 (R := R) k).2.1) (fun _ e he => (rec_f87_4_ok (R := R) k).2.1 e he) k) (body := f86_4_b) (by kernel_rfl : Tryd.prog.funcs[86]? = some Tryd.f86) (by kernel_rfl) (by kernel_rfl) (by kernel_rfl) (by kernel_rfl) (of_decide_eq_true (by kernel_rfl)) (L := []) (by kernel_rfl) trivial (J := []) (by kernel_rfl) trivial (LrcNat.no) (fun _K => by kernel_rfl),
      fun e he => he.door fun _x _y => body_ok (keep := kp) (ann := f73_2_ann) (lrc := f73_2_r (R := R) (fun _ => (rec_f87_4 (R := R) k).2.2.1) k) (N := 12) (n0 := 0) (c := []) cxOk mixed (f73_2_o_ok (fun _ => (rec_f87_4 (R := R) k).2.2.1) (fun _ e he => (rec_f87_4_ok (R := R) k).2.2.1 e he) k) (body := f73_2_b) (by kernel_rfl : Tryd.prog.funcs[73]? = some Tryd.f73) (by kernel_rfl) (by kernel_rfl) (by kernel_rfl) (by kernel_rfl) (of_decide_eq_true (by kernel_rfl)) (L := []) (by kernel_rfl) trivial (J := []) (by kernel_rfl) trivial (LrcNat.no) (fun _K => by kernel_rfl)⟩
noncomputable def f87_4 {R : Type} (k : Nat) (a0 : Int) (a1 : List Int) (a2 : List D1) (a3 : Bool) (a4 : ByteArray) (a5 : Int) (K : Bool → ByteArray → Int → Option R) : Option R := (rec_f87_4 (R := R) k).1 a0 a1 a2 a3 a4 a5 K
theorem f87_4_ok {R : Type} (k : Nat) {e : Dr D R} (he : FnOk Tryd.prog cx 87 e) : FnOk Tryd.prog cx 87 (f87_4_d (f87_4 k) e) := (rec_f87_4_ok (R := R) k).1 e he
noncomputable def f62_5 {R : Type} (k : Nat) (a0 : List D1) (a1 : ByteArray) (a2 : Int) (K : Int → ByteArray → Int → Option R) : Option R := (rec_f87_4 (R := R) k).2.1 a0 a1 a2 K
theorem f62_5_ok {R : Type} (k : Nat) {e : Dr D R} (he : FnOk Tryd.prog cx 62 e) : FnOk Tryd.prog cx 62 (f62_5_d (f62_5 k) e) := (rec_f87_4_ok (R := R) k).2.1 e he
noncomputable def f86_4 {R : Type} (k : Nat) (a0 : List D1) (a1 : ByteArray) (a2 : Int) (K : Bool → ByteArray → Int → Option R) : Option R := (rec_f87_4 (R := R) k).2.2.1 a0 a1 a2 K
theorem f86_4_ok {R : Type} (k : Nat) {e : Dr D R} (he : FnOk Tryd.prog cx 86 e) : FnOk Tryd.prog cx 86 (f86_4_d (f86_4 k) e) := (rec_f87_4_ok (R := R) k).2.2.1 e he
noncomputable def f73_2 {R : Type} (k : Nat) (a0 : List D1) (a1 : ByteArray) (a2 : Int) (K : Bool → Option R) : Option R := (rec_f87_4 (R := R) k).2.2.2 a0 a1 a2 K
theorem f73_2_ok {R : Type} (k : Nat) {e : Dr D R} (he : FnOk Tryd.prog cx 73 e) : FnOk Tryd.prog cx 73 (f73_2_d (f73_2 k) e) := (rec_f87_4_ok (R := R) k).2.2.2 e he
theorem f87_4_step {R : Type} (k : Nat) (a0 : Int) (a1 : List Int) (a2 : List D1) (a3 : Bool) (a4 : ByteArray) (a5 : Int) (K : Bool → ByteArray → Int → Option R) : f87_4 (k + 1) a0 a1 a2 a3 a4 a5 K = f87_4_s (fun _ => f73_2 (R := R) k) k a0 a1 a2 a3 a4 a5 K := rfl
theorem f62_5_step {R : Type} (k : Nat) (a0 : List D1) (a1 : ByteArray) (a2 : Int) (K : Int → ByteArray → Int → Option R) : f62_5 (k + 1) a0 a1 a2 K = f62_5_s (fun _ => f87_4 (R := R) k) k a0 a1 a2 K := rfl
theorem f86_4_step {R : Type} (k : Nat) (a0 : List D1) (a1 : ByteArray) (a2 : Int) (K : Bool → ByteArray → Int → Option R) : f86_4 (k + 1) a0 a1 a2 K = f86_4_s (fun _ => f62_5 (R := R) k) k a0 a1 a2 K := rfl
theorem f73_2_step {R : Type} (k : Nat) (a0 : List D1) (a1 : ByteArray) (a2 : Int) (K : Bool → Option R) : f73_2 (k + 1) a0 a1 a2 K = f73_2_s (fun _ => f86_4 (R := R) k) k a0 a1 a2 K := rfl

abbrev f69_T (R : Type) : Type := Int → List Int → List D1 → Bool → ByteArray → Int → (Bool → Option R) → Option R
/-! ## 69: diorama/box.Check$3 -/
noncomputable def f69 {R : Type} (k : Nat) (a0 : Int) (_a1 : List Int) (_a2 : List D1) (_a3 : Bool) (a4 : ByteArray) (_a5 : Int) (K : Bool → Option R) : Option R :=
 f28 k a0 (fun v1 _v2 =>
  f70 k v1 a4 (fun v3 =>
   K (!v3)))
noncomputable def f69_d {R : Type} (g : f69_T R) (e : Dr D R) : Dr D R := door [.agg [.int .i64, .list (.int .u8), .list (.named 1), .bool], .str, .int .i64] [] (fun (x : ((Int × List Int × List D1 × Bool × Unit) × ByteArray × Int × Unit)) (_y : (Unit)) K => g x.1.1 x.1.2.1 x.1.2.2.1 x.1.2.2.2.1 x.2.1 x.2.2.1 (fun z0 => K ⟨.bool z0, []⟩)) e
noncomputable def f69_o {R : Type} (k : Nat) : Orc D R := (orcAdd 28 (f28_d (f28 k) noDr) (orcAdd 70 (f70_d (f70 k) noDr) noOrc))
theorem f69_o_ok {R : Type} (k : Nat) : OrcOk Tryd.prog cx (f69_o (R := R) k) := (OrcOk.add (f28_ok k FnOk.no) (OrcOk.add (f70_ok k FnOk.no) OrcOk.no))
noncomputable def f69_b : Code := bodyOf Tryd.f69
noncomputable def f69_ann : Nat → Option LAnn := fun _key => none
noncomputable def f69_r {R : Type} (_k : Nat) : Lrc D R := noLrc
theorem f69_ok {R : Type} (k : Nat) {e : Dr D R} (he : FnOk Tryd.prog cx 69 e) : FnOk Tryd.prog cx 69 (f69_d (f69 k) e) :=
  he.door fun _x _y => body_ok (keep := kp) (ann := f69_ann) (lrc := f69_r (R := R) k) (N := 19) (n0 := 0) (c := []) cxOk mixed (f69_o_ok k) (body := f69_b) (by kernel_rfl : Tryd.prog.funcs[69]? = some Tryd.f69) (by kernel_rfl) (by kernel_rfl) (by kernel_rfl) (by kernel_rfl) (of_decide_eq_true (by kernel_rfl)) (L := []) (by kernel_rfl) trivial (J := []) (by kernel_rfl) trivial (LrcNat.no) (fun _K => by delta f69 f69_o; generalize @f70 R = a0; generalize @f28 R = a1; revert a0 a1; refine id ?_; intros; kernel_rfl)


end Go.Proofs.YtehmahdngjdhpaaDoor

/-! What the functions do, as plain functions; and that they do. -/
namespace Go.Proofs.YtehmahdngjdhpaaDoor
open Go Go.Am
abbrev f87_6_T (R : Type) : Type := Int → List Int → List D1 → Bool → ByteArray → Int → (Bool → ByteArray → Int → Option R) → Option R
abbrev f62_7_T (R : Type) : Type := List D1 → ByteArray → Int → (Int → ByteArray → Int → Option R) → Option R
abbrev f86_6_T (R : Type) : Type := List D1 → ByteArray → Int → (Bool → ByteArray → Int → Option R) → Option R
abbrev f73_3_T (R : Type) : Type := List D1 → ByteArray → Int → (Bool → Option R) → Option R
/-! ## 87: diorama/box.some$1 -/
noncomputable def f87_6_s {R : Type} (g_f73_3 : Nat → f73_3_T R) (k : Nat) (a0 : Int) (a1 : List Int) (a2 : List D1) (a3 : Bool) (a4 : ByteArray) (a5 : Int) (K : Bool → ByteArray → Int → Option R) : Option R :=
 f28 k a0 (fun v1 _v2 =>
  f69 k a0 a1 a2 a3 a4 a5 (fun v3 =>
   bif v3 then
    K true a4 a5
   else
    g_f73_3 k a2 v1 (IntKind.i64.wrap (a5 + 1)) (fun v4 =>
     K v4 a4 a5)))
noncomputable def f87_6_d {R : Type} (g : f87_6_T R) (e : Dr D R) : Dr D R := door [.agg [.int .i64, .list (.int .u8), .list (.named 1), .bool], .ptr 0 0, .ptr 1 0, .ptr 2 0] [.box [.fn 69 []], .box [.str], .box [.int .i64]] (fun (x : ((Int × List Int × List D1 × Bool × Unit) × Unit × Unit × Unit × Unit)) (y : (((Unit) × Unit) × (ByteArray × Unit) × (Int × Unit) × Unit)) K => g x.1.1 x.1.2.1 x.1.2.2.1 x.1.2.2.2.1 y.2.1.1 y.2.2.1.1 (fun z0 z1 z2 => K ⟨.bool z0, [some (.box [.fn 69 []]), some (.box [.str z1]), some (.box [.int .i64 z2])]⟩)) e
/-! ## 62: slices.IndexFunc[[]diorama/api.Node,diorama/api.Node] -/
noncomputable def f62_7_l2 {R : Type} (g_f87_6 : Nat → f87_6_T R) : Nat → List D1 → Int → Int → ByteArray → Int → (ByteArray → Int → Option R) → (Int → ByteArray → Int → Option R) → Option R
  | 0, _, _, _, _, _, _, _ => none
  | k + 1, v1, v2, v3, v4, v5, X0, X1 =>
  bif decide (v3 < v2) then
   bif inb v3 v1.length then
    g_f87_6 k (D1.c0 (v1.getD v3.toNat zero1)) (D1.c1 (v1.getD v3.toNat zero1)) (D1.c2 (v1.getD v3.toNat zero1)) (D1.c3 (v1.getD v3.toNat zero1)) v4 v5 (fun v6 v7 v8 =>
     bif v6 then
      X1 v3 v7 v8
     else
      f62_7_l2 g_f87_6 k v1 v2 (IntKind.i64.wrap (v3 + 1)) v7 v8 X0 X1)
   else
    none
  else
   X0 v4 v5
noncomputable def f62_7_s {R : Type} (g_f87_6 : Nat → f87_6_T R) (k : Nat) (a0 : List D1) (a1 : ByteArray) (a2 : Int) (K : Int → ByteArray → Int → Option R) : Option R :=
 f62_7_l2 g_f87_6 k a0 (a0.length : Int) 0 a1 a2 (fun v9 v10 =>
  K (-1) v9 v10) K
noncomputable def f62_7_d {R : Type} (g : f62_7_T R) (e : Dr D R) : Dr D R := door [.list (.named 1), .fn 87 [.ptr 0 0, .ptr 1 0, .ptr 2 0]] [.box [.fn 69 []], .box [.str], .box [.int .i64]] (fun (x : (List D1 × (Unit × Unit × Unit × Unit) × Unit)) (y : (((Unit) × Unit) × (ByteArray × Unit) × (Int × Unit) × Unit)) K => g x.1 y.2.1.1 y.2.2.1.1 (fun z0 z1 z2 => K ⟨.int .i64 z0, [some (.box [.fn 69 []]), some (.box [.str z1]), some (.box [.int .i64 z2])]⟩)) e
/-! ## 86: slices.ContainsFunc[[]diorama/api.Node,diorama/api.Node] -/
noncomputable def f86_6_s {R : Type} (g_f62_7 : Nat → f62_7_T R) (k : Nat) (a0 : List D1) (a1 : ByteArray) (a2 : Int) (K : Bool → ByteArray → Int → Option R) : Option R :=
 g_f62_7 k a0 a1 a2 (fun v1 v2 v3 =>
  K (decide (v1 ≥ 0)) v2 v3)
noncomputable def f86_6_d {R : Type} (g : f86_6_T R) (e : Dr D R) : Dr D R := door [.list (.named 1), .fn 87 [.ptr 0 0, .ptr 1 0, .ptr 2 0]] [.box [.fn 69 []], .box [.str], .box [.int .i64]] (fun (x : (List D1 × (Unit × Unit × Unit × Unit) × Unit)) (y : (((Unit) × Unit) × (ByteArray × Unit) × (Int × Unit) × Unit)) K => g x.1 y.2.1.1 y.2.2.1.1 (fun z0 z1 z2 => K ⟨.bool z0, [some (.box [.fn 69 []]), some (.box [.str z1]), some (.box [.int .i64 z2])]⟩)) e
/-! ## 73: diorama/box.some -/
noncomputable def f73_3_s {R : Type} (g_f86_6 : Nat → f86_6_T R) (k : Nat) (a0 : List D1) (a1 : ByteArray) (a2 : Int) (K : Bool → Option R) : Option R :=
 g_f86_6 k a0 a1 a2 (fun v1 _v2 _v3 =>
  K v1)
noncomputable def f73_3_d {R : Type} (g : f73_3_T R) (e : Dr D R) : Dr D R := door [.list (.named 1), .str, .int .i64, .fn 69 []] [] (fun (x : (List D1 × ByteArray × Int × (Unit) × Unit)) (_y : (Unit)) K => g x.1 x.2.1 x.2.2.1 (fun z0 => K ⟨.bool z0, []⟩)) e
noncomputable def f87_6_o {R : Type} (g_f73_3 : Nat → f73_3_T R) (k : Nat) : Orc D R := (orcAdd 73 (f73_3_d (g_f73_3 k) noDr) (orcAdd 69 (f69_d (f69 k) noDr) (orcAdd 28 (f28_d (f28 k) noDr) noOrc)))
theorem f87_6_o_ok {R : Type} (g_f73_3 : Nat → f73_3_T R) (h_f73_3 : ∀ (k : Nat) (e : Dr D R), FnOk Tryd.prog cx 73 e → FnOk Tryd.prog cx 73 (f73_3_d (g_f73_3 k) e)) (k : Nat) : OrcOk Tryd.prog cx (f87_6_o (R := R) g_f73_3 k) := (OrcOk.add (h_f73_3 k _ FnOk.no) (OrcOk.add (f69_ok k FnOk.no) (OrcOk.add (f28_ok k FnOk.no) OrcOk.no)))
noncomputable def f87_6_b : Code := bodyOf Tryd.f87
noncomputable def f87_6_ann : Nat → Option LAnn := fun _key => none
noncomputable def f87_6_r {R : Type} (_g_f73_3 : Nat → f73_3_T R) (_k : Nat) : Lrc D R := noLrc
noncomputable def f62_7_o {R : Type} (g_f87_6 : Nat → f87_6_T R) (k : Nat) : Orc D R := (orcAdd 87 (f87_6_d (g_f87_6 k) noDr) noOrc)
theorem f62_7_o_ok {R : Type} (g_f87_6 : Nat → f87_6_T R) (h_f87_6 : ∀ (k : Nat) (e : Dr D R), FnOk Tryd.prog cx 87 e → FnOk Tryd.prog cx 87 (f87_6_d (g_f87_6 k) e)) (k : Nat) : OrcOk Tryd.prog cx (f62_7_o (R := R) g_f87_6 k) := (OrcOk.add (h_f87_6 k _ FnOk.no) OrcOk.no)
noncomputable def f62_7_b : Code := bodyOf Tryd.f62
noncomputable def f62_7_l2_a : LAnn := ⟨⟨[], [0, 1, 7, 8], [0, 1, 2], []⟩, exOf (some ⟨[], [4], [0, 1, 2], []⟩) [(0, ⟨[], [], [0, 1, 2], []⟩)]⟩
noncomputable def f62_7_ann : Nat → Option LAnn := fun key => bif Nat.beq key 2 then some f62_7_l2_a else none
noncomputable def f62_7_l2_b : Code := loopAt f62_7_b 0
noncomputable def f62_7_l2_g {R : Type} (g_f87_6 : Nat → f87_6_T R) (k : Nat) (x : (List D1 × (Unit × Unit × Unit × Unit) × Int × Int × Unit)) (y : (((Unit) × Unit) × (ByteArray × Unit) × (Int × Unit) × Unit)) (K : KX R) : Option R := f62_7_l2 g_f87_6 k x.1 x.2.2.1 x.2.2.2.1 y.2.1.1 y.2.2.1.1 (fun z0 z1 => K (.exit 0) [] [some (.box [.fn 69 []]), some (.box [.str z0]), some (.box [.int .i64 z1])]) (fun z0 z1 z2 => K (.ret) [.int .i64 z0] [some (.box [.fn 69 []]), some (.box [.str z1]), some (.box [.int .i64 z2])])
noncomputable def f62_7_l2_d {R : Type} (g_f87_6 : Nat → f87_6_T R) (k : Nat) : Lr D R := ldoor [.list (.named 1), .fn 87 [.ptr 0 0, .ptr 1 0, .ptr 2 0], .int .i64, .int .i64] [some (.box [.fn 69 []]), some (.box [.str]), some (.box [.int .i64])] (f62_7_l2_g g_f87_6 k)
noncomputable def f62_7_l2_r {R : Type} (_g_f87_6 : Nat → f87_6_T R) (_k : Nat) : Lrc D R := noLrc
theorem f62_7_l2_d_ok {R : Type} (g_f87_6 : Nat → f87_6_T R) (h_f87_6 : ∀ (k : Nat) (e : Dr D R), FnOk Tryd.prog cx 87 e → FnOk Tryd.prog cx 87 (f87_6_d (g_f87_6 k) e)) : ∀ k, LoopOk Tryd.prog cx 19 3 f62_7_ann (f62_7_l2_d (R := R) g_f87_6 k) f62_7_l2_b :=
  loop_ok (keep := kp) (lrc := f62_7_l2_r (R := R) g_f87_6) cxOk mixed (f62_7_o_ok g_f87_6 h_f87_6) (show f62_7_ann (Am.keyOf f62_7_l2_b) = some f62_7_l2_a by kernel_rfl) (L := []) (by kernel_rfl) (fun _k => trivial) (J := []) (by kernel_rfl) (fun _k => trivial) (fun _k => LrcNat.no) (fun _x _y _K => by kernel_rfl) (fun _k _x _y _K => by kernel_rfl)
noncomputable def f62_7_r {R : Type} (g_f87_6 : Nat → f87_6_T R) (k : Nat) : Lrc D R := (lrcAdd 2 (f62_7_l2_d g_f87_6 k) noLrc)
noncomputable def f86_6_o {R : Type} (g_f62_7 : Nat → f62_7_T R) (k : Nat) : Orc D R := (orcAdd 62 (f62_7_d (g_f62_7 k) noDr) noOrc)
theorem f86_6_o_ok {R : Type} (g_f62_7 : Nat → f62_7_T R) (h_f62_7 : ∀ (k : Nat) (e : Dr D R), FnOk Tryd.prog cx 62 e → FnOk Tryd.prog cx 62 (f62_7_d (g_f62_7 k) e)) (k : Nat) : OrcOk Tryd.prog cx (f86_6_o (R := R) g_f62_7 k) := (OrcOk.add (h_f62_7 k _ FnOk.no) OrcOk.no)
noncomputable def f86_6_b : Code := bodyOf Tryd.f86
noncomputable def f86_6_ann : Nat → Option LAnn := fun _key => none
noncomputable def f86_6_r {R : Type} (_g_f62_7 : Nat → f62_7_T R) (_k : Nat) : Lrc D R := noLrc
noncomputable def f73_3_o {R : Type} (g_f86_6 : Nat → f86_6_T R) (k : Nat) : Orc D R := (orcAdd 86 (f86_6_d (g_f86_6 k) noDr) noOrc)
theorem f73_3_o_ok {R : Type} (g_f86_6 : Nat → f86_6_T R) (h_f86_6 : ∀ (k : Nat) (e : Dr D R), FnOk Tryd.prog cx 86 e → FnOk Tryd.prog cx 86 (f86_6_d (g_f86_6 k) e)) (k : Nat) : OrcOk Tryd.prog cx (f73_3_o (R := R) g_f86_6 k) := (OrcOk.add (h_f86_6 k _ FnOk.no) OrcOk.no)
noncomputable def f73_3_b : Code := bodyOf Tryd.f73
noncomputable def f73_3_ann : Nat → Option LAnn := fun _key => none
noncomputable def f73_3_r {R : Type} (_g_f86_6 : Nat → f86_6_T R) (_k : Nat) : Lrc D R := noLrc
noncomputable def rec_f87_6 {R : Type} : Nat → (f87_6_T R) × (f62_7_T R) × (f86_6_T R) × (f73_3_T R)
  | 0 => (fun _ _ _ _ _ _ _ => none, fun _ _ _ _ => none, fun _ _ _ _ => none, fun _ _ _ _ => none)
  | k + 1 => (f87_6_s (fun _ => (rec_f87_6 (R := R) k).2.2.2) k, f62_7_s (fun _ => (rec_f87_6 (R := R) k).1) k, f86_6_s (fun _ => (rec_f87_6 (R := R) k).2.1) k, f73_3_s (fun _ => (rec_f87_6 (R := R) k).2.2.1) k)
theorem rec_f87_6_succ {R : Type} (k : Nat) : rec_f87_6 (R := R) (k + 1) = (f87_6_s (fun _ => (rec_f87_6 (R := R) k).2.2.2) k, f62_7_s (fun _ => (rec_f87_6 (R := R) k).1) k, f86_6_s (fun _ => (rec_f87_6 (R := R) k).2.1) k, f73_3_s (fun _ => (rec_f87_6 (R := R) k).2.2.1) k) := rfl
theorem rec_f87_6_ok {R : Type} : ∀ k, (∀ e : Dr D R, FnOk Tryd.prog cx 87 e → FnOk Tryd.prog cx 87 (f87_6_d (rec_f87_6 (R := R) k).1 e)) ∧ (∀ e : Dr D R, FnOk Tryd.prog cx 62 e → FnOk Tryd.prog cx 62 (f62_7_d (rec_f87_6 (R := R) k).2.1 e)) ∧ (∀ e : Dr D R, FnOk Tryd.prog cx 86 e → FnOk Tryd.prog cx 86 (f86_6_d (rec_f87_6 (R := R) k).2.2.1 e)) ∧ (∀ e : Dr D R, FnOk Tryd.prog cx 73 e → FnOk Tryd.prog cx 73 (f73_3_d (rec_f87_6 (R := R) k).2.2.2 e))
  | 0 => ⟨fun e he => he.door0 fun x y K => rfl, fun e he => he.door0 fun x y K => rfl, fun e he => he.door0 fun x y K => rfl, fun e he => he.door0 fun x y _K => rfl⟩
  | k + 1 => by
    rw [rec_f87_6_succ]
    exact ⟨fun e he => he.door fun x y => body_ok (keep := kp) (ann := f87_6_ann) (lrc := f87_6_r (R := R) (fun _ => (rec_f87_6 (R := R) k).2.2.2) k) (N := 28) (n0 := 3) (c := []) cxOk mixed (f87_6_o_ok (fun _ => (rec_f87_6 (R := R) k).2.2.2) (fun _ e he => (rec_f87_6_ok (R := R) k).2.2.2 e he) k) (body := f87_6_b) (by kernel_rfl : Tryd.prog.funcs[87]? = some Tryd.f87) (by kernel_rfl) (by kernel_rfl) (by kernel_rfl) (by kernel_rfl) (of_decide_eq_true (by kernel_rfl)) (L := []) (by kernel_rfl) trivial (J := []) (by kernel_rfl) trivial (LrcNat.no) (fun _K => by delta f87_6_s f87_6_o; generalize @f28 R = a0; generalize @f69 R = a1; revert a0 a1; refine id ?_; intros; kernel_rfl),
      fun e he => he.door fun x y => body_ok (keep := kp) (ann := f62_7_ann) (lrc := f62_7_r (R := R) (fun _ => (rec_f87_6 (R := R) k).1) k) (N := 19) (n0 := 3) (c := []) cxOk mixed (f62_7_o_ok (fun _ => (rec_f87_6 (R := R) k).1) (fun _ e he => (rec_f87_6_ok (R := R) k).1 e he) k) (body := f62_7_b) (by kernel_rfl : Tryd.prog.funcs[62]? = some Tryd.f62) (by kernel_rfl) (by kernel_rfl) (by kernel_rfl) (by kernel_rfl) (of_decide_eq_true (by kernel_rfl)) (L := [f62_7_l2_b]) (by kernel_rfl) (⟨(f62_7_l2_d_ok (fun _ => (rec_f87_6 (R := R) k).1) (fun _ e he => (rec_f87_6_ok (R := R) k).1 e he) k).use (by kernel_rfl), trivial⟩) (J := []) (by kernel_rfl) trivial ((LrcNat.add (f62_7_l2_d_ok (fun _ => (rec_f87_6 (R := R) k).1) (fun _ e he => (rec_f87_6_ok (R := R) k).1 e he) k).2 LrcNat.no)) (fun _K => by kernel_rfl),
      fun e he => he.door fun x y => body_ok (keep := kp) (ann := f86_6_ann) (lrc := f86_6_r (R := R) (fun _ => (rec_f87_6 (R := R) k).2.1) k) (N := 9) (n0 := 3) (c := []) cxOk mixed (f86_6_o_ok (fun _ => (rec_f87_6 (R := R) k).2.1) (fun _ e he => (rec_f87_6_ok (R := R) k).2.1 e he) k) (body := f86_6_b) (by kernel_rfl : Tryd.prog.funcs[86]? = some Tryd.f86) (by kernel_rfl) (by kernel_rfl) (by kernel_rfl) (by kernel_rfl) (of_decide_eq_true (by kernel_rfl)) (L := []) (by kernel_rfl) trivial (J := []) (by kernel_rfl) trivial (LrcNat.no) (fun _K => by kernel_rfl),
      fun e he => he.door fun _x _y => body_ok (keep := kp) (ann := f73_3_ann) (lrc := f73_3_r (R := R) (fun _ => (rec_f87_6 (R := R) k).2.2.1) k) (N := 12) (n0 := 0) (c := []) cxOk mixed (f73_3_o_ok (fun _ => (rec_f87_6 (R := R) k).2.2.1) (fun _ e he => (rec_f87_6_ok (R := R) k).2.2.1 e he) k) (body := f73_3_b) (by kernel_rfl : Tryd.prog.funcs[73]? = some Tryd.f73) (by kernel_rfl) (by kernel_rfl) (by kernel_rfl) (by kernel_rfl) (of_decide_eq_true (by kernel_rfl)) (L := []) (by kernel_rfl) trivial (J := []) (by kernel_rfl) trivial (LrcNat.no) (fun _K => by kernel_rfl)⟩
noncomputable def f87_6 {R : Type} (k : Nat) (a0 : Int) (a1 : List Int) (a2 : List D1) (a3 : Bool) (a4 : ByteArray) (a5 : Int) (K : Bool → ByteArray → Int → Option R) : Option R := (rec_f87_6 (R := R) k).1 a0 a1 a2 a3 a4 a5 K
theorem f87_6_ok {R : Type} (k : Nat) {e : Dr D R} (he : FnOk Tryd.prog cx 87 e) : FnOk Tryd.prog cx 87 (f87_6_d (f87_6 k) e) := (rec_f87_6_ok (R := R) k).1 e he
noncomputable def f62_7 {R : Type} (k : Nat) (a0 : List D1) (a1 : ByteArray) (a2 : Int) (K : Int → ByteArray → Int → Option R) : Option R := (rec_f87_6 (R := R) k).2.1 a0 a1 a2 K
theorem f62_7_ok {R : Type} (k : Nat) {e : Dr D R} (he : FnOk Tryd.prog cx 62 e) : FnOk Tryd.prog cx 62 (f62_7_d (f62_7 k) e) := (rec_f87_6_ok (R := R) k).2.1 e he
noncomputable def f86_6 {R : Type} (k : Nat) (a0 : List D1) (a1 : ByteArray) (a2 : Int) (K : Bool → ByteArray → Int → Option R) : Option R := (rec_f87_6 (R := R) k).2.2.1 a0 a1 a2 K
theorem f86_6_ok {R : Type} (k : Nat) {e : Dr D R} (he : FnOk Tryd.prog cx 86 e) : FnOk Tryd.prog cx 86 (f86_6_d (f86_6 k) e) := (rec_f87_6_ok (R := R) k).2.2.1 e he
noncomputable def f73_3 {R : Type} (k : Nat) (a0 : List D1) (a1 : ByteArray) (a2 : Int) (K : Bool → Option R) : Option R := (rec_f87_6 (R := R) k).2.2.2 a0 a1 a2 K
theorem f73_3_ok {R : Type} (k : Nat) {e : Dr D R} (he : FnOk Tryd.prog cx 73 e) : FnOk Tryd.prog cx 73 (f73_3_d (f73_3 k) e) := (rec_f87_6_ok (R := R) k).2.2.2 e he
theorem f87_6_step {R : Type} (k : Nat) (a0 : Int) (a1 : List Int) (a2 : List D1) (a3 : Bool) (a4 : ByteArray) (a5 : Int) (K : Bool → ByteArray → Int → Option R) : f87_6 (k + 1) a0 a1 a2 a3 a4 a5 K = f87_6_s (fun _ => f73_3 (R := R) k) k a0 a1 a2 a3 a4 a5 K := rfl
theorem f62_7_step {R : Type} (k : Nat) (a0 : List D1) (a1 : ByteArray) (a2 : Int) (K : Int → ByteArray → Int → Option R) : f62_7 (k + 1) a0 a1 a2 K = f62_7_s (fun _ => f87_6 (R := R) k) k a0 a1 a2 K := rfl
theorem f86_6_step {R : Type} (k : Nat) (a0 : List D1) (a1 : ByteArray) (a2 : Int) (K : Bool → ByteArray → Int → Option R) : f86_6 (k + 1) a0 a1 a2 K = f86_6_s (fun _ => f62_7 (R := R) k) k a0 a1 a2 K := rfl
theorem f73_3_step {R : Type} (k : Nat) (a0 : List D1) (a1 : ByteArray) (a2 : Int) (K : Bool → Option R) : f73_3 (k + 1) a0 a1 a2 K = f73_3_s (fun _ => f86_6 (R := R) k) k a0 a1 a2 K := rfl

abbrev f71_T (R : Type) : Type := Int → List Int → List D1 → Bool → ByteArray → Int → (Bool → Option R) → Option R
/-! ## 71: diorama/box.Check$4 -/
noncomputable def f71 {R : Type} (_k : Nat) (_a0 : Int) (_a1 : List Int) (_a2 : List D1) (_a3 : Bool) (_a4 : ByteArray) (a5 : Int) (K : Bool → Option R) : Option R :=
 K (decide (a5 > 8))
noncomputable def f71_d {R : Type} (g : f71_T R) (e : Dr D R) : Dr D R := door [.agg [.int .i64, .list (.int .u8), .list (.named 1), .bool], .str, .int .i64] [] (fun (x : ((Int × List Int × List D1 × Bool × Unit) × ByteArray × Int × Unit)) (_y : (Unit)) K => g x.1.1 x.1.2.1 x.1.2.2.1 x.1.2.2.2.1 x.2.1 x.2.2.1 (fun z0 => K ⟨.bool z0, []⟩)) e
noncomputable def f71_o {R : Type} (_k : Nat) : Orc D R := noOrc
theorem f71_o_ok {R : Type} (k : Nat) : OrcOk Tryd.prog cx (f71_o (R := R) k) := OrcOk.no
noncomputable def f71_b : Code := bodyOf Tryd.f71
noncomputable def f71_ann : Nat → Option LAnn := fun _key => none
noncomputable def f71_r {R : Type} (_k : Nat) : Lrc D R := noLrc
theorem f71_ok {R : Type} (k : Nat) {e : Dr D R} (he : FnOk Tryd.prog cx 71 e) : FnOk Tryd.prog cx 71 (f71_d (f71 k) e) :=
  he.door fun _x _y => body_ok (keep := kp) (ann := f71_ann) (lrc := f71_r (R := R) k) (N := 9) (n0 := 0) (c := []) cxOk mixed (f71_o_ok k) (body := f71_b) (by kernel_rfl : Tryd.prog.funcs[71]? = some Tryd.f71) (by kernel_rfl) (by kernel_rfl) (by kernel_rfl) (by kernel_rfl) (of_decide_eq_true (by kernel_rfl)) (L := []) (by kernel_rfl) trivial (J := []) (by kernel_rfl) trivial (LrcNat.no) (fun _K => by kernel_rfl)

abbrev f87_8_T (R : Type) : Type := Int → List Int → List D1 → Bool → ByteArray → Int → (Bool → ByteArray → Int → Option R) → Option R
abbrev f62_9_T (R : Type) : Type := List D1 → ByteArray → Int → (Int → ByteArray → Int → Option R) → Option R
abbrev f86_8_T (R : Type) : Type := List D1 → ByteArray → Int → (Bool → ByteArray → Int → Option R) → Option R
abbrev f73_4_T (R : Type) : Type := List D1 → ByteArray → Int → (Bool → Option R) → Option R
/-! ## 87: diorama/box.some$1 -/
noncomputable def f87_8_s {R : Type} (g_f73_4 : Nat → f73_4_T R) (k : Nat) (a0 : Int) (a1 : List Int) (a2 : List D1) (a3 : Bool) (a4 : ByteArray) (a5 : Int) (K : Bool → ByteArray → Int → Option R) : Option R :=
 f28 k a0 (fun v1 _v2 =>
  f71 k a0 a1 a2 a3 a4 a5 (fun v3 =>
   bif v3 then
    K true a4 a5
   else
    g_f73_4 k a2 v1 (IntKind.i64.wrap (a5 + 1)) (fun v4 =>
     K v4 a4 a5)))
noncomputable def f87_8_d {R : Type} (g : f87_8_T R) (e : Dr D R) : Dr D R := door [.agg [.int .i64, .list (.int .u8), .list (.named 1), .bool], .ptr 0 0, .ptr 1 0, .ptr 2 0] [.box [.fn 71 []], .box [.str], .box [.int .i64]] (fun (x : ((Int × List Int × List D1 × Bool × Unit) × Unit × Unit × Unit × Unit)) (y : (((Unit) × Unit) × (ByteArray × Unit) × (Int × Unit) × Unit)) K => g x.1.1 x.1.2.1 x.1.2.2.1 x.1.2.2.2.1 y.2.1.1 y.2.2.1.1 (fun z0 z1 z2 => K ⟨.bool z0, [some (.box [.fn 71 []]), some (.box [.str z1]), some (.box [.int .i64 z2])]⟩)) e
/-! ## 62: slices.IndexFunc[[]diorama/api.Node,diorama/api.Node] -/
noncomputable def f62_9_l2 {R : Type} (g_f87_8 : Nat → f87_8_T R) : Nat → List D1 → Int → Int → ByteArray → Int → (ByteArray → Int → Option R) → (Int → ByteArray → Int → Option R) → Option R
  | 0, _, _, _, _, _, _, _ => none
  | k + 1, v1, v2, v3, v4, v5, X0, X1 =>
  bif decide (v3 < v2) then
   bif inb v3 v1.length then
    g_f87_8 k (D1.c0 (v1.getD v3.toNat zero1)) (D1.c1 (v1.getD v3.toNat zero1)) (D1.c2 (v1.getD v3.toNat zero1)) (D1.c3 (v1.getD v3.toNat zero1)) v4 v5 (fun v6 v7 v8 =>
     bif v6 then
      X1 v3 v7 v8
     else
      f62_9_l2 g_f87_8 k v1 v2 (IntKind.i64.wrap (v3 + 1)) v7 v8 X0 X1)
   else
    none
  else
   X0 v4 v5
noncomputable def f62_9_s {R : Type} (g_f87_8 : Nat → f87_8_T R) (k : Nat) (a0 : List D1) (a1 : ByteArray) (a2 : Int) (K : Int → ByteArray → Int → Option R) : Option R :=
 f62_9_l2 g_f87_8 k a0 (a0.length : Int) 0 a1 a2 (fun v9 v10 =>
  K (-1) v9 v10) K
noncomputable def f62_9_d {R : Type} (g : f62_9_T R) (e : Dr D R) : Dr D R := door [.list (.named 1), .fn 87 [.ptr 0 0, .ptr 1 0, .ptr 2 0]] [.box [.fn 71 []], .box [.str], .box [.int .i64]] (fun (x : (List D1 × (Unit × Unit × Unit × Unit) × Unit)) (y : (((Unit) × Unit) × (ByteArray × Unit) × (Int × Unit) × Unit)) K => g x.1 y.2.1.1 y.2.2.1.1 (fun z0 z1 z2 => K ⟨.int .i64 z0, [some (.box [.fn 71 []]), some (.box [.str z1]), some (.box [.int .i64 z2])]⟩)) e
/-! ## 86: slices.ContainsFunc[[]diorama/api.Node,diorama/api.Node] -/
noncomputable def f86_8_s {R : Type} (g_f62_9 : Nat → f62_9_T R) (k : Nat) (a0 : List D1) (a1 : ByteArray) (a2 : Int) (K : Bool → ByteArray → Int → Option R) : Option R :=
 g_f62_9 k a0 a1 a2 (fun v1 v2 v3 =>
  K (decide (v1 ≥ 0)) v2 v3)
noncomputable def f86_8_d {R : Type} (g : f86_8_T R) (e : Dr D R) : Dr D R := door [.list (.named 1), .fn 87 [.ptr 0 0, .ptr 1 0, .ptr 2 0]] [.box [.fn 71 []], .box [.str], .box [.int .i64]] (fun (x : (List D1 × (Unit × Unit × Unit × Unit) × Unit)) (y : (((Unit) × Unit) × (ByteArray × Unit) × (Int × Unit) × Unit)) K => g x.1 y.2.1.1 y.2.2.1.1 (fun z0 z1 z2 => K ⟨.bool z0, [some (.box [.fn 71 []]), some (.box [.str z1]), some (.box [.int .i64 z2])]⟩)) e
/-! ## 73: diorama/box.some -/
noncomputable def f73_4_s {R : Type} (g_f86_8 : Nat → f86_8_T R) (k : Nat) (a0 : List D1) (a1 : ByteArray) (a2 : Int) (K : Bool → Option R) : Option R :=
 g_f86_8 k a0 a1 a2 (fun v1 _v2 _v3 =>
  K v1)
noncomputable def f73_4_d {R : Type} (g : f73_4_T R) (e : Dr D R) : Dr D R := door [.list (.named 1), .str, .int .i64, .fn 71 []] [] (fun (x : (List D1 × ByteArray × Int × (Unit) × Unit)) (_y : (Unit)) K => g x.1 x.2.1 x.2.2.1 (fun z0 => K ⟨.bool z0, []⟩)) e
noncomputable def f87_8_o {R : Type} (g_f73_4 : Nat → f73_4_T R) (k : Nat) : Orc D R := (orcAdd 73 (f73_4_d (g_f73_4 k) noDr) (orcAdd 71 (f71_d (f71 k) noDr) (orcAdd 28 (f28_d (f28 k) noDr) noOrc)))
theorem f87_8_o_ok {R : Type} (g_f73_4 : Nat → f73_4_T R) (h_f73_4 : ∀ (k : Nat) (e : Dr D R), FnOk Tryd.prog cx 73 e → FnOk Tryd.prog cx 73 (f73_4_d (g_f73_4 k) e)) (k : Nat) : OrcOk Tryd.prog cx (f87_8_o (R := R) g_f73_4 k) := (OrcOk.add (h_f73_4 k _ FnOk.no) (OrcOk.add (f71_ok k FnOk.no) (OrcOk.add (f28_ok k FnOk.no) OrcOk.no)))
noncomputable def f87_8_b : Code := bodyOf Tryd.f87
noncomputable def f87_8_ann : Nat → Option LAnn := fun _key => none
noncomputable def f87_8_r {R : Type} (_g_f73_4 : Nat → f73_4_T R) (_k : Nat) : Lrc D R := noLrc
noncomputable def f62_9_o {R : Type} (g_f87_8 : Nat → f87_8_T R) (k : Nat) : Orc D R := (orcAdd 87 (f87_8_d (g_f87_8 k) noDr) noOrc)
theorem f62_9_o_ok {R : Type} (g_f87_8 : Nat → f87_8_T R) (h_f87_8 : ∀ (k : Nat) (e : Dr D R), FnOk Tryd.prog cx 87 e → FnOk Tryd.prog cx 87 (f87_8_d (g_f87_8 k) e)) (k : Nat) : OrcOk Tryd.prog cx (f62_9_o (R := R) g_f87_8 k) := (OrcOk.add (h_f87_8 k _ FnOk.no) OrcOk.no)
noncomputable def f62_9_b : Code := bodyOf Tryd.f62
noncomputable def f62_9_l2_a : LAnn := ⟨⟨[], [0, 1, 7, 8], [0, 1, 2], []⟩, exOf (some ⟨[], [4], [0, 1, 2], []⟩) [(0, ⟨[], [], [0, 1, 2], []⟩)]⟩
noncomputable def f62_9_ann : Nat → Option LAnn := fun key => bif Nat.beq key 2 then some f62_9_l2_a else none
noncomputable def f62_9_l2_b : Code := loopAt f62_9_b 0
noncomputable def f62_9_l2_g {R : Type} (g_f87_8 : Nat → f87_8_T R) (k : Nat) (x : (List D1 × (Unit × Unit × Unit × Unit) × Int × Int × Unit)) (y : (((Unit) × Unit) × (ByteArray × Unit) × (Int × Unit) × Unit)) (K : KX R) : Option R := f62_9_l2 g_f87_8 k x.1 x.2.2.1 x.2.2.2.1 y.2.1.1 y.2.2.1.1 (fun z0 z1 => K (.exit 0) [] [some (.box [.fn 71 []]), some (.box [.str z0]), some (.box [.int .i64 z1])]) (fun z0 z1 z2 => K (.ret) [.int .i64 z0] [some (.box [.fn 71 []]), some (.box [.str z1]), some (.box [.int .i64 z2])])
noncomputable def f62_9_l2_d {R : Type} (g_f87_8 : Nat → f87_8_T R) (k : Nat) : Lr D R := ldoor [.list (.named 1), .fn 87 [.ptr 0 0, .ptr 1 0, .ptr 2 0], .int .i64, .int .i64] [some (.box [.fn 71 []]), some (.box [.str]), some (.box [.int .i64])] (f62_9_l2_g g_f87_8 k)
noncomputable def f62_9_l2_r {R : Type} (_g_f87_8 : Nat → f87_8_T R) (_k : Nat) : Lrc D R := noLrc
theorem f62_9_l2_d_ok {R : Type} (g_f87_8 : Nat → f87_8_T R) (h_f87_8 : ∀ (k : Nat) (e : Dr D R), FnOk Tryd.prog cx 87 e → FnOk Tryd.prog cx 87 (f87_8_d (g_f87_8 k) e)) : ∀ k, LoopOk Tryd.prog cx 19 3 f62_9_ann (f62_9_l2_d (R := R) g_f87_8 k) f62_9_l2_b :=
  loop_ok (keep := kp) (lrc := f62_9_l2_r (R := R) g_f87_8) cxOk mixed (f62_9_o_ok g_f87_8 h_f87_8) (show f62_9_ann (Am.keyOf f62_9_l2_b) = some f62_9_l2_a by kernel_rfl) (L := []) (by kernel_rfl) (fun _k => trivial) (J := []) (by kernel_rfl) (fun _k => trivial) (fun _k => LrcNat.no) (fun _x _y _K => by kernel_rfl) (fun _k _x _y _K => by kernel_rfl)
noncomputable def f62_9_r {R : Type} (g_f87_8 : Nat → f87_8_T R) (k : Nat) : Lrc D R := (lrcAdd 2 (f62_9_l2_d g_f87_8 k) noLrc)
noncomputable def f86_8_o {R : Type} (g_f62_9 : Nat → f62_9_T R) (k : Nat) : Orc D R := (orcAdd 62 (f62_9_d (g_f62_9 k) noDr) noOrc)
theorem f86_8_o_ok {R : Type} (g_f62_9 : Nat → f62_9_T R) (h_f62_9 : ∀ (k : Nat) (e : Dr D R), FnOk Tryd.prog cx 62 e → FnOk Tryd.prog cx 62 (f62_9_d (g_f62_9 k) e)) (k : Nat) : OrcOk Tryd.prog cx (f86_8_o (R := R) g_f62_9 k) := (OrcOk.add (h_f62_9 k _ FnOk.no) OrcOk.no)
noncomputable def f86_8_b : Code := bodyOf Tryd.f86
noncomputable def f86_8_ann : Nat → Option LAnn := fun _key => none
noncomputable def f86_8_r {R : Type} (_g_f62_9 : Nat → f62_9_T R) (_k : Nat) : Lrc D R := noLrc
noncomputable def f73_4_o {R : Type} (g_f86_8 : Nat → f86_8_T R) (k : Nat) : Orc D R := (orcAdd 86 (f86_8_d (g_f86_8 k) noDr) noOrc)
theorem f73_4_o_ok {R : Type} (g_f86_8 : Nat → f86_8_T R) (h_f86_8 : ∀ (k : Nat) (e : Dr D R), FnOk Tryd.prog cx 86 e → FnOk Tryd.prog cx 86 (f86_8_d (g_f86_8 k) e)) (k : Nat) : OrcOk Tryd.prog cx (f73_4_o (R := R) g_f86_8 k) := (OrcOk.add (h_f86_8 k _ FnOk.no) OrcOk.no)
noncomputable def f73_4_b : Code := bodyOf Tryd.f73
noncomputable def f73_4_ann : Nat → Option LAnn := fun _key => none
noncomputable def f73_4_r {R : Type} (_g_f86_8 : Nat → f86_8_T R) (_k : Nat) : Lrc D R := noLrc
noncomputable def rec_f87_8 {R : Type} : Nat → (f87_8_T R) × (f62_9_T R) × (f86_8_T R) × (f73_4_T R)
  | 0 => (fun _ _ _ _ _ _ _ => none, fun _ _ _ _ => none, fun _ _ _ _ => none, fun _ _ _ _ => none)
  | k + 1 => (f87_8_s (fun _ => (rec_f87_8 (R := R) k).2.2.2) k, f62_9_s (fun _ => (rec_f87_8 (R := R) k).1) k, f86_8_s (fun _ => (rec_f87_8 (R := R) k).2.1) k, f73_4_s (fun _ => (rec_f87_8 (R := R) k).2.2.1) k)
theorem rec_f87_8_succ {R : Type} (k : Nat) : rec_f87_8 (R := R) (k + 1) = (f87_8_s (fun _ => (rec_f87_8 (R := R) k).2.2.2) k, f62_9_s (fun _ => (rec_f87_8 (R := R) k).1) k, f86_8_s (fun _ => (rec_f87_8 (R := R) k).2.1) k, f73_4_s (fun _ => (rec_f87_8 (R := R) k).2.2.1) k) := rfl
theorem rec_f87_8_ok {R : Type} : ∀ k, (∀ e : Dr D R, FnOk Tryd.prog cx 87 e → FnOk Tryd.prog cx 87 (f87_8_d (rec_f87_8 (R := R) k).1 e)) ∧ (∀ e : Dr D R, FnOk Tryd.prog cx 62 e → FnOk Tryd.prog cx 62 (f62_9_d (rec_f87_8 (R := R) k).2.1 e)) ∧ (∀ e : Dr D R, FnOk Tryd.prog cx 86 e → FnOk Tryd.prog cx 86 (f86_8_d (rec_f87_8 (R := R) k).2.2.1 e)) ∧ (∀ e : Dr D R, FnOk Tryd.prog cx 73 e → FnOk Tryd.prog cx 73 (f73_4_d (rec_f87_8 (R := R) k).2.2.2 e))
  | 0 => ⟨fun e he => he.door0 fun x y K => rfl, fun e he => he.door0 fun x y K => rfl, fun e he => he.door0 fun x y K => rfl, fun e he => he.door0 fun x y _K => rfl⟩
  | k + 1 => by
    rw [rec_f87_8_succ]
    exact ⟨fun e he => he.door fun x y => body_ok (keep := kp) (ann := f87_8_ann) (lrc := f87_8_r (R := R) (fun _ => (rec_f87_8 (R := R) k).2.2.2) k) (N := 28) (n0 := 3) (c := []) cxOk mixed (f87_8_o_ok (fun _ => (rec_f87_8 (R := R) k).2.2.2) (fun _ e he => (rec_f87_8_ok (R := R) k).2.2.2 e he) k) (body := f87_8_b) (by kernel_rfl : Tryd.prog.funcs[87]? = some Tryd.f87) (by kernel_rfl) (by kernel_rfl) (by kernel_rfl) (by kernel_rfl) (of_decide_eq_true (by kernel_rfl)) (L := []) (by kernel_rfl) trivial (J := []) (by kernel_rfl) trivial (LrcNat.no) (fun _K => by delta f87_8_s f87_8_o; generalize @f28 R = a0; generalize @f71 R = a1; revert a0 a1; refine id ?_; intros; kernel_rfl),
      fun e he => he.door fun x y => body_ok (keep := kp) (ann := f62_9_ann) (lrc := f62_9_r (R := R) (fun _ => (rec_f87_8 (R := R) k).1) k) (N := 19) (n0 := 3) (c := []) cxOk mixed (f62_9_o_ok (fun _ => (rec_f87_8 (R := R) k).1) (fun _ e he => (rec_f87_8_ok (R := R) k).1 e he) k) (body := f62_9_b) (by kernel_rfl : Tryd.prog.funcs[62]? = some Tryd.f62) (by kernel_rfl) (by kernel_rfl) (by kernel_rfl) (by kernel_rfl) (of_decide_eq_true (by kernel_rfl)) (L := [f62_9_l2_b]) (by kernel_rfl) (⟨(f62_9_l2_d_ok (fun _ => (rec_f87_8 (R := R) k).1) (fun _ e he => (rec_f87_8_ok (R := R) k).1 e he) k).use (by kernel_rfl), trivial⟩) (J := []) (by kernel_rfl) trivial ((LrcNat.add (f62_9_l2_d_ok (fun _ => (rec_f87_8 (R := R) k).1) (fun _ e he => (rec_f87_8_ok (R := R) k).1 e he) k).2 LrcNat.no)) (fun _K => by kernel_rfl),
      fun e he => he.door fun x y => body_ok (keep := kp) (ann := f86_8_ann) (lrc := f86_8_r (R := R) (fun _ => (rec_f87_8 (R := R) k).2.1) k) (N := 9) (n0 := 3) (c := []) cxOk mixed (f86_8_o_ok (fun _ => (rec_f87_8 (R := R) k).2.1) (fun _ e he => (rec_f87_8_ok (R := R) k).2.1 e he) k) (body := f86_8_b) (by kernel_rfl : Tryd.prog.funcs[86]? = some Tryd.f86) (by kernel_rfl) (by kernel_rfl) (by kernel_rfl) (by kernel_rfl) (of_decide_eq_true (by kernel_rfl)) (L := []) (by kernel_rfl) trivial (J := []) (by kernel_rfl) trivial (LrcNat.no) (fun _K => by kernel_rfl),
      fun e he => he.door fun _x _y => body_ok (keep := kp) (ann := f73_4_ann) (lrc := f73_4_r (R := R) (fun _ => (rec_f87_8 (R := R) k).2.2.1) k) (N := 12) (n0 := 0) (c := []) cxOk mixed (f73_4_o_ok (fun _ => (rec_f87_8 (R := R) k).2.2.1) (fun _ e he => (rec_f87_8_ok (R := R) k).2.2.1 e he) k) (body := f73_4_b) (by kernel_rfl : Tryd.prog.funcs[73]? = some Tryd.f73) (by kernel_rfl) (by kernel_rfl) (by kernel_rfl) (by kernel_rfl) (of_decide_eq_true (by kernel_rfl)) (L := []) (by kernel_rfl) trivial (J := []) (by kernel_rfl) trivial (LrcNat.no) (fun _K => by kernel_rfl)⟩
noncomputable def f87_8 {R : Type} (k : Nat) (a0 : Int) (a1 : List Int) (a2 : List D1) (a3 : Bool) (a4 : ByteArray) (a5 : Int) (K : Bool → ByteArray → Int → Option R) : Option R := (rec_f87_8 (R := R) k).1 a0 a1 a2 a3 a4 a5 K
theorem f87_8_ok {R : Type} (k : Nat) {e : Dr D R} (he : FnOk Tryd.prog cx 87 e) : FnOk Tryd.prog cx 87 (f87_8_d (f87_8 k) e) := (rec_f87_8_ok (R := R) k).1 e he
noncomputable def f62_9 {R : Type} (k : Nat) (a0 : List D1) (a1 : ByteArray) (a2 : Int) (K : Int → ByteArray → Int → Option R) : Option R := (rec_f87_8 (R := R) k).2.1 a0 a1 a2 K
theorem f62_9_ok {R : Type} (k : Nat) {e : Dr D R} (he : FnOk Tryd.prog cx 62 e) : FnOk Tryd.prog cx 62 (f62_9_d (f62_9 k) e) := (rec_f87_8_ok (R := R) k).2.1 e he
noncomputable def f86_8 {R : Type} (k : Nat) (a0 : List D1) (a1 : ByteArray) (a2 : Int) (K : Bool → ByteArray → Int → Option R) : Option R := (rec_f87_8 (R := R) k).2.2.1 a0 a1 a2 K
theorem f86_8_ok {R : Type} (k : Nat) {e : Dr D R} (he : FnOk Tryd.prog cx 86 e) : FnOk Tryd.prog cx 86 (f86_8_d (f86_8 k) e) := (rec_f87_8_ok (R := R) k).2.2.1 e he
noncomputable def f73_4 {R : Type} (k : Nat) (a0 : List D1) (a1 : ByteArray) (a2 : Int) (K : Bool → Option R) : Option R := (rec_f87_8 (R := R) k).2.2.2 a0 a1 a2 K
theorem f73_4_ok {R : Type} (k : Nat) {e : Dr D R} (he : FnOk Tryd.prog cx 73 e) : FnOk Tryd.prog cx 73 (f73_4_d (f73_4 k) e) := (rec_f87_8_ok (R := R) k).2.2.2 e he
theorem f87_8_step {R : Type} (k : Nat) (a0 : Int) (a1 : List Int) (a2 : List D1) (a3 : Bool) (a4 : ByteArray) (a5 : Int) (K : Bool → ByteArray → Int → Option R) : f87_8 (k + 1) a0 a1 a2 a3 a4 a5 K = f87_8_s (fun _ => f73_4 (R := R) k) k a0 a1 a2 a3 a4 a5 K := rfl
theorem f62_9_step {R : Type} (k : Nat) (a0 : List D1) (a1 : ByteArray) (a2 : Int) (K : Int → ByteArray → Int → Option R) : f62_9 (k + 1) a0 a1 a2 K = f62_9_s (fun _ => f87_8 (R := R) k) k a0 a1 a2 K := rfl
theorem f86_8_step {R : Type} (k : Nat) (a0 : List D1) (a1 : ByteArray) (a2 : Int) (K : Bool → ByteArray → Int → Option R) : f86_8 (k + 1) a0 a1 a2 K = f86_8_s (fun _ => f62_9 (R := R) k) k a0 a1 a2 K := rfl
theorem f73_4_step {R : Type} (k : Nat) (a0 : List D1) (a1 : ByteArray) (a2 : Int) (K : Bool → Option R) : f73_4 (k + 1) a0 a1 a2 K = f73_4_s (fun _ => f86_8 (R := R) k) k a0 a1 a2 K := rfl

abbrev f72_T (R : Type) : Type := Int → List Int → List D1 → Bool → ByteArray → Int → Int → (Bool → Int → Option R) → Option R
/-! ## 72: diorama/box.Check$5 -/
noncomputable def f72 {R : Type} (_k : Nat) (_a0 : Int) (_a1 : List Int) (_a2 : List D1) (_a3 : Bool) (_a4 : ByteArray) (_a5 a6 : Int) (K : Bool → Int → Option R) : Option R :=
 K (decide ((IntKind.i64.wrap (a6 + 1)) > 4000)) (IntKind.i64.wrap (a6 + 1))
noncomputable def f72_d {R : Type} (g : f72_T R) (e : Dr D R) : Dr D R := door [.agg [.int .i64, .list (.int .u8), .list (.named 1), .bool], .str, .int .i64, .ptr 0 0] [.box [.int .i64]] (fun (x : ((Int × List Int × List D1 × Bool × Unit) × ByteArray × Int × Unit × Unit)) (y : ((Int × Unit) × Unit)) K => g x.1.1 x.1.2.1 x.1.2.2.1 x.1.2.2.2.1 x.2.1 x.2.2.1 y.1.1 (fun z0 z1 => K ⟨.bool z0, [some (.box [.int .i64 z1])]⟩)) e
noncomputable def f72_o {R : Type} (_k : Nat) : Orc D R := noOrc
theorem f72_o_ok {R : Type} (k : Nat) : OrcOk Tryd.prog cx (f72_o (R := R) k) := OrcOk.no
noncomputable def f72_b : Code := bodyOf Tryd.f72
noncomputable def f72_ann : Nat → Option LAnn := fun _key => none
noncomputable def f72_r {R : Type} (_k : Nat) : Lrc D R := noLrc
theorem f72_ok {R : Type} (k : Nat) {e : Dr D R} (he : FnOk Tryd.prog cx 72 e) : FnOk Tryd.prog cx 72 (f72_d (f72 k) e) :=
  he.door fun _x _y => body_ok (keep := kp) (ann := f72_ann) (lrc := f72_r (R := R) k) (N := 12) (n0 := 1) (c := []) cxOk mixed (f72_o_ok k) (body := f72_b) (by kernel_rfl : Tryd.prog.funcs[72]? = some Tryd.f72) (by kernel_rfl) (by kernel_rfl) (by kernel_rfl) (by kernel_rfl) (of_decide_eq_true (by kernel_rfl)) (L := []) (by kernel_rfl) trivial (J := []) (by kernel_rfl) trivial (LrcNat.no) (fun _K => by kernel_rfl)


end Go.Proofs.YtehmahdngjdhpaaDoor

/-! What the functions do, as plain functions; and that they do. -/
namespace Go.Proofs.YtehmahdngjdhpaaDoor
open Go Go.Am
abbrev f87_10_T (R : Type) : Type := Int → List Int → List D1 → Bool → Int → ByteArray → Int → (Bool → Int → ByteArray → Int → Option R) → Option R
abbrev f62_11_T (R : Type) : Type := List D1 → Int → ByteArray → Int → (Int → Int → ByteArray → Int → Option R) → Option R
abbrev f86_10_T (R : Type) : Type := List D1 → Int → ByteArray → Int → (Bool → Int → ByteArray → Int → Option R) → Option R
abbrev f73_5_T (R : Type) : Type := List D1 → ByteArray → Int → Int → (Bool → Int → Option R) → Option R
/-! ## 87: diorama/box.some$1 -/
noncomputable def f87_10_s {R : Type} (g_f73_5 : Nat → f73_5_T R) (k : Nat) (a0 : Int) (a1 : List Int) (a2 : List D1) (a3 : Bool) (a4 : Int) (a5 : ByteArray) (a6 : Int) (K : Bool → Int → ByteArray → Int → Option R) : Option R :=
 f28 k a0 (fun v1 _v2 =>
  f72 k a0 a1 a2 a3 a5 a6 a4 (fun v3 v4 =>
   bif v3 then
    K true v4 a5 a6
   else
    g_f73_5 k a2 v1 (IntKind.i64.wrap (a6 + 1)) v4 (fun v5 v6 =>
     K v5 v6 a5 a6)))
noncomputable def f87_10_d {R : Type} (g : f87_10_T R) (e : Dr D R) : Dr D R := door [.agg [.int .i64, .list (.int .u8), .list (.named 1), .bool], .ptr 0 0, .ptr 2 0, .ptr 3 0] [.box [.fn 72 [.ptr 1 0]], .box [.int .i64], .box [.str], .box [.int .i64]] (fun (x : ((Int × List Int × List D1 × Bool × Unit) × Unit × Unit × Unit × Unit)) (y : (((Unit × Unit) × Unit) × (Int × Unit) × (ByteArray × Unit) × (Int × Unit) × Unit)) K => g x.1.1 x.1.2.1 x.1.2.2.1 x.1.2.2.2.1 y.2.1.1 y.2.2.1.1 y.2.2.2.1.1 (fun z0 z1 z2 z3 => K ⟨.bool z0, [some (.box [.fn 72 [.ptr 1 0]]), some (.box [.int .i64 z1]), some (.box [.str z2]), some (.box [.int .i64 z3])]⟩)) e
/-! ## 62: slices.IndexFunc[[]diorama/api.Node,diorama/api.Node] -/
noncomputable def f62_11_l2 {R : Type} (g_f87_10 : Nat → f87_10_T R) : Nat → List D1 → Int → Int → Int → ByteArray → Int → (Int → ByteArray → Int → Option R) → (Int → Int → ByteArray → Int → Option R) → Option R
  | 0, _, _, _, _, _, _, _, _ => none
  | k + 1, v1, v2, v3, v4, v5, v6, X0, X1 =>
  bif decide (v3 < v2) then
   bif inb v3 v1.length then
    g_f87_10 k (D1.c0 (v1.getD v3.toNat zero1)) (D1.c1 (v1.getD v3.toNat zero1)) (D1.c2 (v1.getD v3.toNat zero1)) (D1.c3 (v1.getD v3.toNat zero1)) v4 v5 v6 (fun v7 v8 v9 v10 =>
     bif v7 then
      X1 v3 v8 v9 v10
     else
      f62_11_l2 g_f87_10 k v1 v2 (IntKind.i64.wrap (v3 + 1)) v8 v9 v10 X0 X1)
   else
    none
  else
   X0 v4 v5 v6
noncomputable def f62_11_s {R : Type} (g_f87_10 : Nat → f87_10_T R) (k : Nat) (a0 : List D1) (a1 : Int) (a2 : ByteArray) (a3 : Int) (K : Int → Int → ByteArray → Int → Option R) : Option R :=
 f62_11_l2 g_f87_10 k a0 (a0.length : Int) 0 a1 a2 a3 (fun v11 v12 v13 =>
  K (-1) v11 v12 v13) K
noncomputable def f62_11_d {R : Type} (g : f62_11_T R) (e : Dr D R) : Dr D R := door [.list (.named 1), .fn 87 [.ptr 0 0, .ptr 2 0, .ptr 3 0]] [.box [.fn 72 [.ptr 1 0]], .box [.int .i64], .box [.str], .box [.int .i64]] (fun (x : (List D1 × (Unit × Unit × Unit × Unit) × Unit)) (y : (((Unit × Unit) × Unit) × (Int × Unit) × (ByteArray × Unit) × (Int × Unit) × Unit)) K => g x.1 y.2.1.1 y.2.2.1.1 y.2.2.2.1.1 (fun z0 z1 z2 z3 => K ⟨.int .i64 z0, [some (.box [.fn 72 [.ptr 1 0]]), some (.box [.int .i64 z1]), some (.box [.str z2]), some (.box [.int .i64 z3])]⟩)) e
/-! ## 86: slices.ContainsFunc[[]diorama/api.Node,diorama/api.Node] -/
noncomputable def f86_10_s {R : Type} (g_f62_11 : Nat → f62_11_T R) (k : Nat) (a0 : List D1) (a1 : Int) (a2 : ByteArray) (a3 : Int) (K : Bool → Int → ByteArray → Int → Option R) : Option R :=
 g_f62_11 k a0 a1 a2 a3 (fun v1 v2 v3 v4 =>
  K (decide (v1 ≥ 0)) v2 v3 v4)
noncomputable def f86_10_d {R : Type} (g : f86_10_T R) (e : Dr D R) : Dr D R := door [.list (.named 1), .fn 87 [.ptr 0 0, .ptr 2 0, .ptr 3 0]] [.box [.fn 72 [.ptr 1 0]], .box [.int .i64], .box [.str], .box [.int .i64]] (fun (x : (List D1 × (Unit × Unit × Unit × Unit) × Unit)) (y : (((Unit × Unit) × Unit) × (Int × Unit) × (ByteArray × Unit) × (Int × Unit) × Unit)) K => g x.1 y.2.1.1 y.2.2.1.1 y.2.2.2.1.1 (fun z0 z1 z2 z3 => K ⟨.bool z0, [some (.box [.fn 72 [.ptr 1 0]]), some (.box [.int .i64 z1]), some (.box [.str z2]), some (.box [.int .i64 z3])]⟩)) e
/-! ## 73: diorama/box.some -/
noncomputable def f73_5_s {R : Type} (g_f86_10 : Nat → f86_10_T R) (k : Nat) (a0 : List D1) (a1 : ByteArray) (a2 a3 : Int) (K : Bool → Int → Option R) : Option R :=
 g_f86_10 k a0 a3 a1 a2 (fun v1 v2 _v3 _v4 =>
  K v1 v2)
noncomputable def f73_5_d {R : Type} (g : f73_5_T R) (e : Dr D R) : Dr D R := door [.list (.named 1), .str, .int .i64, .fn 72 [.ptr 0 0]] [.box [.int .i64]] (fun (x : (List D1 × ByteArray × Int × (Unit × Unit) × Unit)) (y : ((Int × Unit) × Unit)) K => g x.1 x.2.1 x.2.2.1 y.1.1 (fun z0 z1 => K ⟨.bool z0, [some (.box [.int .i64 z1])]⟩)) e
noncomputable def f87_10_o {R : Type} (g_f73_5 : Nat → f73_5_T R) (k : Nat) : Orc D R := (orcAdd 73 (f73_5_d (g_f73_5 k) noDr) (orcAdd 72 (f72_d (f72 k) noDr) (orcAdd 28 (f28_d (f28 k) noDr) noOrc)))
theorem f87_10_o_ok {R : Type} (g_f73_5 : Nat → f73_5_T R) (h_f73_5 : ∀ (k : Nat) (e : Dr D R), FnOk Tryd.prog cx 73 e → FnOk Tryd.prog cx 73 (f73_5_d (g_f73_5 k) e)) (k : Nat) : OrcOk Tryd.prog cx (f87_10_o (R := R) g_f73_5 k) := (OrcOk.add (h_f73_5 k _ FnOk.no) (OrcOk.add (f72_ok k FnOk.no) (OrcOk.add (f28_ok k FnOk.no) OrcOk.no)))
noncomputable def f87_10_b : Code := bodyOf Tryd.f87
noncomputable def f87_10_ann : Nat → Option LAnn := fun _key => none
noncomputable def f87_10_r {R : Type} (_g_f73_5 : Nat → f73_5_T R) (_k : Nat) : Lrc D R := noLrc
noncomputable def f62_11_o {R : Type} (g_f87_10 : Nat → f87_10_T R) (k : Nat) : Orc D R := (orcAdd 87 (f87_10_d (g_f87_10 k) noDr) noOrc)
theorem f62_11_o_ok {R : Type} (g_f87_10 : Nat → f87_10_T R) (h_f87_10 : ∀ (k : Nat) (e : Dr D R), FnOk Tryd.prog cx 87 e → FnOk Tryd.prog cx 87 (f87_10_d (g_f87_10 k) e)) (k : Nat) : OrcOk Tryd.prog cx (f62_11_o (R := R) g_f87_10 k) := (OrcOk.add (h_f87_10 k _ FnOk.no) OrcOk.no)
noncomputable def f62_11_b : Code := bodyOf Tryd.f62
noncomputable def f62_11_l2_a : LAnn := ⟨⟨[], [0, 1, 7, 8], [0, 1, 2, 3], []⟩, exOf (some ⟨[], [4], [0, 1, 2, 3], []⟩) [(0, ⟨[], [], [0, 1, 2, 3], []⟩)]⟩
noncomputable def f62_11_ann : Nat → Option LAnn := fun key => bif Nat.beq key 2 then some f62_11_l2_a else none
noncomputable def f62_11_l2_b : Code := loopAt f62_11_b 0
noncomputable def f62_11_l2_g {R : Type} (g_f87_10 : Nat → f87_10_T R) (k : Nat) (x : (List D1 × (Unit × Unit × Unit × Unit) × Int × Int × Unit)) (y : (((Unit × Unit) × Unit) × (Int × Unit) × (ByteArray × Unit) × (Int × Unit) × Unit)) (K : KX R) : Option R := f62_11_l2 g_f87_10 k x.1 x.2.2.1 x.2.2.2.1 y.2.1.1 y.2.2.1.1 y.2.2.2.1.1 (fun z0 z1 z2 => K (.exit 0) [] [some (.box [.fn 72 [.ptr 1 0]]), some (.box [.int .i64 z0]), some (.box [.str z1]), some (.box [.int .i64 z2])]) (fun z0 z1 z2 z3 => K (.ret) [.int .i64 z0] [some (.box [.fn 72 [.ptr 1 0]]), some (.box [.int .i64 z1]), some (.box [.str z2]), some (.box [.int .i64 z3])])
noncomputable def f62_11_l2_d {R : Type} (g_f87_10 : Nat → f87_10_T R) (k : Nat) : Lr D R := ldoor [.list (.named 1), .fn 87 [.ptr 0 0, .ptr 2 0, .ptr 3 0], .int .i64, .int .i64] [some (.box [.fn 72 [.ptr 1 0]]), some (.box [.int .i64]), some (.box [.str]), some (.box [.int .i64])] (f62_11_l2_g g_f87_10 k)
noncomputable def f62_11_l2_r {R : Type} (_g_f87_10 : Nat → f87_10_T R) (_k : Nat) : Lrc D R := noLrc
theorem f62_11_l2_d_ok {R : Type} (g_f87_10 : Nat → f87_10_T R) (h_f87_10 : ∀ (k : Nat) (e : Dr D R), FnOk Tryd.prog cx 87 e → FnOk Tryd.prog cx 87 (f87_10_d (g_f87_10 k) e)) : ∀ k, LoopOk Tryd.prog cx 19 4 f62_11_ann (f62_11_l2_d (R := R) g_f87_10 k) f62_11_l2_b :=
  loop_ok (keep := kp) (lrc := f62_11_l2_r (R := R) g_f87_10) cxOk mixed (f62_11_o_ok g_f87_10 h_f87_10) (show f62_11_ann (Am.keyOf f62_11_l2_b) = some f62_11_l2_a by kernel_rfl) (L := []) (by kernel_rfl) (fun _k => trivial) (J := []) (by kernel_rfl) (fun _k => trivial) (fun _k => LrcNat.no) (fun _x _y _K => by kernel_rfl) (fun _k _x _y _K => by kernel_rfl)
noncomputable def f62_11_r {R : Type} (g_f87_10 : Nat → f87_10_T R) (k : Nat) : Lrc D R := (lrcAdd 2 (f62_11_l2_d g_f87_10 k) noLrc)
noncomputable def f86_10_o {R : Type} (g_f62_11 : Nat → f62_11_T R) (k : Nat) : Orc D R := (orcAdd 62 (f62_11_d (g_f62_11 k) noDr) noOrc)
theorem f86_10_o_ok {R : Type} (g_f62_11 : Nat → f62_11_T R) (h_f62_11 : ∀ (k : Nat) (e : Dr D R), FnOk Tryd.prog cx 62 e → FnOk Tryd.prog cx 62 (f62_11_d (g_f62_11 k) e)) (k : Nat) : OrcOk Tryd.prog cx (f86_10_o (R := R) g_f62_11 k) := (OrcOk.add (h_f62_11 k _ FnOk.no) OrcOk.no)
noncomputable def f86_10_b : Code := bodyOf Tryd.f86
noncomputable def f86_10_ann : Nat → Option LAnn := fun _key => none
noncomputable def f86_10_r {R : Type} (_g_f62_11 : Nat → f62_11_T R) (_k : Nat) : Lrc D R := noLrc
noncomputable def f73_5_o {R : Type} (g_f86_10 : Nat → f86_10_T R) (k : Nat) : Orc D R := (orcAdd 86 (f86_10_d (g_f86_10 k) noDr) noOrc)
theorem f73_5_o_ok {R : Type} (g_f86_10 : Nat → f86_10_T R) (h_f86_10 : ∀ (k : Nat) (e : Dr D R), FnOk Tryd.prog cx 86 e → FnOk Tryd.prog cx 86 (f86_10_d (g_f86_10 k) e)) (k : Nat) : OrcOk Tryd.prog cx (f73_5_o (R := R) g_f86_10 k) := (OrcOk.add (h_f86_10 k _ FnOk.no) OrcOk.no)
noncomputable def f73_5_b : Code := bodyOf Tryd.f73
noncomputable def f73_5_ann : Nat → Option LAnn := fun _key => none
noncomputable def f73_5_r {R : Type} (_g_f86_10 : Nat → f86_10_T R) (_k : Nat) : Lrc D R := noLrc
noncomputable def rec_f87_10 {R : Type} : Nat → (f87_10_T R) × (f62_11_T R) × (f86_10_T R) × (f73_5_T R)
  | 0 => (fun _ _ _ _ _ _ _ _ => none, fun _ _ _ _ _ => none, fun _ _ _ _ _ => none, fun _ _ _ _ _ => none)
  | k + 1 => (f87_10_s (fun _ => (rec_f87_10 (R := R) k).2.2.2) k, f62_11_s (fun _ => (rec_f87_10 (R := R) k).1) k, f86_10_s (fun _ => (rec_f87_10 (R := R) k).2.1) k, f73_5_s (fun _ => (rec_f87_10 (R := R) k).2.2.1) k)
theorem rec_f87_10_succ {R : Type} (k : Nat) : rec_f87_10 (R := R) (k + 1) = (f87_10_s (fun _ => (rec_f87_10 (R := R) k).2.2.2) k, f62_11_s (fun _ => (rec_f87_10 (R := R) k).1) k, f86_10_s (fun _ => (rec_f87_10 (R := R) k).2.1) k, f73_5_s (fun _ => (rec_f87_10 (R := R) k).2.2.1) k) := rfl
theorem rec_f87_10_ok {R : Type} : ∀ k, (∀ e : Dr D R, FnOk Tryd.prog cx 87 e → FnOk Tryd.prog cx 87 (f87_10_d (rec_f87_10 (R := R) k).1 e)) ∧ (∀ e : Dr D R, FnOk Tryd.prog cx 62 e → FnOk Tryd.prog cx 62 (f62_11_d (rec_f87_10 (R := R) k).2.1 e)) ∧ (∀ e : Dr D R, FnOk Tryd.prog cx 86 e → FnOk Tryd.prog cx 86 (f86_10_d (rec_f87_10 (R := R) k).2.2.1 e)) ∧ (∀ e : Dr D R, FnOk Tryd.prog cx 73 e → FnOk Tryd.prog cx 73 (f73_5_d (rec_f87_10 (R := R) k).2.2.2 e))
  | 0 => ⟨fun e he => he.door0 fun x y K => rfl, fun e he => he.door0 fun x y K => rfl, fun e he => he.door0 fun x y K => rfl, fun e he => he.door0 fun x y _K => rfl⟩
  | k + 1 => by
    rw [rec_f87_10_succ]
    exact ⟨fun e he => he.door fun x y => body_ok (keep := kp) (ann := f87_10_ann) (lrc := f87_10_r (R := R) (fun _ => (rec_f87_10 (R := R) k).2.2.2) k) (N := 28) (n0 := 4) (c := []) cxOk mixed (f87_10_o_ok (fun _ => (rec_f87_10 (R := R) k).2.2.2) (fun _ e he => (rec_f87_10_ok (R := R) k).2.2.2 e he) k) (body := f87_10_b) (by kernel_rfl : Tryd.prog.funcs[87]? = some Tryd.f87) (by kernel_rfl) (by kernel_rfl) (by kernel_rfl) (by kernel_rfl) (of_decide_eq_true (by kernel_rfl)) (L := []) (by kernel_rfl) trivial (J := []) (by kernel_rfl) trivial (LrcNat.no) (fun _K => by delta f87_10_s f87_10_o; generalize @f28 R = a0; generalize @f72 R = a1; revert a0 a1; refine id ?_; intros; kernel_rfl),
      fun e he => he.door fun x y => body_ok (keep := kp) (ann := f62_11_ann) (lrc := f62_11_r (R := R) (fun _ => (rec_f87_10 (R := R) k).1) k) (N := 19) (n0 := 4) (c := []) cxOk mixed (f62_11_o_ok (fun _ => (rec_f87_10 (R := R) k).1) (fun _ e he => (rec_f87_10_ok (R := R) k).1 e he) k) (body := f62_11_b) (by kernel_rfl : Tryd.prog.funcs[62]? = some Tryd.f62) (by kernel_rfl) (by kernel_rfl) (by kernel_rfl) (by kernel_rfl) (of_decide_eq_true (by kernel_rfl)) (L := [f62_11_l2_b]) (by kernel_rfl) (⟨(f62_11_l2_d_ok (fun _ => (rec_f87_10 (R := R) k).1) (fun _ e he => (rec_f87_10_ok (R := R) k).1 e he) k).use (by kernel_rfl), trivial⟩) (J := []) (by kernel_rfl) trivial ((LrcNat.add (f62_11_l2_d_ok (fun _ => (rec_f87_10 (R := R) k).1) (fun _ e he => (rec_f87_10_ok (R := R) k).1 e he) k).2 LrcNat.no)) (fun _K => by kernel_rfl),
      fun e he => he.door fun x y => body_ok (keep := kp) (ann := f86_10_ann) (lrc := f86_10_r (R := R) (fun _ => (rec_f87_10 (R := R) k).2.1) k) (N := 9) (n0 := 4) (c := []) cxOk mixed (f86_10_o_ok (fun _ => (rec_f87_10 (R := R) k).2.1) (fun _ e he => (rec_f87_10_ok (R := R) k).2.1 e he) k) (body := f86_10_b) (by kernel_rfl : Tryd.prog.funcs[86]? = some Tryd.f86) (by kernel_rfl) (by kernel_rfl) (by kernel_rfl) (by kernel_rfl) (of_decide_eq_true (by kernel_rfl)) (L := []) (by kernel_rfl) trivial (J := []) (by kernel_rfl) trivial (LrcNat.no) (fun _K => by kernel_rfl),
      fun e he => he.door fun _x _y => body_ok (keep := kp) (ann := f73_5_ann) (lrc := f73_5_r (R := R) (fun _ => (rec_f87_10 (R := R) k).2.2.1) k) (N := 12) (n0 := 1) (c := []) cxOk mixed (f73_5_o_ok (fun _ => (rec_f87_10 (R := R) k).2.2.1) (fun _ e he => (rec_f87_10_ok (R := R) k).2.2.1 e he) k) (body := f73_5_b) (by kernel_rfl : Tryd.prog.funcs[73]? = some Tryd.f73) (by kernel_rfl) (by kernel_rfl) (by kernel_rfl) (by kernel_rfl) (of_decide_eq_true (by kernel_rfl)) (L := []) (by kernel_rfl) trivial (J := []) (by kernel_rfl) trivial (LrcNat.no) (fun _K => by kernel_rfl)⟩
noncomputable def f87_10 {R : Type} (k : Nat) (a0 : Int) (a1 : List Int) (a2 : List D1) (a3 : Bool) (a4 : Int) (a5 : ByteArray) (a6 : Int) (K : Bool → Int → ByteArray → Int → Option R) : Option R := (rec_f87_10 (R := R) k).1 a0 a1 a2 a3 a4 a5 a6 K
theorem f87_10_ok {R : Type} (k : Nat) {e : Dr D R} (he : FnOk Tryd.prog cx 87 e) : FnOk Tryd.prog cx 87 (f87_10_d (f87_10 k) e) := (rec_f87_10_ok (R := R) k).1 e he
noncomputable def f62_11 {R : Type} (k : Nat) (a0 : List D1) (a1 : Int) (a2 : ByteArray) (a3 : Int) (K : Int → Int → ByteArray → Int → Option R) : Option R := (rec_f87_10 (R := R) k).2.1 a0 a1 a2 a3 K
theorem f62_11_ok {R : Type} (k : Nat) {e : Dr D R} (he : FnOk Tryd.prog cx 62 e) : FnOk Tryd.prog cx 62 (f62_11_d (f62_11 k) e) := (rec_f87_10_ok (R := R) k).2.1 e he
noncomputable def f86_10 {R : Type} (k : Nat) (a0 : List D1) (a1 : Int) (a2 : ByteArray) (a3 : Int) (K : Bool → Int → ByteArray → Int → Option R) : Option R := (rec_f87_10 (R := R) k).2.2.1 a0 a1 a2 a3 K
theorem f86_10_ok {R : Type} (k : Nat) {e : Dr D R} (he : FnOk Tryd.prog cx 86 e) : FnOk Tryd.prog cx 86 (f86_10_d (f86_10 k) e) := (rec_f87_10_ok (R := R) k).2.2.1 e he
noncomputable def f73_5 {R : Type} (k : Nat) (a0 : List D1) (a1 : ByteArray) (a2 a3 : Int) (K : Bool → Int → Option R) : Option R := (rec_f87_10 (R := R) k).2.2.2 a0 a1 a2 a3 K
theorem f73_5_ok {R : Type} (k : Nat) {e : Dr D R} (he : FnOk Tryd.prog cx 73 e) : FnOk Tryd.prog cx 73 (f73_5_d (f73_5 k) e) := (rec_f87_10_ok (R := R) k).2.2.2 e he
theorem f87_10_step {R : Type} (k : Nat) (a0 : Int) (a1 : List Int) (a2 : List D1) (a3 : Bool) (a4 : Int) (a5 : ByteArray) (a6 : Int) (K : Bool → Int → ByteArray → Int → Option R) : f87_10 (k + 1) a0 a1 a2 a3 a4 a5 a6 K = f87_10_s (fun _ => f73_5 (R := R) k) k a0 a1 a2 a3 a4 a5 a6 K := rfl
theorem f62_11_step {R : Type} (k : Nat) (a0 : List D1) (a1 : Int) (a2 : ByteArray) (a3 : Int) (K : Int → Int → ByteArray → Int → Option R) : f62_11 (k + 1) a0 a1 a2 a3 K = f62_11_s (fun _ => f87_10 (R := R) k) k a0 a1 a2 a3 K := rfl
theorem f86_10_step {R : Type} (k : Nat) (a0 : List D1) (a1 : Int) (a2 : ByteArray) (a3 : Int) (K : Bool → Int → ByteArray → Int → Option R) : f86_10 (k + 1) a0 a1 a2 a3 K = f86_10_s (fun _ => f62_11 (R := R) k) k a0 a1 a2 a3 K := rfl
theorem f73_5_step {R : Type} (k : Nat) (a0 : List D1) (a1 : ByteArray) (a2 a3 : Int) (K : Bool → Int → Option R) : f73_5 (k + 1) a0 a1 a2 a3 K = f73_5_s (fun _ => f86_10 (R := R) k) k a0 a1 a2 a3 K := rfl

abbrev f47_T (R : Type) : Type := List D1 → (Int → Option R) → Option R
/-! ## 47: diorama/box.Check -/
noncomputable def f47_l4 {R : Type} : Nat → List D1 → Nat → Nat → Int → Int → Int → Int → Int → Int → Int → Int → Option R → (Int → Option R) → Option R
  | 0, _, _, _, _, _, _, _, _, _, _, _, _, _ => none
  | k + 1, v1, v2, v3, v4, v5, v6, v7, v8, v9, v10, v11, X0, X1 =>
  bif decide (v5 < v4) then
   bif inb v5 v3 then
    bif decide (v5 = ((0 : Nat) : Int)) then
     f73 k v1 (⟨#[45]⟩ : ByteArray) 1 (fun v12 =>
      bif v12 then
      X1 v6
      else
      f47_l4 k v1 v2 v3 v4 (IntKind.i64.wrap (v5 + 1)) v6 v7 v8 v9 v10 v11 X0 X1)
    else
     bif decide (v5 = ((1 : Nat) : Int)) then
      f73_2 k v1 (⟨#[45]⟩ : ByteArray) 1 (fun v13 =>
      bif v13 then
      X1 v7
      else
      f47_l4 k v1 v2 v3 v4 (IntKind.i64.wrap (v5 + 1)) v6 v7 v8 v9 v10 v11 X0 X1)
     else
      bif decide (v5 = ((2 : Nat) : Int)) then
      f73_3 k v1 (⟨#[45]⟩ : ByteArray) 1 (fun v14 =>
      bif v14 then
      X1 v8
      else
      f47_l4 k v1 v2 v3 v4 (IntKind.i64.wrap (v5 + 1)) v6 v7 v8 v9 v10 v11 X0 X1)
      else
      bif decide (v5 = ((3 : Nat) : Int)) then
      f73_4 k v1 (⟨#[45]⟩ : ByteArray) 1 (fun v15 =>
      bif v15 then
      X1 v9
      else
      f47_l4 k v1 v2 v3 v4 (IntKind.i64.wrap (v5 + 1)) v6 v7 v8 v9 v10 v11 X0 X1)
      else
      bif decide (v5 = ((4 : Nat) : Int)) then
      f73_5 k v1 (⟨#[45]⟩ : ByteArray) 1 v11 (fun v16 v17 =>
      bif v16 then
      X1 v10
      else
      f47_l4 k v1 v2 v3 v4 (IntKind.i64.wrap (v5 + 1)) v6 v7 v8 v9 v10 v17 X0 X1)
      else
      none
   else
    none
  else
   X0
noncomputable def f47 {R : Type} (k : Nat) (a0 : List D1) (K : Int → Option R) : Option R :=
 f47_l4 k a0 0 5 (5 : Int) 0 80 4 42 43 2 0 (
  K 0) K
noncomputable def f47_d {R : Type} (g : f47_T R) (e : Dr D R) : Dr D R := door [.list (.named 1)] [] (fun (x : (List D1 × Unit)) (_y : (Unit)) K => g x.1 (fun z0 => K ⟨.int .i64 z0, []⟩)) e
noncomputable def f47_o {R : Type} (k : Nat) : Orc D R := (orcAdd 73 (f73_5_d (f73_5 k) (f73_4_d (f73_4 k) (f73_3_d (f73_3 k) (f73_2_d (f73_2 k) (f73_d (f73 k) noDr))))) noOrc)
theorem f47_o_ok {R : Type} (k : Nat) : OrcOk Tryd.prog cx (f47_o (R := R) k) := (OrcOk.add (f73_5_ok k (f73_4_ok k (f73_3_ok k (f73_2_ok k (f73_ok k FnOk.no))))) OrcOk.no)
noncomputable def f47_b : Code := bodyOf Tryd.f47
noncomputable def f47_l4_a : LAnn := ⟨⟨[], [0, 14, 15, 16], [196832, 131136], []⟩, exOf (some ⟨[], [2], [], []⟩) [(0, ⟨[], [], [], []⟩)]⟩
noncomputable def f47_ann : Nat → Option LAnn := fun key => bif Nat.beq key 4 then some f47_l4_a else none
noncomputable def f47_l4_b : Code := loopAt f47_b 0
noncomputable def f47_l4_g {R : Type} (k : Nat) (x : (List D1 × (Nat × Nat) × Int × Int × Unit)) (y : ((Int × (Unit) × Int × (Unit) × Int × (Unit) × Int × (Unit) × Int × (Unit × Unit) × Unit) × (Int × Unit) × Unit)) (K : KX R) : Option R := f47_l4 k x.1 x.2.1.1 x.2.1.2 x.2.2.1 x.2.2.2.1 y.1.1 y.1.2.2.1 y.1.2.2.2.2.1 y.1.2.2.2.2.2.2.1 y.1.2.2.2.2.2.2.2.2.1 y.2.1.1 (K (.exit 0) [] []) (fun z0 => K (.ret) [.int .i64 z0] [])
noncomputable def f47_l4_d {R : Type} (k : Nat) : Lr D R := ldoor [.list (.named 1), .view 196832, .int .i64, .int .i64] [some (.box [.int .i64, .fn 67 [], .int .i64, .fn 68 [], .int .i64, .fn 69 [], .int .i64, .fn 71 [], .int .i64, .fn 72 [.ptr 131136 0]]), some (.box [.int .i64])] (f47_l4_g k)
noncomputable def f47_l4_r {R : Type} (_k : Nat) : Lrc D R := noLrc
theorem f47_l4_d_ok {R : Type} : ∀ k, LoopOk Tryd.prog cx 27 0 f47_ann (f47_l4_d (R := R) k) f47_l4_b :=
  loop_ok (keep := kp) (lrc := f47_l4_r (R := R)) cxOk mixed (f47_o_ok) (show f47_ann (Am.keyOf f47_l4_b) = some f47_l4_a by kernel_rfl) (L := []) (by kernel_rfl) (fun _k => trivial) (J := []) (by kernel_rfl) (fun _k => trivial) (fun _k => LrcNat.no) (fun _x _y _K => by kernel_rfl) (fun _k _x _y _K => by kernel_rfl)
noncomputable def f47_r {R : Type} (k : Nat) : Lrc D R := (lrcAdd 4 (f47_l4_d k) noLrc)
theorem f47_ok {R : Type} (k : Nat) {e : Dr D R} (he : FnOk Tryd.prog cx 47 e) : FnOk Tryd.prog cx 47 (f47_d (f47 k) e) :=
  he.door fun _x _y => body_ok (keep := kp) (ann := f47_ann) (lrc := f47_r (R := R) k) (N := 27) (n0 := 0) (c := []) cxOk mixed (f47_o_ok k) (body := f47_b) (by kernel_rfl : Tryd.prog.funcs[47]? = some Tryd.f47) (by kernel_rfl) (by kernel_rfl) (by kernel_rfl) (by kernel_rfl) (of_decide_eq_true (by kernel_rfl)) (L := [f47_l4_b]) (by kernel_rfl) (⟨(f47_l4_d_ok k).use (by kernel_rfl), trivial⟩) (J := []) (by kernel_rfl) trivial ((LrcNat.add (f47_l4_d_ok k).2 LrcNat.no)) (fun _K => by delta f47 f47_o; generalize @f73 R = a0; generalize @f73_2 R = a1; generalize @f73_3 R = a2; generalize @f73_4 R = a3; generalize @f73_5 R = a4; revert a0 a1 a2 a3 a4; refine id ?_; intros; kernel_rfl)

abbrev f82_T (R : Type) : Type := List D1 → Bool → (List Int → Option R) → Option R
/-! ## 82: diorama/box.list -/
noncomputable def f82_l3 {R : Type} (g_f82 : Nat → f82_T R) : Nat → Bool → List D1 → Int → Int → List Int → (List Int → Option R) → Option R
  | 0, _, _, _, _, _, _ => none
  | k + 1, v1, v2, v3, v4, v5, X0 =>
  bif decide (v4 < v3) then
   bif inb v4 v2.length then
    bif (D1.c3 (v2.getD v4.toNat zero1)) then
     g_f82 k (D1.c2 (v2.getD v4.toNat zero1)) v1 (fun v6 =>
      f51 k (D1.c0 (v2.getD v4.toNat zero1)) v6 v1 (fun v7 =>
      bif room 1 (v5.length + v7.length) then
      f82_l3 g_f82 k v1 v2 v3 (IntKind.i64.wrap (v4 + 1)) (v5 ++ v7) X0
      else
      none))
    else
     f51 k (D1.c0 (v2.getD v4.toNat zero1)) (D1.c1 (v2.getD v4.toNat zero1)) v1 (fun v8 =>
      bif room 1 (v5.length + v8.length) then
      f82_l3 g_f82 k v1 v2 v3 (IntKind.i64.wrap (v4 + 1)) (v5 ++ v8) X0
      else
      none)
   else
    none
  else
   X0 v5
noncomputable def f82_s {R : Type} (g_f82 : Nat → f82_T R) (k : Nat) (a0 : List D1) (a1 : Bool) (K : List Int → Option R) : Option R :=
 f82_l3 g_f82 k a1 a0 (a0.length : Int) 0 ([] : List Int) K
noncomputable def f82_d {R : Type} (g : f82_T R) (e : Dr D R) : Dr D R := door [.list (.named 1), .bool] [] (fun (x : (List D1 × Bool × Unit)) (_y : (Unit)) K => g x.1 x.2.1 (fun z0 => K ⟨.own 0, [some (.row (.int .u8) z0 true)]⟩)) e
noncomputable def f82_o {R : Type} (g_f82 : Nat → f82_T R) (k : Nat) : Orc D R := (orcAdd 82 (f82_d (g_f82 k) noDr) (orcAdd 51 (f51_d (f51 k) noDr) noOrc))
theorem f82_o_ok {R : Type} (g_f82 : Nat → f82_T R) (h_f82 : ∀ (k : Nat) (e : Dr D R), FnOk Tryd.prog cx 82 e → FnOk Tryd.prog cx 82 (f82_d (g_f82 k) e)) (k : Nat) : OrcOk Tryd.prog cx (f82_o (R := R) g_f82 k) := (OrcOk.add (h_f82 k _ FnOk.no) (OrcOk.add (f51_ok k FnOk.no) OrcOk.no))
noncomputable def f82_b : Code := bodyOf Tryd.f82
noncomputable def f82_l3_a : LAnn := ⟨⟨[(.tmp 5, .own 68719489024 (.int .u8))], [1, 5, 9, 10, 11], [68719489024], []⟩, exOf (none) [(0, ⟨[], [5], [68719489024], []⟩)]⟩
noncomputable def f82_ann : Nat → Option LAnn := fun key => bif Nat.beq key 3 then some f82_l3_a else none
noncomputable def f82_l3_b : Code := loopAt f82_b 0
noncomputable def f82_l3_g {R : Type} (g_f82 : Nat → f82_T R) (k : Nat) (x : (Bool × Unit × List D1 × Int × Int × Unit)) (y : (List Int × Unit)) (K : KX R) : Option R := f82_l3 g_f82 k x.1 x.2.2.1 x.2.2.2.1 x.2.2.2.2.1 y.1 (fun z0 => K (.exit 0) [.own 68719489024] [some (.row (.int .u8) z0 true)])
noncomputable def f82_l3_d {R : Type} (g_f82 : Nat → f82_T R) (k : Nat) : Lr D R := ldoor [.bool, .own 68719489024, .list (.named 1), .int .i64, .int .i64] [some (.row (.int .u8) true)] (f82_l3_g g_f82 k)
noncomputable def f82_l3_r {R : Type} (_g_f82 : Nat → f82_T R) (_k : Nat) : Lrc D R := noLrc
theorem f82_l3_d_ok {R : Type} (g_f82 : Nat → f82_T R) (h_f82 : ∀ (k : Nat) (e : Dr D R), FnOk Tryd.prog cx 82 e → FnOk Tryd.prog cx 82 (f82_d (g_f82 k) e)) : ∀ k, LoopOk Tryd.prog cx 32 0 f82_ann (f82_l3_d (R := R) g_f82 k) f82_l3_b :=
  loop_ok (keep := kp) (lrc := f82_l3_r (R := R) g_f82) cxOk mixed (f82_o_ok g_f82 h_f82) (show f82_ann (Am.keyOf f82_l3_b) = some f82_l3_a by kernel_rfl) (L := []) (by kernel_rfl) (fun _k => trivial) (J := []) (by kernel_rfl) (fun _k => trivial) (fun _k => LrcNat.no) (fun _x _y _K => by kernel_rfl) (fun _k _x _y _K => by kernel_rfl)
noncomputable def f82_r {R : Type} (g_f82 : Nat → f82_T R) (k : Nat) : Lrc D R := (lrcAdd 3 (f82_l3_d g_f82 k) noLrc)
noncomputable def rec_f82 {R : Type} : Nat → (f82_T R)
  | 0 => (fun _ _ _ => none)
  | k + 1 => (f82_s (fun _ => (rec_f82 (R := R) k)) k)
theorem rec_f82_succ {R : Type} (k : Nat) : rec_f82 (R := R) (k + 1) = (f82_s (fun _ => (rec_f82 (R := R) k)) k) := rfl
theorem rec_f82_ok {R : Type} : ∀ k, (∀ e : Dr D R, FnOk Tryd.prog cx 82 e → FnOk Tryd.prog cx 82 (f82_d (rec_f82 (R := R) k) e))
  | 0 => fun e he => he.door0 fun x y _K => rfl
  | k + 1 => by
    rw [rec_f82_succ]
    exact fun e he => he.door fun _x _y => body_ok (keep := kp) (ann := f82_ann) (lrc := f82_r (R := R) (fun _ => (rec_f82 (R := R) k)) k) (N := 32) (n0 := 0) (c := []) cxOk mixed (f82_o_ok (fun _ => (rec_f82 (R := R) k)) (fun _ e he => (rec_f82_ok (R := R) k) e he) k) (body := f82_b) (by kernel_rfl : Tryd.prog.funcs[82]? = some Tryd.f82) (by kernel_rfl) (by kernel_rfl) (by kernel_rfl) (by kernel_rfl) (of_decide_eq_true (by kernel_rfl)) (L := [f82_l3_b]) (by kernel_rfl) (⟨(f82_l3_d_ok (fun _ => (rec_f82 (R := R) k)) (fun _ e he => (rec_f82_ok (R := R) k) e he) k).use (by kernel_rfl), trivial⟩) (J := []) (by kernel_rfl) trivial ((LrcNat.add (f82_l3_d_ok (fun _ => (rec_f82 (R := R) k)) (fun _ e he => (rec_f82_ok (R := R) k) e he) k).2 LrcNat.no)) (fun _K => by delta f82_s f82_o; generalize @f51 R = a0; revert a0; refine id ?_; intros; kernel_rfl)
noncomputable def f82 {R : Type} (k : Nat) (a0 : List D1) (a1 : Bool) (K : List Int → Option R) : Option R := (rec_f82 (R := R) k) a0 a1 K
theorem f82_ok {R : Type} (k : Nat) {e : Dr D R} (he : FnOk Tryd.prog cx 82 e) : FnOk Tryd.prog cx 82 (f82_d (f82 k) e) := (rec_f82_ok (R := R) k) e he
theorem f82_step {R : Type} (k : Nat) (a0 : List D1) (a1 : Bool) (K : List Int → Option R) : f82 (k + 1) a0 a1 K = f82_s (fun _ => f82 (R := R) k) k a0 a1 K := rfl

abbrev f65_T (R : Type) : Type := List D1 → Bool → (Int → List Int → Option R) → Option R
/-! ## 65: diorama/box.tree -/
noncomputable def f65 {R : Type} (k : Nat) (a0 : List D1) (a1 : Bool) (K : Int → List Int → Option R) : Option R :=
 f47 k a0 (fun v1 =>
  bif (v1 != 0) then
   K v1 ([] : List Int)
  else
   f82 k a0 a1 (fun v2 =>
    bif decide ((v2.length : Int) > 1048576) then
     K 2 ([] : List Int)
    else
     K 0 v2))
noncomputable def f65_d {R : Type} (g : f65_T R) (e : Dr D R) : Dr D R := door [.list (.named 1), .bool] [] (fun (x : (List D1 × Bool × Unit)) (_y : (Unit)) K => g x.1 x.2.1 (fun z0 z1 => K ⟨.tup [.own 0, .int .i64 z0], [some (.row (.int .u8) z1 true)]⟩)) e
noncomputable def f65_o {R : Type} (k : Nat) : Orc D R := (orcAdd 82 (f82_d (f82 k) noDr) (orcAdd 47 (f47_d (f47 k) noDr) noOrc))
theorem f65_o_ok {R : Type} (k : Nat) : OrcOk Tryd.prog cx (f65_o (R := R) k) := (OrcOk.add (f82_ok k FnOk.no) (OrcOk.add (f47_ok k FnOk.no) OrcOk.no))
noncomputable def f65_b : Code := bodyOf Tryd.f65
noncomputable def f65_ann : Nat → Option LAnn := fun _key => none
noncomputable def f65_r {R : Type} (_k : Nat) : Lrc D R := noLrc
theorem f65_ok {R : Type} (k : Nat) {e : Dr D R} (he : FnOk Tryd.prog cx 65 e) : FnOk Tryd.prog cx 65 (f65_d (f65 k) e) :=
  he.door fun _x _y => body_ok (keep := kp) (ann := f65_ann) (lrc := f65_r (R := R) k) (N := 20) (n0 := 0) (c := [(.tmp 4, .own 1099511627776 (.int .u8))]) cxOk mixed (f65_o_ok k) (body := f65_b) (by kernel_rfl : Tryd.prog.funcs[65]? = some Tryd.f65) (by kernel_rfl) (by kernel_rfl) (by kernel_rfl) (by kernel_rfl) (of_decide_eq_true (by kernel_rfl)) (L := []) (by kernel_rfl) trivial (J := []) (by kernel_rfl) trivial (LrcNat.no) (fun _K => by delta f65 f65_o; generalize @f47 R = a0; generalize @f82 R = a1; revert a0 a1; refine id ?_; intros; kernel_rfl)

abbrev f41_T (R : Type) : Type := List D1 → (Int → List Int → Option R) → Option R
/-! ## 41: diorama/box.Write -/
noncomputable def f41 {R : Type} (k : Nat) (a0 : List D1) (K : Int → List Int → Option R) : Option R :=
 f65 k a0 false K
noncomputable def f41_d {R : Type} (g : f41_T R) (e : Dr D R) : Dr D R := door [.list (.named 1)] [] (fun (x : (List D1 × Unit)) (_y : (Unit)) K => g x.1 (fun z0 z1 => K ⟨.tup [.own 0, .int .i64 z0], [some (.row (.int .u8) z1 true)]⟩)) e
noncomputable def f41_o {R : Type} (k : Nat) : Orc D R := (orcAdd 65 (f65_d (f65 k) noDr) noOrc)
theorem f41_o_ok {R : Type} (k : Nat) : OrcOk Tryd.prog cx (f41_o (R := R) k) := (OrcOk.add (f65_ok k FnOk.no) OrcOk.no)
noncomputable def f41_b : Code := bodyOf Tryd.f41
noncomputable def f41_ann : Nat → Option LAnn := fun _key => none
noncomputable def f41_r {R : Type} (_k : Nat) : Lrc D R := noLrc
theorem f41_ok {R : Type} (k : Nat) {e : Dr D R} (he : FnOk Tryd.prog cx 41 e) : FnOk Tryd.prog cx 41 (f41_d (f41 k) e) :=
  he.door fun _x _y => body_ok (keep := kp) (ann := f41_ann) (lrc := f41_r (R := R) k) (N := 8) (n0 := 0) (c := []) cxOk mixed (f41_o_ok k) (body := f41_b) (by kernel_rfl : Tryd.prog.funcs[41]? = some Tryd.f41) (by kernel_rfl) (by kernel_rfl) (by kernel_rfl) (by kernel_rfl) (of_decide_eq_true (by kernel_rfl)) (L := []) (by kernel_rfl) trivial (J := []) (by kernel_rfl) trivial (LrcNat.no) (fun _K => by delta f41 f41_o; generalize @f65 R = a0; revert a0; refine id ?_; intros; kernel_rfl)

abbrev f42_T (R : Type) : Type := List D1 → (Int → List Int → Option R) → Option R
/-! ## 42: diorama/box.WriteLong -/
noncomputable def f42 {R : Type} (k : Nat) (a0 : List D1) (K : Int → List Int → Option R) : Option R :=
 f65 k a0 true K
noncomputable def f42_d {R : Type} (g : f42_T R) (e : Dr D R) : Dr D R := door [.list (.named 1)] [] (fun (x : (List D1 × Unit)) (_y : (Unit)) K => g x.1 (fun z0 z1 => K ⟨.tup [.own 0, .int .i64 z0], [some (.row (.int .u8) z1 true)]⟩)) e
noncomputable def f42_o {R : Type} (k : Nat) : Orc D R := (orcAdd 65 (f65_d (f65 k) noDr) noOrc)
theorem f42_o_ok {R : Type} (k : Nat) : OrcOk Tryd.prog cx (f42_o (R := R) k) := (OrcOk.add (f65_ok k FnOk.no) OrcOk.no)
noncomputable def f42_b : Code := bodyOf Tryd.f42
noncomputable def f42_ann : Nat → Option LAnn := fun _key => none
noncomputable def f42_r {R : Type} (_k : Nat) : Lrc D R := noLrc
theorem f42_ok {R : Type} (k : Nat) {e : Dr D R} (he : FnOk Tryd.prog cx 42 e) : FnOk Tryd.prog cx 42 (f42_d (f42 k) e) :=
  he.door fun _x _y => body_ok (keep := kp) (ann := f42_ann) (lrc := f42_r (R := R) k) (N := 8) (n0 := 0) (c := []) cxOk mixed (f42_o_ok k) (body := f42_b) (by kernel_rfl : Tryd.prog.funcs[42]? = some Tryd.f42) (by kernel_rfl) (by kernel_rfl) (by kernel_rfl) (by kernel_rfl) (of_decide_eq_true (by kernel_rfl)) (L := []) (by kernel_rfl) trivial (J := []) (by kernel_rfl) trivial (LrcNat.no) (fun _K => by delta f42 f42_o; generalize @f65 R = a0; revert a0; refine id ?_; intros; kernel_rfl)

abbrev f11_T (R : Type) : Type := List D1 → List D1 → Int → (Bool → Option R) → Option R
/-! ## 11: diorama/dioramalaw08.BoxFreed -/
noncomputable def f11 {R : Type} (k : Nat) (a0 a1 : List D1) (a2 : Int) (K : Bool → Option R) : Option R :=
 f41 k a0 (fun v1 v2 =>
  f42 k a1 (fun v3 v4 =>
   f23 k a2 (fun v5 v6 =>
    bif (v1 != 0) then
     f20 k K
    else
     bif (v3 != 0) then
      f20 k K
     else
      bif (v5 != 0) then
      f20 k K
      else
      bif room 1 v2.length then
      bif room 1 (v2.length + v6.length) then
      bif room 1 ((v2 ++ v6).length + v4.length) then
      f14 k ((v2 ++ v6) ++ v4) (fun _v10 v11 v12 =>
      bif (v11 == 2) then
      f20 k K
      else
      bif (v11 == 0) then
      bif room 64 a0.length then
      bif room 64 (a0.length + a1.length) then
      f18 k v12 (a0 ++ a1) (fun v14 =>
      bif v14 then
      f20 k K
      else
      K false)
      else
      none
      else
      none
      else
      K false)
      else
      none
      else
      none
      else
      none)))
noncomputable def f11_d {R : Type} (g : f11_T R) (e : Dr D R) : Dr D R := door [.list (.named 1), .list (.named 1), .int .i64] [] (fun (x : (List D1 × List D1 × Int × Unit)) (_y : (Unit)) K => g x.1 x.2.1 x.2.2.1 (fun z0 => K ⟨.bool z0, []⟩)) e
noncomputable def f11_o {R : Type} (k : Nat) : Orc D R := (orcAdd 42 (f42_d (f42 k) noDr) (orcAdd 41 (f41_d (f41 k) noDr) (orcAdd 23 (f23_d (f23 k) noDr) (orcAdd 20 (f20_d (f20 k) noDr) (orcAdd 18 (f18_d (f18 k) noDr) (orcAdd 14 (f14_d (f14 k) noDr) noOrc))))))
theorem f11_o_ok {R : Type} (k : Nat) : OrcOk Tryd.prog cx (f11_o (R := R) k) := (OrcOk.add (f42_ok k FnOk.no) (OrcOk.add (f41_ok k FnOk.no) (OrcOk.add (f23_ok k FnOk.no) (OrcOk.add (f20_ok k FnOk.no) (OrcOk.add (f18_ok k FnOk.no) (OrcOk.add (f14_ok k FnOk.no) OrcOk.no))))))
noncomputable def f11_b : Code := bodyOf Tryd.f11
noncomputable def f11_ann : Nat → Option LAnn := fun _key => none
noncomputable def f11_r {R : Type} (_k : Nat) : Lrc D R := noLrc
theorem f11_ok {R : Type} (k : Nat) {e : Dr D R} (he : FnOk Tryd.prog cx 11 e) : FnOk Tryd.prog cx 11 (f11_d (f11 k) e) :=
  he.door fun _x _y => body_ok (keep := kp) (ann := f11_ann) (lrc := f11_r (R := R) k) (N := 71) (n0 := 0) (c := []) cxOk mixed (f11_o_ok k) (body := f11_b) (by kernel_rfl : Tryd.prog.funcs[11]? = some Tryd.f11) (by kernel_rfl) (by kernel_rfl) (by kernel_rfl) (by kernel_rfl) (of_decide_eq_true (by kernel_rfl)) (L := []) (by kernel_rfl) trivial (J := []) (by kernel_rfl) trivial (LrcNat.no) (fun _K => by delta f11 f11_o; generalize @f14 R = a0; generalize @f18 R = a1; generalize @f20 R = a2; generalize @f23 R = a3; generalize @f41 R = a4; generalize @f42 R = a5; revert a0 a1 a2 a3 a4 a5; refine id ?_; intros; kernel_rfl)


end Go.Proofs.YtehmahdngjdhpaaDoor
