/- Proved: each of these functions does what a plain function says. Conditions: none. -/
import Derived.Test.YtehmahdngjdhpaaDoorBxWalk1

set_option maxRecDepth 100000
/-! What the functions do, as plain functions; and that they do. -/
namespace Go.Proofs.YtehmahdngjdhpaaDoor
open Go Go.Am
abbrev f75_T (R : Type) : Type := List D1 → (Int → Option R) → Option R
/-! ## 75: diorama/dioramaref08.Nodes -/
noncomputable def f75_l3 {R : Type} (g_f75 : Nat → f75_T R) : Nat → List D1 → Int → Int → (Int → Option R) → Option R
  | 0, _, _, _, _ => none
  | k + 1, v1, v2, v3, X0 =>
  bif decide (v3 < (v1.length : Int)) then
   bif inb v3 v1.length then
    g_f75 k (D1.c2 (v1.getD v3.toNat zero1)) (fun v4 =>
     f75_l3 g_f75 k v1 (IntKind.i64.wrap (v2 + v4)) (IntKind.i64.wrap (v3 + 1)) X0)
   else
    none
  else
   X0 v2
noncomputable def f75_s {R : Type} (g_f75 : Nat → f75_T R) (k : Nat) (a0 : List D1) (K : Int → Option R) : Option R :=
 f75_l3 g_f75 k a0 (a0.length : Int) 0 K
noncomputable def f75_d {R : Type} (g : f75_T R) (e : Dr D R) : Dr D R := door [.list (.named 1)] [] (fun (x : (List D1 × Unit)) (_y : (Unit)) K => g x.1 (fun z0 => K ⟨.int .i64 z0, []⟩)) e
noncomputable def f75_o {R : Type} (g_f75 : Nat → f75_T R) (k : Nat) : Orc D R := (orcAdd 75 (f75_d (g_f75 k) noDr) noOrc)
theorem f75_o_ok {R : Type} (g_f75 : Nat → f75_T R) (h_f75 : ∀ (k : Nat) (e : Dr D R), FnOk Tryd.prog cx 75 e → FnOk Tryd.prog cx 75 (f75_d (g_f75 k) e)) (k : Nat) : OrcOk Tryd.prog cx (f75_o (R := R) g_f75 k) := (OrcOk.add (h_f75 k _ FnOk.no) OrcOk.no)
noncomputable def f75_b : Code := bodyOf Tryd.f75
noncomputable def f75_l3_a : LAnn := ⟨⟨[], [0, 3, 4], [], []⟩, exOf (none) [(0, ⟨[], [3], [], []⟩)]⟩
noncomputable def f75_ann : Nat → Option LAnn := fun key => bif Nat.beq key 3 then some f75_l3_a else none
noncomputable def f75_l3_b : Code := loopAt f75_b 0
noncomputable def f75_l3_g {R : Type} (g_f75 : Nat → f75_T R) (k : Nat) (x : (List D1 × Int × Int × Unit)) (_y : (Unit)) (K : KX R) : Option R := f75_l3 g_f75 k x.1 x.2.1 x.2.2.1 (fun z0 => K (.exit 0) [.int .i64 z0] [])
noncomputable def f75_l3_d {R : Type} (g_f75 : Nat → f75_T R) (k : Nat) : Lr D R := ldoor [.list (.named 1), .int .i64, .int .i64] [] (f75_l3_g g_f75 k)
noncomputable def f75_l3_r {R : Type} (_g_f75 : Nat → f75_T R) (_k : Nat) : Lrc D R := noLrc
theorem f75_l3_d_ok {R : Type} (g_f75 : Nat → f75_T R) (h_f75 : ∀ (k : Nat) (e : Dr D R), FnOk Tryd.prog cx 75 e → FnOk Tryd.prog cx 75 (f75_d (g_f75 k) e)) : ∀ k, LoopOk Tryd.prog cx 22 0 f75_ann (f75_l3_d (R := R) g_f75 k) f75_l3_b :=
  loop_ok (keep := kp) (lrc := f75_l3_r (R := R) g_f75) cxOk mixed (f75_o_ok g_f75 h_f75) (show f75_ann (Am.keyOf f75_l3_b) = some f75_l3_a by kernel_rfl) (L := []) (by kernel_rfl) (fun _k => trivial) (J := []) (by kernel_rfl) (fun _k => trivial) (fun _k => LrcNat.no) (fun _x _y _K => by kernel_rfl) (fun _k _x _y _K => by kernel_rfl)
noncomputable def f75_r {R : Type} (g_f75 : Nat → f75_T R) (k : Nat) : Lrc D R := (lrcAdd 3 (f75_l3_d g_f75 k) noLrc)
noncomputable def rec_f75 {R : Type} : Nat → (f75_T R)
  | 0 => (fun _ _ => none)
  | k + 1 => (f75_s (fun _ => (rec_f75 (R := R) k)) k)
theorem rec_f75_succ {R : Type} (k : Nat) : rec_f75 (R := R) (k + 1) = (f75_s (fun _ => (rec_f75 (R := R) k)) k) := rfl
theorem rec_f75_ok {R : Type} : ∀ k, (∀ e : Dr D R, FnOk Tryd.prog cx 75 e → FnOk Tryd.prog cx 75 (f75_d (rec_f75 (R := R) k) e))
  | 0 => fun e he => he.door0 fun x y _K => rfl
  | k + 1 => by
    rw [rec_f75_succ]
    exact fun e he => he.door fun _x _y => body_ok (keep := kp) (ann := f75_ann) (lrc := f75_r (R := R) (fun _ => (rec_f75 (R := R) k)) k) (N := 22) (n0 := 0) (c := []) cxOk mixed (f75_o_ok (fun _ => (rec_f75 (R := R) k)) (fun _ e he => (rec_f75_ok (R := R) k) e he) k) (body := f75_b) (by kernel_rfl : Tryd.prog.funcs[75]? = some Tryd.f75) (by kernel_rfl) (by kernel_rfl) (by kernel_rfl) (by kernel_rfl) (of_decide_eq_true (by kernel_rfl)) (L := [f75_l3_b]) (by kernel_rfl) (⟨(f75_l3_d_ok (fun _ => (rec_f75 (R := R) k)) (fun _ e he => (rec_f75_ok (R := R) k) e he) k).use (by kernel_rfl), trivial⟩) (J := []) (by kernel_rfl) trivial ((LrcNat.add (f75_l3_d_ok (fun _ => (rec_f75 (R := R) k)) (fun _ e he => (rec_f75_ok (R := R) k) e he) k).2 LrcNat.no)) (fun _K => by kernel_rfl)
noncomputable def f75 {R : Type} (k : Nat) (a0 : List D1) (K : Int → Option R) : Option R := (rec_f75 (R := R) k) a0 K
theorem f75_ok {R : Type} (k : Nat) {e : Dr D R} (he : FnOk Tryd.prog cx 75 e) : FnOk Tryd.prog cx 75 (f75_d (f75 k) e) := (rec_f75_ok (R := R) k) e he
theorem f75_step {R : Type} (k : Nat) (a0 : List D1) (K : Int → Option R) : f75 (k + 1) a0 K = f75_s (fun _ => f75 (R := R) k) k a0 K := rfl

abbrev f48_T (R : Type) : Type := List D1 → (Int → Option R) → Option R
/-! ## 48: diorama/dioramaref08.Check -/
noncomputable def f48_l3 {R : Type} : Nat → List D1 → Int → List Int → (List D1 → Option R) → (Int → Option R) → Option R
  | 0, _, _, _, _, _ => none
  | k + 1, v1, v2, v3, X0, X1 =>
  bif decide (v2 ≤ 4) then
   f74 k v1 (⟨#[]⟩ : ByteArray) 1 v2 (fun v4 =>
    bif v4 then
     bif inb v2 v3.length then
      X1 (v3.getD v2.toNat 0)
     else
      none
    else
     f48_l3 k v1 (IntKind.i64.wrap (v2 + 1)) v3 X0 X1)
  else
   X0 v1
noncomputable def f48 {R : Type} (k : Nat) (a0 : List D1) (K : Int → Option R) : Option R :=
 f48_l3 k a0 1 ([0, 80, 4, 42, 43]) (fun v5 =>
  f75 k v5 (fun v6 =>
   bif decide (v6 > 4000) then
    K 2
   else
    K 0)) K
noncomputable def f48_d {R : Type} (g : f48_T R) (e : Dr D R) : Dr D R := door [.list (.named 1)] [] (fun (x : (List D1 × Unit)) (_y : (Unit)) K => g x.1 (fun z0 => K ⟨.int .i64 z0, []⟩)) e
noncomputable def f48_o {R : Type} (k : Nat) : Orc D R := (orcAdd 75 (f75_d (f75 k) noDr) (orcAdd 74 (f74_d (f74 k) noDr) noOrc))
theorem f48_o_ok {R : Type} (k : Nat) : OrcOk Tryd.prog cx (f48_o (R := R) k) := (OrcOk.add (f75_ok k FnOk.no) (OrcOk.add (f74_ok k FnOk.no) OrcOk.no))
noncomputable def f48_b : Code := bodyOf Tryd.f48
noncomputable def f48_l3_a : LAnn := ⟨⟨[], [0, 3, 4], [131184], []⟩, exOf (some ⟨[], [2], [], []⟩) [(0, ⟨[], [0], [], []⟩)]⟩
noncomputable def f48_ann : Nat → Option LAnn := fun key => bif Nat.beq key 3 then some f48_l3_a else none
noncomputable def f48_l3_b : Code := loopAt f48_b 0
noncomputable def f48_l3_g {R : Type} (k : Nat) (x : (List D1 × Unit × Int × Unit)) (y : (List Int × Unit)) (K : KX R) : Option R := f48_l3 k x.1 x.2.2.1 y.1 (fun z0 => K (.exit 0) [.list (.named 1) z0] []) (fun z0 => K (.ret) [.int .i64 z0] [])
noncomputable def f48_l3_d {R : Type} (k : Nat) : Lr D R := ldoor [.list (.named 1), .own 131184, .int .i64] [some (.row (.int .i64) true)] (f48_l3_g k)
noncomputable def f48_l3_r {R : Type} (_k : Nat) : Lrc D R := noLrc
theorem f48_l3_d_ok {R : Type} : ∀ k, LoopOk Tryd.prog cx 22 0 f48_ann (f48_l3_d (R := R) k) f48_l3_b :=
  loop_ok (keep := kp) (lrc := f48_l3_r (R := R)) cxOk mixed (f48_o_ok) (show f48_ann (Am.keyOf f48_l3_b) = some f48_l3_a by kernel_rfl) (L := []) (by kernel_rfl) (fun _k => trivial) (J := []) (by kernel_rfl) (fun _k => trivial) (fun _k => LrcNat.no) (fun _x _y _K => by kernel_rfl) (fun _k _x _y _K => by kernel_rfl)
noncomputable def f48_r {R : Type} (k : Nat) : Lrc D R := (lrcAdd 3 (f48_l3_d k) noLrc)
theorem f48_ok {R : Type} (k : Nat) {e : Dr D R} (he : FnOk Tryd.prog cx 48 e) : FnOk Tryd.prog cx 48 (f48_d (f48 k) e) :=
  he.door fun _x _y => body_ok (keep := kp) (ann := f48_ann) (lrc := f48_r (R := R) k) (N := 22) (n0 := 0) (c := []) cxOk mixed (f48_o_ok k) (body := f48_b) (by kernel_rfl : Tryd.prog.funcs[48]? = some Tryd.f48) (by kernel_rfl) (by kernel_rfl) (by kernel_rfl) (by kernel_rfl) (of_decide_eq_true (by kernel_rfl)) (L := [f48_l3_b]) (by kernel_rfl) (⟨(f48_l3_d_ok k).use (by kernel_rfl), trivial⟩) (J := []) (by kernel_rfl) trivial ((LrcNat.add (f48_l3_d_ok k).2 LrcNat.no)) (fun _K => by delta f48 f48_o; generalize @f74 R = a0; generalize @f75 R = a1; revert a0 a1; refine id ?_; intros; kernel_rfl)

abbrev f83_T (R : Type) : Type := Int → List Int → List D1 → Bool → Bool → (List Int → Option R) → Option R
/-! ## 83: diorama/dioramaref08.bytes -/
noncomputable def f83_l5 {R : Type} (g_f83 : Nat → f83_T R) : Nat → Bool → Int → Int → List Int → List D1 → Bool → List Int → (Bool → Int → List Int → List D1 → Bool → List Int → Option R) → Option R
  | 0, _, _, _, _, _, _, _, _ => none
  | k + 1, v1, v2, v3, v4, v5, v6, v7, X0 =>
  bif decide (v2 < (v5.length : Int)) then
   bif inb v2 v5.length then
    g_f83 k (D1.c0 (v5.getD v2.toNat zero1)) (D1.c1 (v5.getD v2.toNat zero1)) (D1.c2 (v5.getD v2.toNat zero1)) (D1.c3 (v5.getD v2.toNat zero1)) v1 (fun v8 =>
     bif room 1 (v7.length + v8.length) then
      f83_l5 g_f83 k v1 (IntKind.i64.wrap (v2 + 1)) v3 v4 v5 v6 (v7 ++ v8) X0
     else
      none)
   else
    none
  else
   X0 v1 v3 v4 v5 v6 v7
noncomputable def f83_s {R : Type} (g_f83 : Nat → f83_T R) (k : Nat) (a0 : Int) (a1 : List Int) (a2 : List D1) (a3 a4 : Bool) (K : List Int → Option R) : Option R :=
 bif a3 then
  f83_l5 g_f83 k a4 0 a0 a1 a2 a3 ([] : List Int) (fun v9 v10 _v11 _v12 _v13 v14 =>
   bif v9 then
    f52 k 1 4 (fun v15 =>
     f58 k v10 (fun v16 =>
      bif room 1 (v15.length + v16.length) then
      f52 k (IntKind.i64.wrap ((v14.length : Int) + 16)) 8 (fun v17 =>
      bif room 1 ((v15 ++ v16).length + v17.length) then
      bif room 1 (((v15 ++ v16) ++ v17).length + v14.length) then
      K (((v15 ++ v16) ++ v17) ++ v14)
      else
      none
      else
      none)
      else
      none))
   else
    f52 k (IntKind.i64.wrap ((v14.length : Int) + 8)) 4 (fun v18 =>
     f58 k v10 (fun v19 =>
      bif room 1 (v18.length + v19.length) then
      bif room 1 ((v18 ++ v19).length + v14.length) then
      K ((v18 ++ v19) ++ v14)
      else
      none
      else
      none)))
 else
  bif a4 then
   f52 k 1 4 (fun v20 =>
    f58 k a0 (fun v21 =>
     bif room 1 (v20.length + v21.length) then
      f52 k (IntKind.i64.wrap ((a1.length : Int) + 16)) 8 (fun v22 =>
      bif room 1 ((v20 ++ v21).length + v22.length) then
      bif room 1 (((v20 ++ v21) ++ v22).length + a1.length) then
      K (((v20 ++ v21) ++ v22) ++ a1)
      else
      none
      else
      none)
     else
      none))
  else
   f52 k (IntKind.i64.wrap ((a1.length : Int) + 8)) 4 (fun v23 =>
    f58 k a0 (fun v24 =>
     bif room 1 (v23.length + v24.length) then
      bif room 1 ((v23 ++ v24).length + a1.length) then
      K ((v23 ++ v24) ++ a1)
      else
      none
     else
      none))
noncomputable def f83_d {R : Type} (g : f83_T R) (e : Dr D R) : Dr D R := door [.agg [.int .i64, .list (.int .u8), .list (.named 1), .bool], .bool] [] (fun (x : ((Int × List Int × List D1 × Bool × Unit) × Bool × Unit)) (_y : (Unit)) K => g x.1.1 x.1.2.1 x.1.2.2.1 x.1.2.2.2.1 x.2.1 (fun z0 => K ⟨.own 0, [some (.row (.int .u8) z0 true)]⟩)) e
noncomputable def f83_o {R : Type} (g_f83 : Nat → f83_T R) (k : Nat) : Orc D R := (orcAdd 83 (f83_d (g_f83 k) noDr) (orcAdd 58 (f58_d (f58 k) noDr) (orcAdd 52 (f52_d (f52 k) noDr) noOrc)))
theorem f83_o_ok {R : Type} (g_f83 : Nat → f83_T R) (h_f83 : ∀ (k : Nat) (e : Dr D R), FnOk Tryd.prog cx 83 e → FnOk Tryd.prog cx 83 (f83_d (g_f83 k) e)) (k : Nat) : OrcOk Tryd.prog cx (f83_o (R := R) g_f83 k) := (OrcOk.add (h_f83 k _ FnOk.no) (OrcOk.add (f58_ok k FnOk.no) (OrcOk.add (f52_ok k FnOk.no) OrcOk.no)))
noncomputable def f83_b : Code := bodyOf Tryd.f83
noncomputable def f83_l5_a : LAnn := ⟨⟨[(.tmp 5, .own 68719497216 (.int .u8))], [1, 2, 5, 6], [65584, 68719497216], []⟩, exOf (none) [(0, ⟨[(.tmp 5, .own 68719498240 (.int .u8))], [1, 2, 5], [65584, 68719498240], []⟩)]⟩
noncomputable def f83_ann : Nat → Option LAnn := fun key => bif Nat.beq key 5 then some f83_l5_a else none
noncomputable def f83_l5_b : Code := loopAt f83_b 0
noncomputable def f83_l5_g {R : Type} (g_f83 : Nat → f83_T R) (k : Nat) (x : (Bool × Unit × Unit × Int × Unit)) (y : ((Int × List Int × List D1 × Bool × Unit) × List Int × Unit)) (K : KX R) : Option R := f83_l5 g_f83 k x.1 x.2.2.2.1 y.1.1 y.1.2.1 y.1.2.2.1 y.1.2.2.2.1 y.2.1 (fun z0 z1 z2 z3 z4 z5 => K (.exit 0) [.bool z0, .ptr 65584 0, .own 68719498240] [some (.box [.int .i64 z1, .list (.int .u8) z2, .list (.named 1) z3, .bool z4]), some (.row (.int .u8) z5 true)])
noncomputable def f83_l5_d {R : Type} (g_f83 : Nat → f83_T R) (k : Nat) : Lr D R := ldoor [.bool, .ptr 65584 0, .own 68719497216, .int .i64] [some (.box [.int .i64, .list (.int .u8), .list (.named 1), .bool]), some (.row (.int .u8) true)] (f83_l5_g g_f83 k)
noncomputable def f83_l5_r {R : Type} (_g_f83 : Nat → f83_T R) (_k : Nat) : Lrc D R := noLrc
theorem f83_l5_d_ok {R : Type} (g_f83 : Nat → f83_T R) (h_f83 : ∀ (k : Nat) (e : Dr D R), FnOk Tryd.prog cx 83 e → FnOk Tryd.prog cx 83 (f83_d (g_f83 k) e)) : ∀ k, LoopOk Tryd.prog cx 51 0 f83_ann (f83_l5_d (R := R) g_f83 k) f83_l5_b :=
  loop_ok (keep := kp) (lrc := f83_l5_r (R := R) g_f83) cxOk mixed (f83_o_ok g_f83 h_f83) (show f83_ann (Am.keyOf f83_l5_b) = some f83_l5_a by kernel_rfl) (L := []) (by kernel_rfl) (fun _k => trivial) (J := []) (by kernel_rfl) (fun _k => trivial) (fun _k => LrcNat.no) (fun _x _y _K => by kernel_rfl) (fun _k _x _y _K => by kernel_rfl)
noncomputable def f83_r {R : Type} (g_f83 : Nat → f83_T R) (k : Nat) : Lrc D R := (lrcAdd 5 (f83_l5_d g_f83 k) noLrc)
noncomputable def rec_f83 {R : Type} : Nat → (f83_T R)
  | 0 => (fun _ _ _ _ _ _ => none)
  | k + 1 => (f83_s (fun _ => (rec_f83 (R := R) k)) k)
theorem rec_f83_succ {R : Type} (k : Nat) : rec_f83 (R := R) (k + 1) = (f83_s (fun _ => (rec_f83 (R := R) k)) k) := rfl
theorem rec_f83_ok {R : Type} : ∀ k, (∀ e : Dr D R, FnOk Tryd.prog cx 83 e → FnOk Tryd.prog cx 83 (f83_d (rec_f83 (R := R) k) e))
  | 0 => fun e he => he.door0 fun x y _K => rfl
  | k + 1 => by
    rw [rec_f83_succ]
    exact fun e he => he.door fun _x _y => body_ok (keep := kp) (ann := f83_ann) (lrc := f83_r (R := R) (fun _ => (rec_f83 (R := R) k)) k) (N := 51) (n0 := 0) (c := []) cxOk mixed (f83_o_ok (fun _ => (rec_f83 (R := R) k)) (fun _ e he => (rec_f83_ok (R := R) k) e he) k) (body := f83_b) (by kernel_rfl : Tryd.prog.funcs[83]? = some Tryd.f83) (by kernel_rfl) (by kernel_rfl) (by kernel_rfl) (by kernel_rfl) (of_decide_eq_true (by kernel_rfl)) (L := [f83_l5_b]) (by kernel_rfl) (⟨(f83_l5_d_ok (fun _ => (rec_f83 (R := R) k)) (fun _ e he => (rec_f83_ok (R := R) k) e he) k).use (by kernel_rfl), trivial⟩) (J := []) (by kernel_rfl) trivial ((LrcNat.add (f83_l5_d_ok (fun _ => (rec_f83 (R := R) k)) (fun _ e he => (rec_f83_ok (R := R) k) e he) k).2 LrcNat.no)) (fun _K => by delta f83_s f83_o; generalize @f52 R = a0; generalize @f58 R = a1; revert a0 a1; refine id ?_; intros; kernel_rfl)
noncomputable def f83 {R : Type} (k : Nat) (a0 : Int) (a1 : List Int) (a2 : List D1) (a3 a4 : Bool) (K : List Int → Option R) : Option R := (rec_f83 (R := R) k) a0 a1 a2 a3 a4 K
theorem f83_ok {R : Type} (k : Nat) {e : Dr D R} (he : FnOk Tryd.prog cx 83 e) : FnOk Tryd.prog cx 83 (f83_d (f83 k) e) := (rec_f83_ok (R := R) k) e he
theorem f83_step {R : Type} (k : Nat) (a0 : Int) (a1 : List Int) (a2 : List D1) (a3 a4 : Bool) (K : List Int → Option R) : f83 (k + 1) a0 a1 a2 a3 a4 K = f83_s (fun _ => f83 (R := R) k) k a0 a1 a2 a3 a4 K := rfl

abbrev f66_T (R : Type) : Type := List D1 → Bool → Bool → (Int → List Int → Option R) → Option R
/-! ## 66: diorama/dioramaref08.written -/
noncomputable def f66_l6 {R : Type} : Nat → List D1 → Bool → Bool → Int → List Int → (List Int → Option R) → Option R
  | 0, _, _, _, _, _, _ => none
  | k + 1, v2, v3, v4, v5, v6, X0 =>
  bif decide (v5 < (v2.length : Int)) then
   bif inb v5 v2.length then
    f83 k (D1.c0 (v2.getD v5.toNat zero1)) (D1.c1 (v2.getD v5.toNat zero1)) (D1.c2 (v2.getD v5.toNat zero1)) (D1.c3 (v2.getD v5.toNat zero1)) v3 (fun v7 =>
     bif v4 then
      bif (v5 == (IntKind.i64.wrap ((v2.length : Int) - 1))) then
      f52 k 0 4 (fun v8 =>
      bif upto 4 v7.length then
      bif room 1 (v8.length + ((v7.drop 4).take (v7.length - 4)).length) then
      bif room 1 (v6.length + (v8 ++ ((v7.drop 4).take (v7.length - 4))).length) then
      f66_l6 k v2 v3 v4 (IntKind.i64.wrap (v5 + 1)) (v6 ++ (v8 ++ ((v7.drop 4).take (v7.length - 4)))) X0
      else
      none
      else
      none
      else
      none)
      else
      bif room 1 (v6.length + v7.length) then
      f66_l6 k v2 v3 v4 (IntKind.i64.wrap (v5 + 1)) (v6 ++ v7) X0
      else
      none
     else
      bif room 1 (v6.length + v7.length) then
      f66_l6 k v2 v3 v4 (IntKind.i64.wrap (v5 + 1)) (v6 ++ v7) X0
      else
      none)
   else
    none
  else
   X0 v6
noncomputable def f66 {R : Type} (k : Nat) (a0 : List D1) (a1 a2 : Bool) (K : Int → List Int → Option R) : Option R :=
 f48 k a0 (fun v1 =>
  bif (v1 != 0) then
   K v1 ([] : List Int)
  else
   f66_l6 k a0 a1 a2 0 ([] : List Int) (fun v9 =>
    bif decide ((v9.length : Int) > 1048576) then
     K 2 ([] : List Int)
    else
     K 0 v9))
noncomputable def f66_d {R : Type} (g : f66_T R) (e : Dr D R) : Dr D R := door [.list (.named 1), .bool, .bool] [] (fun (x : (List D1 × Bool × Bool × Unit)) (_y : (Unit)) K => g x.1 x.2.1 x.2.2.1 (fun z0 z1 => K ⟨.tup [.own 0, .int .i64 z0], [some (.row (.int .u8) z1 true)]⟩)) e
noncomputable def f66_o {R : Type} (k : Nat) : Orc D R := (orcAdd 83 (f83_d (f83 k) noDr) (orcAdd 48 (f48_d (f48 k) noDr) (orcAdd 52 (f52_d (f52 k) noDr) noOrc)))
theorem f66_o_ok {R : Type} (k : Nat) : OrcOk Tryd.prog cx (f66_o (R := R) k) := (OrcOk.add (f83_ok k FnOk.no) (OrcOk.add (f48_ok k FnOk.no) (OrcOk.add (f52_ok k FnOk.no) OrcOk.no)))
noncomputable def f66_b : Code := bodyOf Tryd.f66
noncomputable def f66_l6_a : LAnn := ⟨⟨[(.tmp 9, .own 68719501312 (.int .u8))], [0, 1, 2, 9, 10], [68719501312], []⟩, exOf (none) [(0, ⟨[], [9], [68719501312], []⟩)]⟩
noncomputable def f66_ann : Nat → Option LAnn := fun key => bif Nat.beq key 6 then some f66_l6_a else none
noncomputable def f66_l6_b : Code := loopAt f66_b 0
noncomputable def f66_l6_g {R : Type} (k : Nat) (x : (List D1 × Bool × Bool × Unit × Int × Unit)) (y : (List Int × Unit)) (K : KX R) : Option R := f66_l6 k x.1 x.2.1 x.2.2.1 x.2.2.2.2.1 y.1 (fun z0 => K (.exit 0) [.own 68719501312] [some (.row (.int .u8) z0 true)])
noncomputable def f66_l6_d {R : Type} (k : Nat) : Lr D R := ldoor [.list (.named 1), .bool, .bool, .own 68719501312, .int .i64] [some (.row (.int .u8) true)] (f66_l6_g k)
noncomputable def f66_l6_r {R : Type} (_k : Nat) : Lrc D R := noLrc
theorem f66_l6_d_ok {R : Type} : ∀ k, LoopOk Tryd.prog cx 48 0 f66_ann (f66_l6_d (R := R) k) f66_l6_b :=
  loop_ok (keep := kp) (lrc := f66_l6_r (R := R)) cxOk mixed (f66_o_ok) (show f66_ann (Am.keyOf f66_l6_b) = some f66_l6_a by kernel_rfl) (L := []) (by kernel_rfl) (fun _k => trivial) (J := []) (by kernel_rfl) (fun _k => trivial) (fun _k => LrcNat.no) (fun _x _y _K => by kernel_rfl) (fun _k _x _y _K => by kernel_rfl)
noncomputable def f66_r {R : Type} (k : Nat) : Lrc D R := (lrcAdd 6 (f66_l6_d k) noLrc)
theorem f66_ok {R : Type} (k : Nat) {e : Dr D R} (he : FnOk Tryd.prog cx 66 e) : FnOk Tryd.prog cx 66 (f66_d (f66 k) e) :=
  he.door fun _x _y => body_ok (keep := kp) (ann := f66_ann) (lrc := f66_r (R := R) k) (N := 48) (n0 := 0) (c := [(.tmp 6, .own 1099511627776 (.int .u8))]) cxOk mixed (f66_o_ok k) (body := f66_b) (by kernel_rfl : Tryd.prog.funcs[66]? = some Tryd.f66) (by kernel_rfl) (by kernel_rfl) (by kernel_rfl) (by kernel_rfl) (of_decide_eq_true (by kernel_rfl)) (L := [f66_l6_b]) (by kernel_rfl) (⟨(f66_l6_d_ok k).use (by kernel_rfl), trivial⟩) (J := []) (by kernel_rfl) trivial ((LrcNat.add (f66_l6_d_ok k).2 LrcNat.no)) (fun _K => by delta f66 f66_o; generalize @f52 R = a0; generalize @f48 R = a1; generalize @f83 R = a2; revert a0 a1 a2; refine id ?_; intros; kernel_rfl)

abbrev f43_T (R : Type) : Type := List D1 → (Int → List Int → Option R) → Option R
/-! ## 43: diorama/dioramaref08.Write -/
noncomputable def f43 {R : Type} (k : Nat) (a0 : List D1) (K : Int → List Int → Option R) : Option R :=
 f66 k a0 false false K
noncomputable def f43_d {R : Type} (g : f43_T R) (e : Dr D R) : Dr D R := door [.list (.named 1)] [] (fun (x : (List D1 × Unit)) (_y : (Unit)) K => g x.1 (fun z0 z1 => K ⟨.tup [.own 0, .int .i64 z0], [some (.row (.int .u8) z1 true)]⟩)) e
noncomputable def f43_o {R : Type} (k : Nat) : Orc D R := (orcAdd 66 (f66_d (f66 k) noDr) noOrc)
theorem f43_o_ok {R : Type} (k : Nat) : OrcOk Tryd.prog cx (f43_o (R := R) k) := (OrcOk.add (f66_ok k FnOk.no) OrcOk.no)
noncomputable def f43_b : Code := bodyOf Tryd.f43
noncomputable def f43_ann : Nat → Option LAnn := fun _key => none
noncomputable def f43_r {R : Type} (_k : Nat) : Lrc D R := noLrc
theorem f43_ok {R : Type} (k : Nat) {e : Dr D R} (he : FnOk Tryd.prog cx 43 e) : FnOk Tryd.prog cx 43 (f43_d (f43 k) e) :=
  he.door fun _x _y => body_ok (keep := kp) (ann := f43_ann) (lrc := f43_r (R := R) k) (N := 8) (n0 := 0) (c := []) cxOk mixed (f43_o_ok k) (body := f43_b) (by kernel_rfl : Tryd.prog.funcs[43]? = some Tryd.f43) (by kernel_rfl) (by kernel_rfl) (by kernel_rfl) (by kernel_rfl) (of_decide_eq_true (by kernel_rfl)) (L := []) (by kernel_rfl) trivial (J := []) (by kernel_rfl) trivial (LrcNat.no) (fun _K => by delta f43 f43_o; generalize @f66 R = a0; revert a0; refine id ?_; intros; kernel_rfl)

abbrev f44_T (R : Type) : Type := List D1 → (Int → List Int → Option R) → Option R
/-! ## 44: diorama/dioramaref08.WriteLong -/
noncomputable def f44 {R : Type} (k : Nat) (a0 : List D1) (K : Int → List Int → Option R) : Option R :=
 f66 k a0 true false K
noncomputable def f44_d {R : Type} (g : f44_T R) (e : Dr D R) : Dr D R := door [.list (.named 1)] [] (fun (x : (List D1 × Unit)) (_y : (Unit)) K => g x.1 (fun z0 z1 => K ⟨.tup [.own 0, .int .i64 z0], [some (.row (.int .u8) z1 true)]⟩)) e
noncomputable def f44_o {R : Type} (k : Nat) : Orc D R := (orcAdd 66 (f66_d (f66 k) noDr) noOrc)
theorem f44_o_ok {R : Type} (k : Nat) : OrcOk Tryd.prog cx (f44_o (R := R) k) := (OrcOk.add (f66_ok k FnOk.no) OrcOk.no)
noncomputable def f44_b : Code := bodyOf Tryd.f44
noncomputable def f44_ann : Nat → Option LAnn := fun _key => none
noncomputable def f44_r {R : Type} (_k : Nat) : Lrc D R := noLrc
theorem f44_ok {R : Type} (k : Nat) {e : Dr D R} (he : FnOk Tryd.prog cx 44 e) : FnOk Tryd.prog cx 44 (f44_d (f44 k) e) :=
  he.door fun _x _y => body_ok (keep := kp) (ann := f44_ann) (lrc := f44_r (R := R) k) (N := 8) (n0 := 0) (c := []) cxOk mixed (f44_o_ok k) (body := f44_b) (by kernel_rfl : Tryd.prog.funcs[44]? = some Tryd.f44) (by kernel_rfl) (by kernel_rfl) (by kernel_rfl) (by kernel_rfl) (of_decide_eq_true (by kernel_rfl)) (L := []) (by kernel_rfl) trivial (J := []) (by kernel_rfl) trivial (LrcNat.no) (fun _K => by delta f44 f44_o; generalize @f66 R = a0; revert a0; refine id ?_; intros; kernel_rfl)

abbrev f45_T (R : Type) : Type := List D1 → (Int → List Int → Option R) → Option R
/-! ## 45: diorama/box.WriteEnd -/
noncomputable def f45 {R : Type} (k : Nat) (a0 : List D1) (K : Int → List Int → Option R) : Option R :=
 f65 k a0 false (fun v1 v2 =>
  bif (v1 != 0) then
   K v1 v2
  else
   bif ((a0.length : Int) == 0) then
    K v1 v2
   else
    bif inb (IntKind.i64.wrap ((a0.length : Int) - 1)) a0.length then
     f21 k (D1.c0 (a0.getD ((IntKind.i64.wrap ((a0.length : Int) - 1)).toNat) zero1)) (D1.c1 (a0.getD ((IntKind.i64.wrap ((a0.length : Int) - 1)).toNat) zero1)) (D1.c2 (a0.getD ((IntKind.i64.wrap ((a0.length : Int) - 1)).toNat) zero1)) (D1.c3 (a0.getD ((IntKind.i64.wrap ((a0.length : Int) - 1)).toNat) zero1)) (fun v3 =>
      bif upto (IntKind.i64.wrap ((v2.length : Int) - v3)) v2.length then
      bif upto 4 (v2.length - ((IntKind.i64.wrap ((v2.length : Int) - v3)).toNat)) then
      K 0 (v2.take ((IntKind.i64.wrap ((v2.length : Int) - v3)).toNat) ++ (List.replicate 4 (0 : Int)) ++ v2.drop (((IntKind.i64.wrap ((v2.length : Int) - v3)).toNat) + 4))
      else
      none
      else
      none)
    else
     none)
noncomputable def f45_d {R : Type} (g : f45_T R) (e : Dr D R) : Dr D R := door [.list (.named 1)] [] (fun (x : (List D1 × Unit)) (_y : (Unit)) K => g x.1 (fun z0 z1 => K ⟨.tup [.own 0, .int .i64 z0], [some (.row (.int .u8) z1 true)]⟩)) e
noncomputable def f45_o {R : Type} (k : Nat) : Orc D R := (orcAdd 65 (f65_d (f65 k) noDr) (orcAdd 21 (f21_d (f21 k) noDr) noOrc))
theorem f45_o_ok {R : Type} (k : Nat) : OrcOk Tryd.prog cx (f45_o (R := R) k) := (OrcOk.add (f65_ok k FnOk.no) (OrcOk.add (f21_ok k FnOk.no) OrcOk.no))
noncomputable def f45_b : Code := bodyOf Tryd.f45
noncomputable def f45_ann : Nat → Option LAnn := fun _key => none
noncomputable def f45_r {R : Type} (_k : Nat) : Lrc D R := noLrc
theorem f45_ok {R : Type} (k : Nat) {e : Dr D R} (he : FnOk Tryd.prog cx 45 e) : FnOk Tryd.prog cx 45 (f45_d (f45 k) e) :=
  he.door fun _x _y => body_ok (keep := kp) (ann := f45_ann) (lrc := f45_r (R := R) k) (N := 34) (n0 := 0) (c := []) cxOk mixed (f45_o_ok k) (body := f45_b) (by kernel_rfl : Tryd.prog.funcs[45]? = some Tryd.f45) (by kernel_rfl) (by kernel_rfl) (by kernel_rfl) (by kernel_rfl) (of_decide_eq_true (by kernel_rfl)) (L := []) (by kernel_rfl) trivial (J := []) (by kernel_rfl) trivial (LrcNat.no) (fun _K => by delta f45 f45_o; generalize @f21 R = a0; generalize @f65 R = a1; revert a0 a1; refine id ?_; intros; kernel_rfl)

abbrev f46_T (R : Type) : Type := List D1 → (Int → List Int → Option R) → Option R
/-! ## 46: diorama/dioramaref08.WriteEnd -/
noncomputable def f46 {R : Type} (k : Nat) (a0 : List D1) (K : Int → List Int → Option R) : Option R :=
 f66 k a0 false true K
noncomputable def f46_d {R : Type} (g : f46_T R) (e : Dr D R) : Dr D R := door [.list (.named 1)] [] (fun (x : (List D1 × Unit)) (_y : (Unit)) K => g x.1 (fun z0 z1 => K ⟨.tup [.own 0, .int .i64 z0], [some (.row (.int .u8) z1 true)]⟩)) e
noncomputable def f46_o {R : Type} (k : Nat) : Orc D R := (orcAdd 66 (f66_d (f66 k) noDr) noOrc)
theorem f46_o_ok {R : Type} (k : Nat) : OrcOk Tryd.prog cx (f46_o (R := R) k) := (OrcOk.add (f66_ok k FnOk.no) OrcOk.no)
noncomputable def f46_b : Code := bodyOf Tryd.f46
noncomputable def f46_ann : Nat → Option LAnn := fun _key => none
noncomputable def f46_r {R : Type} (_k : Nat) : Lrc D R := noLrc
theorem f46_ok {R : Type} (k : Nat) {e : Dr D R} (he : FnOk Tryd.prog cx 46 e) : FnOk Tryd.prog cx 46 (f46_d (f46 k) e) :=
  he.door fun _x _y => body_ok (keep := kp) (ann := f46_ann) (lrc := f46_r (R := R) k) (N := 8) (n0 := 0) (c := []) cxOk mixed (f46_o_ok k) (body := f46_b) (by kernel_rfl : Tryd.prog.funcs[46]? = some Tryd.f46) (by kernel_rfl) (by kernel_rfl) (by kernel_rfl) (by kernel_rfl) (of_decide_eq_true (by kernel_rfl)) (L := []) (by kernel_rfl) trivial (J := []) (by kernel_rfl) trivial (LrcNat.no) (fun _K => by delta f46 f46_o; generalize @f66 R = a0; revert a0; refine id ?_; intros; kernel_rfl)

abbrev f12_T (R : Type) : Type := List D1 → (Bool → Option R) → Option R
/-! ## 12: diorama/dioramalaw08.BoxWrites -/
noncomputable def f12 {R : Type} (k : Nat) (a0 : List D1) (K : Bool → Option R) : Option R :=
 f41 k a0 (fun v1 v2 =>
  f43 k a0 (fun v3 v4 =>
   f42 k a0 (fun v5 v6 =>
    f44 k a0 (fun v7 v8 =>
     f45 k a0 (fun v9 v10 =>
      f46 k a0 (fun v11 v12 =>
      f25 k v2 v4 (fun v13 =>
      bif (!v13) then
      K false
      else
      bif (v1 != v3) then
      K false
      else
      f25 k v6 v8 (fun v14 =>
      bif (!v14) then
      K false
      else
      bif (v5 != v7) then
      K false
      else
      f25 k v10 v12 (fun v15 =>
      bif (!v15) then
      K false
      else
      bif (v9 != v11) then
      K false
      else
      f47 k a0 (fun v16 =>
      f48 k a0 (fun v17 =>
      bif (v16 == v17) then
      f20 k K
      else
      K false)))))))))))
noncomputable def f12_d {R : Type} (g : f12_T R) (e : Dr D R) : Dr D R := door [.list (.named 1)] [] (fun (x : (List D1 × Unit)) (_y : (Unit)) K => g x.1 (fun z0 => K ⟨.bool z0, []⟩)) e
noncomputable def f12_o {R : Type} (k : Nat) : Orc D R := (orcAdd 46 (f46_d (f46 k) noDr) (orcAdd 45 (f45_d (f45 k) noDr) (orcAdd 44 (f44_d (f44 k) noDr) (orcAdd 43 (f43_d (f43 k) noDr) (orcAdd 48 (f48_d (f48 k) noDr) (orcAdd 42 (f42_d (f42 k) noDr) (orcAdd 41 (f41_d (f41 k) noDr) (orcAdd 47 (f47_d (f47 k) noDr) (orcAdd 20 (f20_d (f20 k) noDr) (orcAdd 25 (f25_d (f25 k) noDr) noOrc))))))))))
theorem f12_o_ok {R : Type} (k : Nat) : OrcOk Tryd.prog cx (f12_o (R := R) k) := (OrcOk.add (f46_ok k FnOk.no) (OrcOk.add (f45_ok k FnOk.no) (OrcOk.add (f44_ok k FnOk.no) (OrcOk.add (f43_ok k FnOk.no) (OrcOk.add (f48_ok k FnOk.no) (OrcOk.add (f42_ok k FnOk.no) (OrcOk.add (f41_ok k FnOk.no) (OrcOk.add (f47_ok k FnOk.no) (OrcOk.add (f20_ok k FnOk.no) (OrcOk.add (f25_ok k FnOk.no) OrcOk.no))))))))))
noncomputable def f12_b : Code := bodyOf Tryd.f12
noncomputable def f12_ann : Nat → Option LAnn := fun _key => none
noncomputable def f12_r {R : Type} (_k : Nat) : Lrc D R := noLrc
theorem f12_ok {R : Type} (k : Nat) {e : Dr D R} (he : FnOk Tryd.prog cx 12 e) : FnOk Tryd.prog cx 12 (f12_d (f12 k) e) :=
  he.door fun _x _y => body_ok (keep := kp) (ann := f12_ann) (lrc := f12_r (R := R) k) (N := 84) (n0 := 0) (c := []) cxOk mixed (f12_o_ok k) (body := f12_b) (by kernel_rfl : Tryd.prog.funcs[12]? = some Tryd.f12) (by kernel_rfl) (by kernel_rfl) (by kernel_rfl) (by kernel_rfl) (of_decide_eq_true (by kernel_rfl)) (L := []) (by kernel_rfl) trivial (J := []) (by kernel_rfl) trivial (LrcNat.no) (fun _K => by delta f12 f12_o; generalize @f25 R = a0; generalize @f20 R = a1; generalize @f47 R = a2; generalize @f41 R = a3; generalize @f42 R = a4; generalize @f48 R = a5; generalize @f43 R = a6; generalize @f44 R = a7; generalize @f45 R = a8; generalize @f46 R = a9; revert a0 a1 a2 a3 a4 a5 a6 a7 a8 a9; refine id ?_; intros; kernel_rfl)


end Go.Proofs.YtehmahdngjdhpaaDoor
