/- Proved: each of these functions does what a plain function says. Conditions: none. -/
import Derived.Test.YtklhjegfkpmdoaaElWalk1

/-! What the functions do, as plain functions; and that they do. -/
namespace Go.Proofs.Ytklhjegfkpmdoaa
open Go Go.Am
abbrev f55_T (R : Type) : Type := List Int → (List Int → Int → Int → Int → Int → List D1 → List D2 → Option R) → Option R
/-! ## 55: diorama/element.read -/
noncomputable def f55 {R : Type} (k : Nat) (a0 : List Int) (K : List Int → Int → Int → Int → Int → List D1 → List D2 → Option R) : Option R :=
 bif decide ((a0.length : Int) > 1048576) then
  f87 k 2 a0 0 0 0 0 (fun v1 v2 v3 v4 v5 =>
   K v1 v2 v3 v4 v5 ([] : List D1) ([] : List D2))
 else
  f88 k 0 (a0.length : Int) false false 1 a0 0 0 0 0 (fun v6 v7 v8 v9 v10 v11 v12 =>
   K v6 v7 v8 v9 v10 v12 v11)
noncomputable def f55_d {R : Type} (g : f55_T R) (e : Dr D R) : Dr D R := door [.list (.int .u8)] [] (fun (x : (List Int × Unit)) (y : (Unit)) K => g x.1 (fun z0 z1 z2 z3 z4 z5 z6 => K ⟨.tup [.ptr 0 0, .own 2], [some (.box [.list (.int .u8) z0, .int .i64 z1, .int .i64 z2, .own 1, .int .i64 z3, .int .i64 z4]), some (.row (.named 1) z5 true), some (.row (.named 2) z6 true)]⟩)) e
noncomputable def f55_o {R : Type} (k : Nat) : Orc D R := (orcAdd 88 (f88_d (f88 k) noDr) (orcAdd 87 (f87_d (f87 k) noDr) noOrc))
theorem f55_o_ok {R : Type} (k : Nat) : OrcOk Try.prog cx (f55_o (R := R) k) := (OrcOk.add (f88_ok k FnOk.no) (OrcOk.add (f87_ok k FnOk.no) OrcOk.no))
noncomputable def f55_b : Code := bodyOf Try.f55
noncomputable def f55_ann : Nat → Option LAnn := fun _key => none
noncomputable def f55_r {R : Type} (_k : Nat) : Lrc D R := noLrc
theorem f55_ok {R : Type} (k : Nat) {e : Dr D R} (he : FnOk Try.prog cx 55 e) : FnOk Try.prog cx 55 (f55_d (f55 k) e) :=
  he.door fun _x _y => body_ok (keep := kp) (ann := f55_ann) (lrc := f55_r (R := R) k) (N := 20) (n0 := 0) (c := [(.tmp 3, .own 1099511627776 (.named 2)), (.cell 131200 3, .own 1099511627777 (.named 1))]) cxOk mixed (f55_o_ok k) (body := f55_b) (by kernel_rfl : Try.prog.funcs[55]? = some Try.f55) (by kernel_rfl) (by kernel_rfl) (by kernel_rfl) (by kernel_rfl) (of_decide_eq_true (by kernel_rfl)) (L := []) (by kernel_rfl) trivial (J := []) (by kernel_rfl) trivial (LrcNat.no) (fun _K => by delta f55 f55_o; generalize @f87 R = a0; generalize @f88 R = a1; revert a0 a1; refine id ?_; intros; kernel_rfl)

abbrev f19_T (R : Type) : Type := List Int → (Int → Int → List D2 → Option R) → Option R
/-! ## 19: diorama/element.Parse -/
noncomputable def f19 {R : Type} (k : Nat) (a0 : List Int) (K : Int → Int → List D2 → Option R) : Option R :=
 f55 k a0 (fun v1 v2 v3 v4 v5 v6 v7 =>
  f56_2 k v1 v2 v3 v4 v5 v6 (fun v8 _v9 _v10 _v11 v12 v13 _v14 =>
   bif (!v8) then
    K v13 v12 ([] : List D2)
   else
    K 0 0 v7))
noncomputable def f19_d {R : Type} (g : f19_T R) (e : Dr D R) : Dr D R := door [.list (.int .u8)] [] (fun (x : (List Int × Unit)) (y : (Unit)) K => g x.1 (fun z0 z1 z2 => K ⟨.tup [.own 0, .int .i64 z0, .int .i64 z1], [some (.row (.named 2) z2 true)]⟩)) e
noncomputable def f19_o {R : Type} (k : Nat) : Orc D R := (orcAdd 55 (f55_d (f55 k) noDr) (orcAdd 56 (f56_2_d (f56_2 k) noDr) noOrc))
theorem f19_o_ok {R : Type} (k : Nat) : OrcOk Try.prog cx (f19_o (R := R) k) := (OrcOk.add (f55_ok k FnOk.no) (OrcOk.add (f56_2_ok k FnOk.no) OrcOk.no))
noncomputable def f19_b : Code := bodyOf Try.f19
noncomputable def f19_ann : Nat → Option LAnn := fun _key => none
noncomputable def f19_r {R : Type} (_k : Nat) : Lrc D R := noLrc
theorem f19_ok {R : Type} (k : Nat) {e : Dr D R} (he : FnOk Try.prog cx 19 e) : FnOk Try.prog cx 19 (f19_d (f19 k) e) :=
  he.door fun _x _y => body_ok (keep := kp) (ann := f19_ann) (lrc := f19_r (R := R) k) (N := 26) (n0 := 0) (c := [(.tmp 2, .own 1099511627776 (.named 2))]) cxOk mixed (f19_o_ok k) (body := f19_b) (by kernel_rfl : Try.prog.funcs[19]? = some Try.f19) (by kernel_rfl) (by kernel_rfl) (by kernel_rfl) (by kernel_rfl) (of_decide_eq_true (by kernel_rfl)) (L := []) (by kernel_rfl) trivial (J := []) (by kernel_rfl) trivial (LrcNat.no) (fun _K => by delta f19 f19_o; generalize @f56_2 R = a0; generalize @f55 R = a1; revert a0 a1; refine id ?_; intros; kernel_rfl)

abbrev f18_T (R : Type) : Type := (Bool → Option R) → Option R
/-! ## 18: diorama/dioramalaw04.awake -/
noncomputable def f18 {R : Type} (k : Nat) (K : Bool → Option R) : Option R :=
 f19 k ([28, 1, 17, 173, 134, 162, 129, 1, 236, 129, 0]) (fun _v1 v2 v3 =>
  f15 k 3 (fun v4 v5 =>
   bif (v2 == 0) then
    bif ((v3.length : Int) == 1) then
     bif inb 0 v3.length then
      bif (((D2.c2 (v3.getD 0 zero2)).length : Int) == 1) then
      bif inb 0 v3.length then
      bif inb 0 ((D2.c2 (v3.getD 0 zero2)).length) then
      bif ((D2.c0 ((D2.c2 (v3.getD 0 zero2)).getD 0 zero2)) == 162) then
      bif (v4 == 0) then
      bif ((v5.length : Int) == 3) then
      bif inb 0 v5.length then
      K ((v5.getD 0 0) == 236)
      else
      none
      else
      K false
      else
      K false
      else
      K false
      else
      none
      else
      none
      else
      K false
     else
      none
    else
     K false
   else
    K false))
noncomputable def f18_d {R : Type} (g : f18_T R) (e : Dr D R) : Dr D R := door [] [] (fun (x : (Unit)) (y : (Unit)) K => g (fun z0 => K ⟨.bool z0, []⟩)) e
noncomputable def f18_o {R : Type} (k : Nat) : Orc D R := (orcAdd 19 (f19_d (f19 k) noDr) (orcAdd 15 (f15_d (f15 k) noDr) noOrc))
theorem f18_o_ok {R : Type} (k : Nat) : OrcOk Try.prog cx (f18_o (R := R) k) := (OrcOk.add (f19_ok k FnOk.no) (OrcOk.add (f15_ok k FnOk.no) OrcOk.no))
noncomputable def f18_b : Code := bodyOf Try.f18
noncomputable def f18_ann : Nat → Option LAnn := fun _key => none
noncomputable def f18_r {R : Type} (_k : Nat) : Lrc D R := noLrc
theorem f18_ok {R : Type} (k : Nat) {e : Dr D R} (he : FnOk Try.prog cx 18 e) : FnOk Try.prog cx 18 (f18_d (f18 k) e) :=
  he.door fun _x _y => body_ok (keep := kp) (ann := f18_ann) (lrc := f18_r (R := R) k) (N := 56) (n0 := 0) (c := []) cxOk mixed (f18_o_ok k) (body := f18_b) (by kernel_rfl : Try.prog.funcs[18]? = some Try.f18) (by kernel_rfl) (by kernel_rfl) (by kernel_rfl) (by kernel_rfl) (of_decide_eq_true (by kernel_rfl)) (L := []) (by kernel_rfl) trivial (J := []) (by kernel_rfl) trivial (LrcNat.no) (fun _K => by delta f18 f18_o; generalize @f15 R = a0; generalize @f19 R = a1; revert a0 a1; refine id ?_; intros; kernel_rfl)

abbrev f3_T (R : Type) : Type := Int → (Bool → Option R) → Option R
/-! ## 3: diorama/dioramalaw04.ElementPads -/
noncomputable def f3 {R : Type} (k : Nat) (a0 : Int) (K : Bool → Option R) : Option R :=
 f15 k a0 (fun v1 v2 =>
  f16 k a0 (fun v3 v4 =>
   f17 k v2 v4 (fun v5 =>
    bif v5 then
     bif (v1 == v3) then
      bif (v1 != 0) then
      f18 k K
      else
      bif ((v2.length : Int) == a0) then
      f18 k K
      else
      K false
     else
      K false
    else
     K false)))
noncomputable def f3_d {R : Type} (g : f3_T R) (e : Dr D R) : Dr D R := door [.int .i64] [] (fun (x : (Int × Unit)) (y : (Unit)) K => g x.1 (fun z0 => K ⟨.bool z0, []⟩)) e
noncomputable def f3_o {R : Type} (k : Nat) : Orc D R := (orcAdd 18 (f18_d (f18 k) noDr) (orcAdd 17 (f17_d (f17 k) noDr) (orcAdd 16 (f16_d (f16 k) noDr) (orcAdd 15 (f15_d (f15 k) noDr) noOrc))))
theorem f3_o_ok {R : Type} (k : Nat) : OrcOk Try.prog cx (f3_o (R := R) k) := (OrcOk.add (f18_ok k FnOk.no) (OrcOk.add (f17_ok k FnOk.no) (OrcOk.add (f16_ok k FnOk.no) (OrcOk.add (f15_ok k FnOk.no) OrcOk.no))))
noncomputable def f3_b : Code := bodyOf Try.f3
noncomputable def f3_ann : Nat → Option LAnn := fun _key => none
noncomputable def f3_r {R : Type} (_k : Nat) : Lrc D R := noLrc
theorem f3_ok {R : Type} (k : Nat) {e : Dr D R} (he : FnOk Try.prog cx 3 e) : FnOk Try.prog cx 3 (f3_d (f3 k) e) :=
  he.door fun _x _y => body_ok (keep := kp) (ann := f3_ann) (lrc := f3_r (R := R) k) (N := 38) (n0 := 0) (c := []) cxOk mixed (f3_o_ok k) (body := f3_b) (by kernel_rfl : Try.prog.funcs[3]? = some Try.f3) (by kernel_rfl) (by kernel_rfl) (by kernel_rfl) (by kernel_rfl) (of_decide_eq_true (by kernel_rfl)) (L := []) (by kernel_rfl) trivial (J := []) (by kernel_rfl) trivial (LrcNat.no) (fun _K => by delta f3 f3_o; generalize @f15 R = a0; generalize @f16 R = a1; generalize @f17 R = a2; generalize @f18 R = a3; revert a0 a1 a2 a3; refine id ?_; intros; kernel_rfl)

abbrev f65_T (R : Type) : Type := Int → (Int → Option R) → Option R
/-! ## 65: diorama/dioramaref04.length -/
noncomputable def f65_l2 {R : Type} : Nat → Int → Int → Int → (Int → Option R) → Option R
  | 0, _, _, _, _ => none
  | k + 1, v1, v2, v3, X0 =>
  bif decide (v2 ≤ 4) then
   bif decide ((IntKind.i64.wrap (v1)) < v3) then
    f65_l2 k v1 (IntKind.i64.wrap (v2 + 1)) (IntKind.i64.wrap (v3.tdiv 2)) X0
   else
    X0 v2
  else
   X0 v2
noncomputable def f65 {R : Type} (k : Nat) (a0 : Int) (K : Int → Option R) : Option R :=
 f65_l2 k a0 1 128 (fun v4 =>
  bif decide (v4 > 4) then
   K 0
  else
   K v4)
noncomputable def f65_d {R : Type} (g : f65_T R) (e : Dr D R) : Dr D R := door [.int .u8] [] (fun (x : (Int × Unit)) (y : (Unit)) K => g x.1 (fun z0 => K ⟨.int .i64 z0, []⟩)) e
noncomputable def f65_o {R : Type} (_k : Nat) : Orc D R := noOrc
theorem f65_o_ok {R : Type} (k : Nat) : OrcOk Try.prog cx (f65_o (R := R) k) := OrcOk.no
noncomputable def f65_b : Code := bodyOf Try.f65
noncomputable def f65_l2_a : LAnn := ⟨⟨[], [0, 3, 4], []⟩, exOf (none) [(0, ⟨[], [3], []⟩)]⟩
noncomputable def f65_ann : Nat → Option LAnn := fun key => bif Nat.beq key 2 then some f65_l2_a else none
noncomputable def f65_l2_b : Code := loopAt f65_b 0
noncomputable def f65_l2_g {R : Type} (k : Nat) (x : (Int × Int × Int × Unit)) (_y : (Unit)) (K : KX R) : Option R := f65_l2 k x.1 x.2.1 x.2.2.1 (fun z0 => K (.exit 0) [.int .i64 z0] [])
noncomputable def f65_l2_d {R : Type} (k : Nat) : Lr D R := ldoor [.int .u8, .int .i64, .int .i64] [] (f65_l2_g k)
noncomputable def f65_l2_r {R : Type} (_k : Nat) : Lrc D R := noLrc
theorem f65_l2_d_ok {R : Type} : ∀ k, LoopOk Try.prog cx 20 0 f65_ann (f65_l2_d (R := R) k) f65_l2_b :=
  loop_ok (keep := kp) (lrc := f65_l2_r (R := R)) cxOk mixed (f65_o_ok) (show f65_ann (Am.keyOf f65_l2_b) = some f65_l2_a by kernel_rfl) (L := []) (by kernel_rfl) (fun _k => trivial) (J := []) (by kernel_rfl) (fun _k => trivial) (fun _k => LrcNat.no) (fun _x _y _K => by kernel_rfl) (fun _k _x _y _K => by kernel_rfl)
noncomputable def f65_r {R : Type} (k : Nat) : Lrc D R := (lrcAdd 2 (f65_l2_d k) noLrc)
theorem f65_ok {R : Type} (k : Nat) {e : Dr D R} (he : FnOk Try.prog cx 65 e) : FnOk Try.prog cx 65 (f65_d (f65 k) e) :=
  he.door fun _x _y => body_ok (keep := kp) (ann := f65_ann) (lrc := f65_r (R := R) k) (N := 20) (n0 := 0) (c := []) cxOk mixed (f65_o_ok k) (body := f65_b) (by kernel_rfl : Try.prog.funcs[65]? = some Try.f65) (by kernel_rfl) (by kernel_rfl) (by kernel_rfl) (by kernel_rfl) (of_decide_eq_true (by kernel_rfl)) (L := [f65_l2_b]) (by kernel_rfl) (⟨(f65_l2_d_ok k).use (by kernel_rfl), trivial⟩) (J := []) (by kernel_rfl) trivial ((LrcNat.add (f65_l2_d_ok k).2 LrcNat.no)) (fun _K => by kernel_rfl)

abbrev f62_T (R : Type) : Type := Int → Int → (Bool → Option R) → Option R
/-! ## 62: diorama/dioramaref04.isId -/
noncomputable def f62_l3 {R : Type} : Nat → Int → Int → Int → Int → (Int → Int → Option R) → Option R
  | 0, _, _, _, _, _ => none
  | k + 1, v1, v2, v3, v4, X0 =>
  bif decide (v4 < v2) then
   f62_l3 k v1 v2 (IntKind.i64.wrap (v3 * 128)) (IntKind.i64.wrap (v4 + 1)) X0
  else
   X0 v1 v3
noncomputable def f62 {R : Type} (k : Nat) (a0 a1 : Int) (K : Bool → Option R) : Option R :=
 f62_l3 k a0 a1 1 0 (fun v5 v6 =>
  bif decide (v5 > v6) then
   K (decide (v5 < (IntKind.i64.wrap ((IntKind.i64.wrap (2 * v6)) - 1))))
  else
   K false)
noncomputable def f62_d {R : Type} (g : f62_T R) (e : Dr D R) : Dr D R := door [.int .i64, .int .i64] [] (fun (x : (Int × Int × Unit)) (y : (Unit)) K => g x.1 x.2.1 (fun z0 => K ⟨.bool z0, []⟩)) e
noncomputable def f62_o {R : Type} (_k : Nat) : Orc D R := noOrc
theorem f62_o_ok {R : Type} (k : Nat) : OrcOk Try.prog cx (f62_o (R := R) k) := OrcOk.no
noncomputable def f62_b : Code := bodyOf Try.f62
noncomputable def f62_l3_a : LAnn := ⟨⟨[], [0, 1, 5, 6], []⟩, exOf (none) [(0, ⟨[], [0, 5], []⟩)]⟩
noncomputable def f62_ann : Nat → Option LAnn := fun key => bif Nat.beq key 3 then some f62_l3_a else none
noncomputable def f62_l3_b : Code := loopAt f62_b 0
noncomputable def f62_l3_g {R : Type} (k : Nat) (x : (Int × Int × Int × Int × Unit)) (_y : (Unit)) (K : KX R) : Option R := f62_l3 k x.1 x.2.1 x.2.2.1 x.2.2.2.1 (fun z0 z1 => K (.exit 0) [.int .i64 z0, .int .i64 z1] [])
noncomputable def f62_l3_d {R : Type} (k : Nat) : Lr D R := ldoor [.int .i64, .int .i64, .int .i64, .int .i64] [] (f62_l3_g k)
noncomputable def f62_l3_r {R : Type} (_k : Nat) : Lrc D R := noLrc
theorem f62_l3_d_ok {R : Type} : ∀ k, LoopOk Try.prog cx 24 0 f62_ann (f62_l3_d (R := R) k) f62_l3_b :=
  loop_ok (keep := kp) (lrc := f62_l3_r (R := R)) cxOk mixed (f62_o_ok) (show f62_ann (Am.keyOf f62_l3_b) = some f62_l3_a by kernel_rfl) (L := []) (by kernel_rfl) (fun _k => trivial) (J := []) (by kernel_rfl) (fun _k => trivial) (fun _k => LrcNat.no) (fun _x _y _K => by kernel_rfl) (fun _k _x _y _K => by kernel_rfl)
noncomputable def f62_r {R : Type} (k : Nat) : Lrc D R := (lrcAdd 3 (f62_l3_d k) noLrc)
theorem f62_ok {R : Type} (k : Nat) {e : Dr D R} (he : FnOk Try.prog cx 62 e) : FnOk Try.prog cx 62 (f62_d (f62 k) e) :=
  he.door fun _x _y => body_ok (keep := kp) (ann := f62_ann) (lrc := f62_r (R := R) k) (N := 24) (n0 := 0) (c := []) cxOk mixed (f62_o_ok k) (body := f62_b) (by kernel_rfl : Try.prog.funcs[62]? = some Try.f62) (by kernel_rfl) (by kernel_rfl) (by kernel_rfl) (by kernel_rfl) (of_decide_eq_true (by kernel_rfl)) (L := [f62_l3_b]) (by kernel_rfl) (⟨(f62_l3_d_ok k).use (by kernel_rfl), trivial⟩) (J := []) (by kernel_rfl) trivial ((LrcNat.add (f62_l3_d_ok k).2 LrcNat.no)) (fun _K => by kernel_rfl)

abbrev f30_T (R : Type) : Type := List Int → Int → (Int → Int → Int → Option R) → Option R
/-! ## 30: diorama/dioramaref04.Id -/
noncomputable def f30_l12 {R : Type} : Nat → List Int → Int → Int → Int → Int → (Int → Int → Option R) → Option R
  | 0, _, _, _, _, _, _ => none
  | k + 1, v2, v3, v4, v5, v6, X0 =>
  bif decide (v6 < v4) then
   bif inb (IntKind.i64.wrap (v3 + v6)) v2.length then
    f30_l12 k v2 v3 v4 (IntKind.i64.wrap ((IntKind.i64.wrap (v5 * 256)) + (IntKind.i64.wrap ((v2.getD ((IntKind.i64.wrap (v3 + v6)).toNat) 0))))) (IntKind.i64.wrap (v6 + 1)) X0
   else
    none
  else
   X0 v4 v5
noncomputable def f30 {R : Type} (k : Nat) (a0 : List Int) (a1 : Int) (K : Int → Int → Int → Option R) : Option R :=
 bif decide (a1 < 0) then
  K 0 0 1
 else
  bif decide (a1 ≥ (a0.length : Int)) then
   K 0 0 3
  else
   bif inb a1 a0.length then
    f65 k (a0.getD a1.toNat 0) (fun v1 =>
     bif (v1 == 0) then
      K 0 0 40
     else
      bif decide (v1 > (IntKind.i64.wrap ((a0.length : Int) - a1))) then
      K 0 0 3
      else
      f30_l12 k a0 a1 v1 0 0 (fun v7 v8 =>
      f62 k v8 v7 (fun v9 =>
      bif (!v9) then
      K 0 0 40
      else
      K v8 v7 0)))
   else
    none
noncomputable def f30_d {R : Type} (g : f30_T R) (e : Dr D R) : Dr D R := door [.list (.int .u8), .int .i64] [] (fun (x : (List Int × Int × Unit)) (y : (Unit)) K => g x.1 x.2.1 (fun z0 z1 z2 => K ⟨.tup [.int .i64 z0, .int .i64 z1, .int .i64 z2], []⟩)) e
noncomputable def f30_o {R : Type} (k : Nat) : Orc D R := (orcAdd 62 (f62_d (f62 k) noDr) (orcAdd 65 (f65_d (f65 k) noDr) noOrc))
theorem f30_o_ok {R : Type} (k : Nat) : OrcOk Try.prog cx (f30_o (R := R) k) := (OrcOk.add (f62_ok k FnOk.no) (OrcOk.add (f65_ok k FnOk.no) OrcOk.no))
noncomputable def f30_b : Code := bodyOf Try.f30
noncomputable def f30_l12_a : LAnn := ⟨⟨[], [0, 1, 7, 8, 9], []⟩, exOf (none) [(0, ⟨[], [7, 8], []⟩)]⟩
noncomputable def f30_ann : Nat → Option LAnn := fun key => bif Nat.beq key 12 then some f30_l12_a else none
noncomputable def f30_l12_b : Code := loopAt f30_b 0
noncomputable def f30_l12_g {R : Type} (k : Nat) (x : (List Int × Int × Int × Int × Int × Unit)) (_y : (Unit)) (K : KX R) : Option R := f30_l12 k x.1 x.2.1 x.2.2.1 x.2.2.2.1 x.2.2.2.2.1 (fun z0 z1 => K (.exit 0) [.int .i64 z0, .int .i64 z1] [])
noncomputable def f30_l12_d {R : Type} (k : Nat) : Lr D R := ldoor [.list (.int .u8), .int .i64, .int .i64, .int .i64, .int .i64] [] (f30_l12_g k)
noncomputable def f30_l12_r {R : Type} (_k : Nat) : Lrc D R := noLrc
theorem f30_l12_d_ok {R : Type} : ∀ k, LoopOk Try.prog cx 50 0 f30_ann (f30_l12_d (R := R) k) f30_l12_b :=
  loop_ok (keep := kp) (lrc := f30_l12_r (R := R)) cxOk mixed (f30_o_ok) (show f30_ann (Am.keyOf f30_l12_b) = some f30_l12_a by kernel_rfl) (L := []) (by kernel_rfl) (fun _k => trivial) (J := []) (by kernel_rfl) (fun _k => trivial) (fun _k => LrcNat.no) (fun _x _y _K => by kernel_rfl) (fun _k _x _y _K => by kernel_rfl)
noncomputable def f30_r {R : Type} (k : Nat) : Lrc D R := (lrcAdd 12 (f30_l12_d k) noLrc)
theorem f30_ok {R : Type} (k : Nat) {e : Dr D R} (he : FnOk Try.prog cx 30 e) : FnOk Try.prog cx 30 (f30_d (f30 k) e) :=
  he.door fun _x _y => body_ok (keep := kp) (ann := f30_ann) (lrc := f30_r (R := R) k) (N := 50) (n0 := 0) (c := []) cxOk mixed (f30_o_ok k) (body := f30_b) (by kernel_rfl : Try.prog.funcs[30]? = some Try.f30) (by kernel_rfl) (by kernel_rfl) (by kernel_rfl) (by kernel_rfl) (of_decide_eq_true (by kernel_rfl)) (L := [f30_l12_b]) (by kernel_rfl) (⟨(f30_l12_d_ok k).use (by kernel_rfl), trivial⟩) (J := []) (by kernel_rfl) trivial ((LrcNat.add (f30_l12_d_ok k).2 LrcNat.no)) (fun _K => by delta f30 f30_o; generalize @f65 R = a0; generalize @f62 R = a1; revert a0 a1; refine id ?_; intros; kernel_rfl)

abbrev f90_T (R : Type) : Type := Int → ByteArray → Int → ByteArray → (Int → ByteArray → Int → Bool → Bool → Option R) → Option R
/-! ## 90: diorama/dioramaref04.row -/
noncomputable def f90 {R : Type} (_k : Nat) (a0 : Int) (a1 : ByteArray) (a2 : Int) (a3 : ByteArray) (K : Int → ByteArray → Int → Bool → Bool → Option R) : Option R :=
 K a0 a1 a2 (!(a3.toList == (⟨#[]⟩ : ByteArray).toList)) (a3.toList == (⟨#[79]⟩ : ByteArray).toList)
noncomputable def f90_d {R : Type} (g : f90_T R) (e : Dr D R) : Dr D R := door [.int .i64, .str, .int .i64, .str] [] (fun (x : (Int × ByteArray × Int × ByteArray × Unit)) (y : (Unit)) K => g x.1 x.2.1 x.2.2.1 x.2.2.2.1 (fun z0 z1 z2 z3 z4 => K ⟨.agg [.int .i64 z0, .str z1, .int .i64 z2, .bool z3, .bool z4], []⟩)) e
noncomputable def f90_o {R : Type} (_k : Nat) : Orc D R := noOrc
theorem f90_o_ok {R : Type} (k : Nat) : OrcOk Try.prog cx (f90_o (R := R) k) := OrcOk.no
noncomputable def f90_b : Code := bodyOf Try.f90
noncomputable def f90_ann : Nat → Option LAnn := fun _key => none
noncomputable def f90_r {R : Type} (_k : Nat) : Lrc D R := noLrc
theorem f90_ok {R : Type} (k : Nat) {e : Dr D R} (he : FnOk Try.prog cx 90 e) : FnOk Try.prog cx 90 (f90_d (f90 k) e) :=
  he.door fun _x _y => body_ok (keep := kp) (ann := f90_ann) (lrc := f90_r (R := R) k) (N := 17) (n0 := 0) (c := []) cxOk mixed (f90_o_ok k) (body := f90_b) (by kernel_rfl : Try.prog.funcs[90]? = some Try.f90) (by kernel_rfl) (by kernel_rfl) (by kernel_rfl) (by kernel_rfl) (of_decide_eq_true (by kernel_rfl)) (L := []) (by kernel_rfl) trivial (J := []) (by kernel_rfl) trivial (LrcNat.no) (fun _K => by kernel_rfl)

abbrev f59_T (R : Type) : Type := (List D0 → Option R) → Option R
/-! ## 59: diorama/dioramaref04.schema -/
noncomputable def f59 {R : Type} (k : Nat) (K : List D0 → Option R) : Option R :=
 f90 k 469832109 (⟨#[72, 101, 97, 100]⟩ : ByteArray) 0 (⟨#[71]⟩ : ByteArray) (fun v1 v2 v3 v4 v5 =>
  f90 k 161 (⟨#[68, 111, 99]⟩ : ByteArray) 469832109 (⟨#[]⟩ : ByteArray) (fun v6 v7 v8 v9 v10 =>
   f90 k 162 (⟨#[86, 101, 114, 115, 105, 111, 110]⟩ : ByteArray) 469832109 (⟨#[]⟩ : ByteArray) (fun v11 v12 v13 v14 v15 =>
    f90 k 470113888 (⟨#[83, 101, 103, 109, 101, 110, 116]⟩ : ByteArray) 0 (⟨#[79]⟩ : ByteArray) (fun v16 v17 v18 v19 v20 =>
     f90 k 16641 (⟨#[83, 101, 101, 107]⟩ : ByteArray) 470113888 (⟨#[]⟩ : ByteArray) (fun v21 v22 v23 v24 v25 =>
      f90 k 436207633 (⟨#[73, 110, 102, 111]⟩ : ByteArray) 470113888 (⟨#[71]⟩ : ByteArray) (fun v26 v27 v28 v29 v30 =>
      f90 k 145 (⟨#[83, 99, 97, 108, 101]⟩ : ByteArray) 436207633 (⟨#[]⟩ : ByteArray) (fun v31 v32 v33 v34 v35 =>
      f90 k 146 (⟨#[84, 105, 116, 108, 101]⟩ : ByteArray) 436207633 (⟨#[]⟩ : ByteArray) (fun v36 v37 v38 v39 v40 =>
      f90 k 436207634 (⟨#[84, 114, 97, 99, 107, 115]⟩ : ByteArray) 470113888 (⟨#[71]⟩ : ByteArray) (fun v41 v42 v43 v44 v45 =>
      f90 k 174 (⟨#[84, 114, 97, 99, 107]⟩ : ByteArray) 436207634 (⟨#[71]⟩ : ByteArray) (fun v46 v47 v48 v49 v50 =>
      f90 k 193 (⟨#[84, 114, 97, 99, 107, 73, 100]⟩ : ByteArray) 174 (⟨#[]⟩ : ByteArray) (fun v51 v52 v53 v54 v55 =>
      f90 k 194 lit4 174 (⟨#[]⟩ : ByteArray) (fun v56 v57 v58 v59 v60 =>
      f90 k 195 (⟨#[67, 111, 100, 101, 99]⟩ : ByteArray) 174 (⟨#[]⟩ : ByteArray) (fun v61 v62 v63 v64 v65 =>
      f90 k 196 lit6 174 (⟨#[]⟩ : ByteArray) (fun v66 v67 v68 v69 v70 =>
      f90 k 197 (⟨#[83, 101, 116, 117, 112]⟩ : ByteArray) 174 (⟨#[]⟩ : ByteArray) (fun v71 v72 v73 v74 v75 =>
      f90 k 198 (⟨#[76, 97, 110, 103]⟩ : ByteArray) 174 (⟨#[]⟩ : ByteArray) (fun v76 v77 v78 v79 v80 =>
      f90 k 199 lit7 174 (⟨#[]⟩ : ByteArray) (fun v81 v82 v83 v84 v85 =>
      f90 k 200 (⟨#[80, 114, 101, 114, 111, 108, 108]⟩ : ByteArray) 174 (⟨#[]⟩ : ByteArray) (fun v86 v87 v88 v89 v90 =>
      f90 k 201 (⟨#[68, 101, 102, 68, 117, 114]⟩ : ByteArray) 174 (⟨#[]⟩ : ByteArray) (fun v91 v92 v93 v94 v95 =>
      f90 k 202 (⟨#[69, 100, 105, 116]⟩ : ByteArray) 174 (⟨#[71]⟩ : ByteArray) (fun v96 v97 v98 v99 v100 =>
      f90 k 209 (⟨#[69, 100, 105, 116, 68, 117, 114]⟩ : ByteArray) 202 (⟨#[]⟩ : ByteArray) (fun v101 v102 v103 v104 v105 =>
      f90 k 210 lit8 202 (⟨#[]⟩ : ByteArray) (fun v106 v107 v108 v109 v110 =>
      f90 k 203 (⟨#[82, 101, 102]⟩ : ByteArray) 174 (⟨#[71]⟩ : ByteArray) (fun v111 v112 v113 v114 v115 =>
      f90 k 211 (⟨#[82, 101, 102, 75, 105, 110, 100]⟩ : ByteArray) 203 (⟨#[]⟩ : ByteArray) (fun v116 v117 v118 v119 v120 =>
      f90 k 212 (⟨#[82, 101, 102, 84, 111]⟩ : ByteArray) 203 (⟨#[]⟩ : ByteArray) (fun v121 v122 v123 v124 v125 =>
      f90 k 436207635 (⟨#[70, 105, 108, 101, 115]⟩ : ByteArray) 470113888 (⟨#[71]⟩ : ByteArray) (fun v126 v127 v128 v129 v130 =>
      f90 k 177 (⟨#[70, 105, 108, 101]⟩ : ByteArray) 436207635 (⟨#[71]⟩ : ByteArray) (fun v131 v132 v133 v134 v135 =>
      f90 k 178 (⟨#[70, 105, 108, 101, 73, 100]⟩ : ByteArray) 177 (⟨#[]⟩ : ByteArray) (fun v136 v137 v138 v139 v140 =>
      f90 k 179 (⟨#[70, 105, 108, 101, 78, 97, 109, 101]⟩ : ByteArray) 177 (⟨#[]⟩ : ByteArray) (fun v141 v142 v143 v144 v145 =>
      f90 k 180 (⟨#[70, 105, 108, 101, 84, 121, 112, 101]⟩ : ByteArray) 177 (⟨#[]⟩ : ByteArray) (fun v146 v147 v148 v149 v150 =>
      f90 k 181 (⟨#[70, 105, 108, 101, 68, 97, 116, 97]⟩ : ByteArray) 177 (⟨#[]⟩ : ByteArray) (fun v151 v152 v153 v154 v155 =>
      f90 k 436207636 (⟨#[67, 104, 97, 112, 116, 101, 114, 115]⟩ : ByteArray) 470113888 (⟨#[71]⟩ : ByteArray) (fun v156 v157 v158 v159 v160 =>
      f90 k 224 (⟨#[69, 100, 105, 116, 105, 111, 110]⟩ : ByteArray) 436207636 (⟨#[71]⟩ : ByteArray) (fun v161 v162 v163 v164 v165 =>
      f90 k 225 lit3 224 (⟨#[]⟩ : ByteArray) (fun v166 v167 v168 v169 v170 =>
      f90 k 226 (⟨#[79, 114, 100, 101, 114, 101, 100]⟩ : ByteArray) 224 (⟨#[]⟩ : ByteArray) (fun v171 v172 v173 v174 v175 =>
      f90 k 227 (⟨#[67, 104, 97, 112, 116, 101, 114]⟩ : ByteArray) 224 (⟨#[71]⟩ : ByteArray) (fun v176 v177 v178 v179 v180 =>
      f90 k 228 (⟨#[67, 104, 97, 112, 73, 100]⟩ : ByteArray) 227 (⟨#[]⟩ : ByteArray) (fun v181 v182 v183 v184 v185 =>
      f90 k 229 (⟨#[67, 104, 97, 112, 70, 114, 111, 109]⟩ : ByteArray) 227 (⟨#[]⟩ : ByteArray) (fun v186 v187 v188 v189 v190 =>
      f90 k 230 (⟨#[67, 104, 97, 112, 84, 111]⟩ : ByteArray) 227 (⟨#[]⟩ : ByteArray) (fun v191 v192 v193 v194 v195 =>
      f90 k 231 lit5 227 (⟨#[]⟩ : ByteArray) (fun v196 v197 v198 v199 v200 =>
      f90 k 232 (⟨#[72, 105, 100, 100, 101, 110]⟩ : ByteArray) 227 (⟨#[]⟩ : ByteArray) (fun v201 v202 v203 v204 v205 =>
      f90 k 436207637 (⟨#[84, 97, 103, 115]⟩ : ByteArray) 470113888 (⟨#[71]⟩ : ByteArray) (fun v206 v207 v208 v209 v210 =>
      f90 k 241 (⟨#[84, 97, 103]⟩ : ByteArray) 436207637 (⟨#[71]⟩ : ByteArray) (fun v211 v212 v213 v214 v215 =>
      f90 k 242 (⟨#[84, 97, 103, 75, 105, 110, 100]⟩ : ByteArray) 241 (⟨#[]⟩ : ByteArray) (fun v216 v217 v218 v219 v220 =>
      f90 k 243 (⟨#[84, 97, 103, 84, 111]⟩ : ByteArray) 241 (⟨#[]⟩ : ByteArray) (fun v221 v222 v223 v224 v225 =>
      f90 k 244 (⟨#[84, 97, 103, 78, 97, 109, 101]⟩ : ByteArray) 241 (⟨#[]⟩ : ByteArray) (fun v226 v227 v228 v229 v230 =>
      f90 k 245 (⟨#[84, 97, 103, 86, 97, 108, 117, 101]⟩ : ByteArray) 241 (⟨#[]⟩ : ByteArray) (fun v231 v232 v233 v234 v235 =>
      f90 k 436207638 (⟨#[67, 108, 117, 115, 116, 101, 114]⟩ : ByteArray) 470113888 (⟨#[79]⟩ : ByteArray) (fun v236 v237 v238 v239 v240 =>
      f90 k 147 (⟨#[84, 105, 109, 101]⟩ : ByteArray) 436207638 (⟨#[]⟩ : ByteArray) (fun v241 v242 v243 v244 v245 =>
      f90 k 163 (⟨#[83, 105, 109, 112, 108, 101]⟩ : ByteArray) 436207638 (⟨#[]⟩ : ByteArray) (fun v246 v247 v248 v249 v250 =>
      f90 k 164 (⟨#[71, 114, 111, 117, 112]⟩ : ByteArray) 436207638 (⟨#[71]⟩ : ByteArray) (fun v251 v252 v253 v254 v255 =>
      f90 k 165 (⟨#[66, 108, 111, 99, 107]⟩ : ByteArray) 164 (⟨#[]⟩ : ByteArray) (fun v256 v257 v258 v259 v260 =>
      f90 k 166 (⟨#[68, 117, 114]⟩ : ByteArray) 164 (⟨#[]⟩ : ByteArray) (fun v261 v262 v263 v264 v265 =>
      f90 k 167 (⟨#[68, 101, 99, 111, 100, 101]⟩ : ByteArray) 164 (⟨#[]⟩ : ByteArray) (fun v266 v267 v268 v269 v270 =>
      f90 k 168 (⟨#[68, 101, 112, 115]⟩ : ByteArray) 164 (⟨#[]⟩ : ByteArray) (fun v271 v272 v273 v274 v275 =>
      f90 k 169 (⟨#[80, 116, 115]⟩ : ByteArray) 164 (⟨#[]⟩ : ByteArray) (fun v276 v277 v278 v279 v280 =>
      f90 k 170 (⟨#[76, 111, 99, 107]⟩ : ByteArray) 164 (⟨#[]⟩ : ByteArray) (fun v281 v282 v283 v284 v285 =>
      f90 k 436207639 (⟨#[67, 117, 101, 115]⟩ : ByteArray) 470113888 (⟨#[71]⟩ : ByteArray) (fun v286 v287 v288 v289 v290 =>
      f90 k 187 (⟨#[67, 117, 101]⟩ : ByteArray) 436207639 (⟨#[71]⟩ : ByteArray) (fun v291 v292 v293 v294 v295 =>
      f90 k 188 (⟨#[67, 117, 101, 84, 105, 109, 101]⟩ : ByteArray) 187 (⟨#[]⟩ : ByteArray) (fun v296 v297 v298 v299 v300 =>
      f90 k 189 (⟨#[67, 117, 101, 84, 114, 97, 99, 107]⟩ : ByteArray) 187 (⟨#[]⟩ : ByteArray) (fun v301 v302 v303 v304 v305 =>
      f90 k 190 (⟨#[67, 117, 101, 80, 108, 97, 99, 101]⟩ : ByteArray) 187 (⟨#[]⟩ : ByteArray) (fun v306 v307 v308 v309 v310 =>
      f90 k 191 (⟨#[67, 117, 101, 66, 108, 111, 99, 107]⟩ : ByteArray) 187 (⟨#[]⟩ : ByteArray) (fun v311 v312 v313 v314 v315 =>
      f90 k 236 (⟨#[86, 111, 105, 100]⟩ : ByteArray) (-1) (⟨#[]⟩ : ByteArray) (fun v316 v317 v318 v319 v320 =>
      f90 k 237 (⟨#[83, 117, 109]⟩ : ByteArray) (-1) (⟨#[]⟩ : ByteArray) (fun v321 v322 v323 v324 v325 =>
      K ([(v1, v2, v3, v4, v5), (v6, v7, v8, v9, v10), (v11, v12, v13, v14, v15), (v16, v17, v18, v19, v20), (v21, v22, v23, v24, v25), (v26, v27, v28, v29, v30), (v31, v32, v33, v34, v35), (v36, v37, v38, v39, v40), (v41, v42, v43, v44, v45), (v46, v47, v48, v49, v50), (v51, v52, v53, v54, v55), (v56, v57, v58, v59, v60), (v61, v62, v63, v64, v65), (v66, v67, v68, v69, v70), (v71, v72, v73, v74, v75), (v76, v77, v78, v79, v80), (v81, v82, v83, v84, v85), (v86, v87, v88, v89, v90), (v91, v92, v93, v94, v95), (v96, v97, v98, v99, v100), (v101, v102, v103, v104, v105), (v106, v107, v108, v109, v110), (v111, v112, v113, v114, v115), (v116, v117, v118, v119, v120), (v121, v122, v123, v124, v125), (v126, v127, v128, v129, v130), (v131, v132, v133, v134, v135), (v136, v137, v138, v139, v140), (v141, v142, v143, v144, v145), (v146, v147, v148, v149, v150), (v151, v152, v153, v154, v155), (v156, v157, v158, v159, v160), (v161, v162, v163, v164, v165), (v166, v167, v168, v169, v170), (v171, v172, v173, v174, v175), (v176, v177, v178, v179, v180), (v181, v182, v183, v184, v185), (v186, v187, v188, v189, v190), (v191, v192, v193, v194, v195), (v196, v197, v198, v199, v200), (v201, v202, v203, v204, v205), (v206, v207, v208, v209, v210), (v211, v212, v213, v214, v215), (v216, v217, v218, v219, v220), (v221, v222, v223, v224, v225), (v226, v227, v228, v229, v230), (v231, v232, v233, v234, v235), (v236, v237, v238, v239, v240), (v241, v242, v243, v244, v245), (v246, v247, v248, v249, v250), (v251, v252, v253, v254, v255), (v256, v257, v258, v259, v260), (v261, v262, v263, v264, v265), (v266, v267, v268, v269, v270), (v271, v272, v273, v274, v275), (v276, v277, v278, v279, v280), (v281, v282, v283, v284, v285), (v286, v287, v288, v289, v290), (v291, v292, v293, v294, v295), (v296, v297, v298, v299, v300), (v301, v302, v303, v304, v305), (v306, v307, v308, v309, v310), (v311, v312, v313, v314, v315), (v316, v317, v318, v319, v320), (v321, v322, v323, v324, v325)]))))))))))))))))))))))))))))))))))))))))))))))))))))))))))))))))))
noncomputable def f59_d {R : Type} (g : f59_T R) (e : Dr D R) : Dr D R := door [] [] (fun (x : (Unit)) (y : (Unit)) K => g (fun z0 => K ⟨.own 0, [some (.row (.named 0) z0 true)]⟩)) e
noncomputable def f59_o {R : Type} (k : Nat) : Orc D R := (orcAdd 90 (f90_d (f90 k) noDr) noOrc)
theorem f59_o_ok {R : Type} (k : Nat) : OrcOk Try.prog cx (f59_o (R := R) k) := (OrcOk.add (f90_ok k FnOk.no) OrcOk.no)
noncomputable def f59_b : Code := bodyOf Try.f59
noncomputable def f59_ann : Nat → Option LAnn := fun _key => none
noncomputable def f59_r {R : Type} (_k : Nat) : Lrc D R := noLrc
theorem f59_ok {R : Type} (k : Nat) {e : Dr D R} (he : FnOk Try.prog cx 59 e) : FnOk Try.prog cx 59 (f59_d (f59 k) e) :=
  he.door fun _x _y => body_ok (keep := kp) (ann := f59_ann) (lrc := f59_r (R := R) k) (N := 67) (n0 := 0) (c := []) cxOk mixed (f59_o_ok k) (body := f59_b) (by kernel_rfl : Try.prog.funcs[59]? = some Try.f59) (by kernel_rfl) (by kernel_rfl) (by kernel_rfl) (by kernel_rfl) (of_decide_eq_true (by kernel_rfl)) (L := []) (by kernel_rfl) trivial (J := []) (by kernel_rfl) trivial (LrcNat.no) (fun _K => by delta f59 f59_o; generalize @f90 R = a0; revert a0; refine id ?_; intros; kernel_rfl)

abbrev f26_T (R : Type) : Type := Int → (Int → ByteArray → Int → Bool → Bool → Bool → Option R) → Option R
/-! ## 26: diorama/dioramaref04.Info -/
noncomputable def f26_l3 {R : Type} : Nat → Int → Int → Int → ByteArray → Int → Bool → Bool → List D0 → (Int → ByteArray → Int → Bool → Bool → Option R) → (Bool → Int → ByteArray → Int → Bool → Bool → Option R) → Option R
  | 0, _, _, _, _, _, _, _, _, _, _ => none
  | k + 1, v2, v3, v4, v5, v6, v7, v8, v9, X0, X1 =>
  bif decide (v3 < (v9.length : Int)) then
   bif inb v3 v9.length then
    bif (((v9.getD v3.toNat zero0).1) == v2) then
     bif inb v3 v9.length then
      X1 true ((v9.getD v3.toNat zero0).1) ((v9.getD v3.toNat zero0).2.1) ((v9.getD v3.toNat zero0).2.2.1) ((v9.getD v3.toNat zero0).2.2.2.1) ((v9.getD v3.toNat zero0).2.2.2.2)
     else
      none
    else
     f26_l3 k v2 (IntKind.i64.wrap (v3 + 1)) v4 v5 v6 v7 v8 v9 X0 X1
   else
    none
  else
   X0 v4 v5 v6 v7 v8
noncomputable def f26 {R : Type} (k : Nat) (a0 : Int) (K : Int → ByteArray → Int → Bool → Bool → Bool → Option R) : Option R :=
 f59 k (fun v1 =>
  f26_l3 k a0 0 0 ByteArray.empty 0 false false v1 (fun _v10 _v11 _v12 _v13 _v14 =>
   K 0 ByteArray.empty 0 false false false) (fun v15 v16 v17 v18 v19 v20 =>
   K v16 v17 v18 v19 v20 v15))
noncomputable def f26_d {R : Type} (g : f26_T R) (e : Dr D R) : Dr D R := door [.int .i64] [] (fun (x : (Int × Unit)) (y : (Unit)) K => g x.1 (fun z0 z1 z2 z3 z4 z5 => K ⟨.tup [.agg [.int .i64 z0, .str z1, .int .i64 z2, .bool z3, .bool z4], .bool z5], []⟩)) e
noncomputable def f26_o {R : Type} (k : Nat) : Orc D R := (orcAdd 59 (f59_d (f59 k) noDr) noOrc)
theorem f26_o_ok {R : Type} (k : Nat) : OrcOk Try.prog cx (f26_o (R := R) k) := (OrcOk.add (f59_ok k FnOk.no) OrcOk.no)
noncomputable def f26_b : Code := bodyOf Try.f26
noncomputable def f26_l3_a : LAnn := ⟨⟨[], [0, 2, 4, 5], [65584, 131184]⟩, exOf (some ⟨[], [2, 3], [65584]⟩) [(0, ⟨[], [2], [65584]⟩)]⟩
noncomputable def f26_ann : Nat → Option LAnn := fun key => bif Nat.beq key 3 then some f26_l3_a else none
noncomputable def f26_l3_b : Code := loopAt f26_b 0
noncomputable def f26_l3_g {R : Type} (k : Nat) (x : (Int × Unit × Unit × Int × Unit)) (y : ((Int × ByteArray × Int × Bool × Bool × Unit) × List D0 × Unit)) (K : KX R) : Option R := f26_l3 k x.1 x.2.2.2.1 y.1.1 y.1.2.1 y.1.2.2.1 y.1.2.2.2.1 y.1.2.2.2.2.1 y.2.1 (fun z0 z1 z2 z3 z4 => K (.exit 0) [.ptr 65584 0] [some (.box [.int .i64 z0, .str z1, .int .i64 z2, .bool z3, .bool z4])]) (fun z0 z1 z2 z3 z4 z5 => K (.ret) [.ptr 65584 0, .bool z0] [some (.box [.int .i64 z1, .str z2, .int .i64 z3, .bool z4, .bool z5])])
noncomputable def f26_l3_d {R : Type} (k : Nat) : Lr D R := ldoor [.int .i64, .ptr 65584 0, .own 131184, .int .i64] [some (.box [.int .i64, .str, .int .i64, .bool, .bool]), some (.row (.named 0) true)] (f26_l3_g k)
noncomputable def f26_l3_r {R : Type} (_k : Nat) : Lrc D R := noLrc
theorem f26_l3_d_ok {R : Type} : ∀ k, LoopOk Try.prog cx 25 0 f26_ann (f26_l3_d (R := R) k) f26_l3_b :=
  loop_ok (keep := kp) (lrc := f26_l3_r (R := R)) cxOk mixed (f26_o_ok) (show f26_ann (Am.keyOf f26_l3_b) = some f26_l3_a by kernel_rfl) (L := []) (by kernel_rfl) (fun _k => trivial) (J := []) (by kernel_rfl) (fun _k => trivial) (fun _k => LrcNat.no) (fun _x _y _K => by kernel_rfl) (fun _k _x _y _K => by kernel_rfl)
noncomputable def f26_r {R : Type} (k : Nat) : Lrc D R := (lrcAdd 3 (f26_l3_d k) noLrc)
theorem f26_ok {R : Type} (k : Nat) {e : Dr D R} (he : FnOk Try.prog cx 26 e) : FnOk Try.prog cx 26 (f26_d (f26 k) e) :=
  he.door fun _x _y => body_ok (keep := kp) (ann := f26_ann) (lrc := f26_r (R := R) k) (N := 25) (n0 := 0) (c := []) cxOk mixed (f26_o_ok k) (body := f26_b) (by kernel_rfl : Try.prog.funcs[26]? = some Try.f26) (by kernel_rfl) (by kernel_rfl) (by kernel_rfl) (by kernel_rfl) (of_decide_eq_true (by kernel_rfl)) (L := [f26_l3_b]) (by kernel_rfl) (⟨(f26_l3_d_ok k).use (by kernel_rfl), trivial⟩) (J := []) (by kernel_rfl) trivial ((LrcNat.add (f26_l3_d_ok k).2 LrcNat.no)) (fun _K => by delta f26 f26_o; generalize @f59 R = a0; revert a0; refine id ?_; intros; kernel_rfl)

abbrev f98_T (R : Type) : Type := Int → ByteArray → Int → Bool → Bool → Int → (Bool → Option R) → Option R
/-! ## 98: diorama/dioramaref04.within -/
noncomputable def f98 {R : Type} (_k : Nat) (a0 : Int) (a1 : ByteArray) (a2 : Int) (_a3 _a4 : Bool) (a5 : Int) (K : Bool → Option R) : Option R :=
 bif (a2 == a5) then
  K true
 else
  bif (a1.toList == (⟨#[67, 104, 97, 112, 116, 101, 114]⟩ : ByteArray).toList) then
   K (a5 == a0)
  else
   K false
noncomputable def f98_d {R : Type} (g : f98_T R) (e : Dr D R) : Dr D R := door [.agg [.int .i64, .str, .int .i64, .bool, .bool], .int .i64] [] (fun (x : ((Int × ByteArray × Int × Bool × Bool × Unit) × Int × Unit)) (y : (Unit)) K => g x.1.1 x.1.2.1 x.1.2.2.1 x.1.2.2.2.1 x.1.2.2.2.2.1 x.2.1 (fun z0 => K ⟨.bool z0, []⟩)) e
noncomputable def f98_o {R : Type} (_k : Nat) : Orc D R := noOrc
theorem f98_o_ok {R : Type} (k : Nat) : OrcOk Try.prog cx (f98_o (R := R) k) := OrcOk.no
noncomputable def f98_b : Code := bodyOf Try.f98
noncomputable def f98_ann : Nat → Option LAnn := fun _key => none
noncomputable def f98_r {R : Type} (_k : Nat) : Lrc D R := noLrc
theorem f98_ok {R : Type} (k : Nat) {e : Dr D R} (he : FnOk Try.prog cx 98 e) : FnOk Try.prog cx 98 (f98_d (f98 k) e) :=
  he.door fun _x _y => body_ok (keep := kp) (ann := f98_ann) (lrc := f98_r (R := R) k) (N := 20) (n0 := 0) (c := []) cxOk mixed (f98_o_ok k) (body := f98_b) (by kernel_rfl : Try.prog.funcs[98]? = some Try.f98) (by kernel_rfl) (by kernel_rfl) (by kernel_rfl) (by kernel_rfl) (of_decide_eq_true (by kernel_rfl)) (L := []) (by kernel_rfl) trivial (J := []) (by kernel_rfl) trivial (LrcNat.no) (fun _K => by kernel_rfl)

abbrev f105_T (R : Type) : Type := Int → Int → List Int → Int → Int → Int → (List Int → Int → Int → Int → Option R) → Option R
/-! ## 105: (*diorama/dioramaref04.walker).fail -/
noncomputable def f105 {R : Type} (_k : Nat) (a0 a1 : Int) (a2 : List Int) (a3 a4 a5 : Int) (K : List Int → Int → Int → Int → Option R) : Option R :=
 bif (a4 == 0) then
  K a2 a3 a1 a0
 else
  K a2 a3 a4 a5
noncomputable def f105_d {R : Type} (g : f105_T R) (e : Dr D R) : Dr D R := door [.ptr 0 0, .int .i64, .int .i64] [.box [.list (.int .u8), .nil, .int .i64, .int .i64, .int .i64]] (fun (x : (Unit × Int × Int × Unit)) (y : ((List Int × Unit × Int × Int × Int × Unit) × Unit)) K => g x.2.1 x.2.2.1 y.1.1 y.1.2.2.1 y.1.2.2.2.1 y.1.2.2.2.2.1 (fun z0 z1 z2 z3 => K ⟨.tup [], [some (.box [.list (.int .u8) z0, .nil, .int .i64 z1, .int .i64 z2, .int .i64 z3])]⟩)) e
noncomputable def f105_o {R : Type} (_k : Nat) : Orc D R := noOrc
theorem f105_o_ok {R : Type} (k : Nat) : OrcOk Try.prog cx (f105_o (R := R) k) := OrcOk.no
noncomputable def f105_b : Code := bodyOf Try.f105
noncomputable def f105_ann : Nat → Option LAnn := fun _key => none
noncomputable def f105_r {R : Type} (_k : Nat) : Lrc D R := noLrc
theorem f105_ok {R : Type} (k : Nat) {e : Dr D R} (he : FnOk Try.prog cx 105 e) : FnOk Try.prog cx 105 (f105_d (f105 k) e) :=
  he.door fun _x _y => body_ok (keep := kp) (ann := f105_ann) (lrc := f105_r (R := R) k) (N := 19) (n0 := 1) (c := []) cxOk mixed (f105_o_ok k) (body := f105_b) (by kernel_rfl : Try.prog.funcs[105]? = some Try.f105) (by kernel_rfl) (by kernel_rfl) (by kernel_rfl) (by kernel_rfl) (of_decide_eq_true (by kernel_rfl)) (L := []) (by kernel_rfl) trivial (J := []) (by kernel_rfl) trivial (LrcNat.no) (fun _K => by kernel_rfl)


end Go.Proofs.Ytklhjegfkpmdoaa

/-! What the functions do, as plain functions; and that they do. -/
namespace Go.Proofs.Ytklhjegfkpmdoaa
open Go Go.Am
abbrev f109_T (R : Type) : Type := List Int → Int → (Int → Int → Bool → Int → Option R) → Option R
/-! ## 109: diorama/dioramaref01.Vint -/
noncomputable def f109_l14 {R : Type} : Nat → List Int → Int → Int → Int → Int → (Int → Int → Option R) → Option R
  | 0, _, _, _, _, _, _ => none
  | k + 1, v7, v8, v9, v10, v11, X0 =>
  bif decide (v11 < v9) then
   bif inb (IntKind.i64.wrap (v8 + v11)) v7.length then
    f109_l14 k v7 v8 v9 (IntKind.i64.wrap ((IntKind.i64.wrap (v10 * 256)) + (IntKind.i64.wrap ((v7.getD ((IntKind.i64.wrap (v8 + v11)).toNat) 0))))) (IntKind.i64.wrap (v11 + 1)) X0
   else
    none
  else
   X0 v9 v10
noncomputable def f109_l8 {R : Type} : Nat → List Int → Int → Int → (List Int → Int → Int → Option R) → Option R
  | 0, _, _, _, _ => none
  | k + 1, v1, v2, v3, X0 =>
  bif inb v2 v1.length then
   bif decide ((IntKind.u64.wrap ((IntKind.i64.wrap (8 - v3)))) < 0) then
    none
   else
    bif ((shrI .u8 (v1.getD v2.toNat 0) (IntKind.u64.wrap ((IntKind.i64.wrap (8 - v3))))) == 0) then
     f109_l8 k v1 v2 (IntKind.i64.wrap (v3 + 1)) X0
    else
     X0 v1 v2 v3
  else
   none
noncomputable def f109 {R : Type} (k : Nat) (a0 : List Int) (a1 : Int) (K : Int → Int → Bool → Int → Option R) : Option R :=
 bif decide (a1 < 0) then
  K 0 0 false 1
 else
  bif decide (a1 ≥ (a0.length : Int)) then
   K 0 0 false 3
  else
   bif inb a1 a0.length then
    bif ((a0.getD a1.toNat 0) == 0) then
     K 0 0 false 4
    else
     f109_l8 k a0 a1 1 (fun v4 v5 v6 =>
      bif decide (v5 > (IntKind.i64.wrap ((v4.length : Int) - v6))) then
      K 0 0 false 3
      else
      bif inb v5 v4.length then
      bif decide ((IntKind.u64.wrap ((IntKind.i64.wrap (8 - v6)))) < 0) then
      none
      else
      f109_l14 k v4 v5 v6 (IntKind.i64.wrap ((IntKind.i64.wrap ((v4.getD v5.toNat 0))) - (shlI .i64 1 (IntKind.u64.wrap ((IntKind.i64.wrap (8 - v6))))))) 1 (fun v12 v13 =>
      f85 k v12 (fun v14 =>
      bif (v13 == v14) then
      K 0 v12 true 0
      else
      K v13 v12 false 0))
      else
      none)
   else
    none
noncomputable def f109_d {R : Type} (g : f109_T R) (e : Dr D R) : Dr D R := door [.list (.int .u8), .int .i64] [] (fun (x : (List Int × Int × Unit)) (y : (Unit)) K => g x.1 x.2.1 (fun z0 z1 z2 z3 => K ⟨.tup [.int .i64 z0, .int .i64 z1, .bool z2, .int .i64 z3], []⟩)) e
noncomputable def f109_o {R : Type} (k : Nat) : Orc D R := (orcAdd 85 (f85_d (f85 k) noDr) noOrc)
theorem f109_o_ok {R : Type} (k : Nat) : OrcOk Try.prog cx (f109_o (R := R) k) := (OrcOk.add (f85_ok k FnOk.no) OrcOk.no)
noncomputable def f109_b : Code := bodyOf Try.f109
noncomputable def f109_l14_a : LAnn := ⟨⟨[], [0, 1, 8, 9, 10], []⟩, exOf (none) [(2, ⟨[], [8, 9], []⟩)]⟩
noncomputable def f109_l8_a : LAnn := ⟨⟨[], [0, 1, 8], []⟩, exOf (none) [(0, ⟨[], [0, 1, 8], []⟩)]⟩
noncomputable def f109_ann : Nat → Option LAnn := fun key => bif Nat.beq key 8 then some f109_l8_a else bif Nat.beq key 14 then some f109_l14_a else none
noncomputable def f109_l14_b : Code := loopAt f109_b 1
noncomputable def f109_l14_g {R : Type} (k : Nat) (x : (List Int × Int × Int × Int × Int × Unit)) (_y : (Unit)) (K : KX R) : Option R := f109_l14 k x.1 x.2.1 x.2.2.1 x.2.2.2.1 x.2.2.2.2.1 (fun z0 z1 => K (.exit 2) [.int .i64 z0, .int .i64 z1] [])
noncomputable def f109_l14_d {R : Type} (k : Nat) : Lr D R := ldoor [.list (.int .u8), .int .i64, .int .i64, .int .i64, .int .i64] [] (f109_l14_g k)
noncomputable def f109_l14_r {R : Type} (_k : Nat) : Lrc D R := noLrc
theorem f109_l14_d_ok {R : Type} : ∀ k, LoopOk Try.prog cx 71 0 f109_ann (f109_l14_d (R := R) k) f109_l14_b :=
  loop_ok (keep := kp) (lrc := f109_l14_r (R := R)) cxOk mixed (f109_o_ok) (show f109_ann (Am.keyOf f109_l14_b) = some f109_l14_a by kernel_rfl) (L := []) (by kernel_rfl) (fun _k => trivial) (J := []) (by kernel_rfl) (fun _k => trivial) (fun _k => LrcNat.no) (fun _x _y _K => by kernel_rfl) (fun _k _x _y _K => by kernel_rfl)
noncomputable def f109_l8_b : Code := loopAt f109_b 0
noncomputable def f109_l8_g {R : Type} (k : Nat) (x : (List Int × Int × Int × Unit)) (_y : (Unit)) (K : KX R) : Option R := f109_l8 k x.1 x.2.1 x.2.2.1 (fun z0 z1 z2 => K (.exit 0) [.list (.int .u8) z0, .int .i64 z1, .int .i64 z2] [])
noncomputable def f109_l8_d {R : Type} (k : Nat) : Lr D R := ldoor [.list (.int .u8), .int .i64, .int .i64] [] (f109_l8_g k)
noncomputable def f109_l8_r {R : Type} (_k : Nat) : Lrc D R := noLrc
theorem f109_l8_d_ok {R : Type} : ∀ k, LoopOk Try.prog cx 71 0 f109_ann (f109_l8_d (R := R) k) f109_l8_b :=
  loop_ok (keep := kp) (lrc := f109_l8_r (R := R)) cxOk mixed (f109_o_ok) (show f109_ann (Am.keyOf f109_l8_b) = some f109_l8_a by kernel_rfl) (L := []) (by kernel_rfl) (fun _k => trivial) (J := []) (by kernel_rfl) (fun _k => trivial) (fun _k => LrcNat.no) (fun _x _y _K => by kernel_rfl) (fun _k _x _y _K => by kernel_rfl)
noncomputable def f109_r {R : Type} (k : Nat) : Lrc D R := (lrcAdd 14 (f109_l14_d k) (lrcAdd 8 (f109_l8_d k) noLrc))
theorem f109_ok {R : Type} (k : Nat) {e : Dr D R} (he : FnOk Try.prog cx 109 e) : FnOk Try.prog cx 109 (f109_d (f109 k) e) :=
  he.door fun _x _y => body_ok (keep := kp) (ann := f109_ann) (lrc := f109_r (R := R) k) (N := 71) (n0 := 0) (c := []) cxOk mixed (f109_o_ok k) (body := f109_b) (by kernel_rfl : Try.prog.funcs[109]? = some Try.f109) (by kernel_rfl) (by kernel_rfl) (by kernel_rfl) (by kernel_rfl) (of_decide_eq_true (by kernel_rfl)) (L := [f109_l8_b, f109_l14_b]) (by kernel_rfl) (⟨(f109_l8_d_ok k).use (by kernel_rfl), (f109_l14_d_ok k).use (by kernel_rfl), trivial⟩) (J := []) (by kernel_rfl) trivial ((LrcNat.add (f109_l14_d_ok k).2 (LrcNat.add (f109_l8_d_ok k).2 LrcNat.no))) (fun _K => by delta f109 f109_o; generalize @f85 R = a0; revert a0; refine id ?_; intros; kernel_rfl)

abbrev f102_T (R : Type) : Type := Int → List Int → Int → Int → Int → (Int → Int → Int → Bool → Bool → List Int → Int → Int → Int → Option R) → Option R
/-! ## 102: (*diorama/dioramaref04.walker).head -/
noncomputable def f102 {R : Type} (k : Nat) (a0 : Int) (a1 : List Int) (a2 a3 a4 : Int) (K : Int → Int → Int → Bool → Bool → List Int → Int → Int → Int → Option R) : Option R :=
 bif inb a0 a1.length then
  f65 k (a1.getD a0.toNat 0) (fun v1 =>
   bif (v1 == 0) then
    f105 k a0 40 a1 a2 a3 a4 (fun v2 v3 v4 v5 =>
     K 0 0 0 false false v2 v3 v4 v5)
   else
    bif decide (v1 ≥ (IntKind.i64.wrap ((a1.length : Int) - a0))) then
     f105 k a0 3 a1 a2 a3 a4 (fun v6 v7 v8 v9 =>
      K 0 0 0 false false v6 v7 v8 v9)
    else
     f30 k a1 a0 (fun v10 _v11 v12 =>
      bif (v12 != 0) then
      f105 k a0 v12 a1 a2 a3 a4 (fun v13 v14 v15 v16 =>
      K 0 0 0 false false v13 v14 v15 v16)
      else
      bif inb (IntKind.i64.wrap (a0 + v1)) a1.length then
      bif ((a1.getD ((IntKind.i64.wrap (a0 + v1)).toNat) 0) == 0) then
      f105 k a0 4 a1 a2 a3 a4 (fun v17 v18 v19 v20 =>
      K 0 0 0 false false v17 v18 v19 v20)
      else
      f109 k a1 (IntKind.i64.wrap (a0 + v1)) (fun v21 v22 v23 v24 =>
      bif (v24 != 0) then
      f105 k a0 3 a1 a2 a3 a4 (fun v25 v26 v27 v28 =>
      K 0 0 0 false false v25 v26 v27 v28)
      else
      K v10 (IntKind.i64.wrap (v1 + v22)) v21 v23 true a1 a2 a3 a4)
      else
      none))
 else
  none
noncomputable def f102_d {R : Type} (g : f102_T R) (e : Dr D R) : Dr D R := door [.ptr 0 0, .int .i64] [.box [.list (.int .u8), .nil, .int .i64, .int .i64, .int .i64]] (fun (x : (Unit × Int × Unit)) (y : ((List Int × Unit × Int × Int × Int × Unit) × Unit)) K => g x.2.1 y.1.1 y.1.2.2.1 y.1.2.2.2.1 y.1.2.2.2.2.1 (fun z0 z1 z2 z3 z4 z5 z6 z7 z8 => K ⟨.tup [.agg [.int .i64 z0, .int .i64 z1, .int .i64 z2, .bool z3], .bool z4], [some (.box [.list (.int .u8) z5, .nil, .int .i64 z6, .int .i64 z7, .int .i64 z8])]⟩)) e
noncomputable def f102_o {R : Type} (k : Nat) : Orc D R := (orcAdd 109 (f109_d (f109 k) noDr) (orcAdd 105 (f105_d (f105 k) noDr) (orcAdd 30 (f30_d (f30 k) noDr) (orcAdd 65 (f65_d (f65 k) noDr) noOrc))))
theorem f102_o_ok {R : Type} (k : Nat) : OrcOk Try.prog cx (f102_o (R := R) k) := (OrcOk.add (f109_ok k FnOk.no) (OrcOk.add (f105_ok k FnOk.no) (OrcOk.add (f30_ok k FnOk.no) (OrcOk.add (f65_ok k FnOk.no) OrcOk.no))))
noncomputable def f102_b : Code := bodyOf Try.f102
noncomputable def f102_ann : Nat → Option LAnn := fun _key => none
noncomputable def f102_r {R : Type} (_k : Nat) : Lrc D R := noLrc
theorem f102_ok {R : Type} (k : Nat) {e : Dr D R} (he : FnOk Try.prog cx 102 e) : FnOk Try.prog cx 102 (f102_d (f102 k) e) :=
  he.door fun _x _y => body_ok (keep := kp) (ann := f102_ann) (lrc := f102_r (R := R) k) (N := 89) (n0 := 1) (c := []) cxOk mixed (f102_o_ok k) (body := f102_b) (by kernel_rfl : Try.prog.funcs[102]? = some Try.f102) (by kernel_rfl) (by kernel_rfl) (by kernel_rfl) (by kernel_rfl) (of_decide_eq_true (by kernel_rfl)) (L := []) (by kernel_rfl) trivial (J := []) (by kernel_rfl) trivial (LrcNat.no) (fun _K => by delta f102 f102_o; generalize @f65 R = a0; generalize @f30 R = a1; generalize @f105 R = a2; generalize @f109 R = a3; revert a0 a1 a2 a3; refine id ?_; intros; kernel_rfl)

abbrev f103_T (R : Type) : Type := Int → Int → Int → Int → Bool → Int → ByteArray → Int → Bool → Bool → Int → Int → Int → Int → Bool → List Int → Int → Int → Int → (Int → List Int → Int → Int → Int → Option R) → Option R
/-! ## 103: (*diorama/dioramaref04.walker).size -/
noncomputable def f103 {R : Type} (k : Nat) (a0 _a1 a2 a3 : Int) (a4 : Bool) (_a5 : Int) (_a6 : ByteArray) (_a7 : Int) (_a8 a9 : Bool) (_a10 _a11 a12 _a13 : Int) (_a14 : Bool) (a15 : List Int) (a16 a17 a18 : Int) (K : Int → List Int → Int → Int → Int → Option R) : Option R :=
 bif decide (a12 ≥ 0) then
  bif decide ((IntKind.i64.wrap (a0 + a2)) > a12) then
   f105 k a0 41 a15 a16 a17 a18 (fun v1 v2 v3 v4 =>
    K (-1) v1 v2 v3 v4)
  else
   bif a4 then
    bif (!a9) then
     f105 k a0 41 a15 a16 a17 a18 (fun v5 v6 v7 v8 =>
      K (-1) v5 v6 v7 v8)
    else
     bif a4 then
      K (-1) a15 a16 a17 a18
     else
      bif decide (a12 ≥ 0) then
      bif decide (a3 > (IntKind.i64.wrap (a12 - (IntKind.i64.wrap (a0 + a2))))) then
      f105 k a0 41 a15 a16 a17 a18 (fun v9 v10 v11 v12 =>
      K (-1) v9 v10 v11 v12)
      else
      bif decide (a3 > (IntKind.i64.wrap ((a15.length : Int) - (IntKind.i64.wrap (a0 + a2))))) then
      f105 k a0 3 a15 a16 a17 a18 (fun v13 v14 v15 v16 =>
      K (-1) v13 v14 v15 v16)
      else
      K (IntKind.i64.wrap ((IntKind.i64.wrap (a0 + a2)) + a3)) a15 a16 a17 a18
      else
      bif decide (a3 > (IntKind.i64.wrap ((a15.length : Int) - (IntKind.i64.wrap (a0 + a2))))) then
      f105 k a0 3 a15 a16 a17 a18 (fun v17 v18 v19 v20 =>
      K (-1) v17 v18 v19 v20)
      else
      K (IntKind.i64.wrap ((IntKind.i64.wrap (a0 + a2)) + a3)) a15 a16 a17 a18
   else
    bif a4 then
     K (-1) a15 a16 a17 a18
    else
     bif decide (a12 ≥ 0) then
      bif decide (a3 > (IntKind.i64.wrap (a12 - (IntKind.i64.wrap (a0 + a2))))) then
      f105 k a0 41 a15 a16 a17 a18 (fun v21 v22 v23 v24 =>
      K (-1) v21 v22 v23 v24)
      else
      bif decide (a3 > (IntKind.i64.wrap ((a15.length : Int) - (IntKind.i64.wrap (a0 + a2))))) then
      f105 k a0 3 a15 a16 a17 a18 (fun v25 v26 v27 v28 =>
      K (-1) v25 v26 v27 v28)
      else
      K (IntKind.i64.wrap ((IntKind.i64.wrap (a0 + a2)) + a3)) a15 a16 a17 a18
     else
      bif decide (a3 > (IntKind.i64.wrap ((a15.length : Int) - (IntKind.i64.wrap (a0 + a2))))) then
      f105 k a0 3 a15 a16 a17 a18 (fun v29 v30 v31 v32 =>
      K (-1) v29 v30 v31 v32)
      else
      K (IntKind.i64.wrap ((IntKind.i64.wrap (a0 + a2)) + a3)) a15 a16 a17 a18
 else
  bif a4 then
   bif (!a9) then
    f105 k a0 41 a15 a16 a17 a18 (fun v33 v34 v35 v36 =>
     K (-1) v33 v34 v35 v36)
   else
    bif a4 then
     K (-1) a15 a16 a17 a18
    else
     bif decide (a12 ≥ 0) then
      bif decide (a3 > (IntKind.i64.wrap (a12 - (IntKind.i64.wrap (a0 + a2))))) then
      f105 k a0 41 a15 a16 a17 a18 (fun v37 v38 v39 v40 =>
      K (-1) v37 v38 v39 v40)
      else
      bif decide (a3 > (IntKind.i64.wrap ((a15.length : Int) - (IntKind.i64.wrap (a0 + a2))))) then
      f105 k a0 3 a15 a16 a17 a18 (fun v41 v42 v43 v44 =>
      K (-1) v41 v42 v43 v44)
      else
      K (IntKind.i64.wrap ((IntKind.i64.wrap (a0 + a2)) + a3)) a15 a16 a17 a18
     else
      bif decide (a3 > (IntKind.i64.wrap ((a15.length : Int) - (IntKind.i64.wrap (a0 + a2))))) then
      f105 k a0 3 a15 a16 a17 a18 (fun v45 v46 v47 v48 =>
      K (-1) v45 v46 v47 v48)
      else
      K (IntKind.i64.wrap ((IntKind.i64.wrap (a0 + a2)) + a3)) a15 a16 a17 a18
  else
   bif a4 then
    K (-1) a15 a16 a17 a18
   else
    bif decide (a12 ≥ 0) then
     bif decide (a3 > (IntKind.i64.wrap (a12 - (IntKind.i64.wrap (a0 + a2))))) then
      f105 k a0 41 a15 a16 a17 a18 (fun v49 v50 v51 v52 =>
      K (-1) v49 v50 v51 v52)
     else
      bif decide (a3 > (IntKind.i64.wrap ((a15.length : Int) - (IntKind.i64.wrap (a0 + a2))))) then
      f105 k a0 3 a15 a16 a17 a18 (fun v53 v54 v55 v56 =>
      K (-1) v53 v54 v55 v56)
      else
      K (IntKind.i64.wrap ((IntKind.i64.wrap (a0 + a2)) + a3)) a15 a16 a17 a18
    else
     bif decide (a3 > (IntKind.i64.wrap ((a15.length : Int) - (IntKind.i64.wrap (a0 + a2))))) then
      f105 k a0 3 a15 a16 a17 a18 (fun v57 v58 v59 v60 =>
      K (-1) v57 v58 v59 v60)
     else
      K (IntKind.i64.wrap ((IntKind.i64.wrap (a0 + a2)) + a3)) a15 a16 a17 a18
noncomputable def f103_d {R : Type} (g : f103_T R) (e : Dr D R) : Dr D R := door [.ptr 0 0, .int .i64, .agg [.int .i64, .int .i64, .int .i64, .bool], .agg [.int .i64, .str, .int .i64, .bool, .bool], .agg [.int .i64, .int .i64, .int .i64, .int .i64, .bool]] [.box [.list (.int .u8), .nil, .int .i64, .int .i64, .int .i64]] (fun (x : (Unit × Int × (Int × Int × Int × Bool × Unit) × (Int × ByteArray × Int × Bool × Bool × Unit) × (Int × Int × Int × Int × Bool × Unit) × Unit)) (y : ((List Int × Unit × Int × Int × Int × Unit) × Unit)) K => g x.2.1 x.2.2.1.1 x.2.2.1.2.1 x.2.2.1.2.2.1 x.2.2.1.2.2.2.1 x.2.2.2.1.1 x.2.2.2.1.2.1 x.2.2.2.1.2.2.1 x.2.2.2.1.2.2.2.1 x.2.2.2.1.2.2.2.2.1 x.2.2.2.2.1.1 x.2.2.2.2.1.2.1 x.2.2.2.2.1.2.2.1 x.2.2.2.2.1.2.2.2.1 x.2.2.2.2.1.2.2.2.2.1 y.1.1 y.1.2.2.1 y.1.2.2.2.1 y.1.2.2.2.2.1 (fun z0 z1 z2 z3 z4 => K ⟨.int .i64 z0, [some (.box [.list (.int .u8) z1, .nil, .int .i64 z2, .int .i64 z3, .int .i64 z4])]⟩)) e
noncomputable def f103_o {R : Type} (k : Nat) : Orc D R := (orcAdd 105 (f105_d (f105 k) noDr) noOrc)
theorem f103_o_ok {R : Type} (k : Nat) : OrcOk Try.prog cx (f103_o (R := R) k) := (OrcOk.add (f105_ok k FnOk.no) OrcOk.no)
noncomputable def f103_b : Code := bodyOf Try.f103
noncomputable def f103_ann : Nat → Option LAnn := fun _key => none
noncomputable def f103_r {R : Type} (_k : Nat) : Lrc D R := noLrc
theorem f103_ok {R : Type} (k : Nat) {e : Dr D R} (he : FnOk Try.prog cx 103 e) : FnOk Try.prog cx 103 (f103_d (f103 k) e) :=
  he.door fun _x _y => body_ok (keep := kp) (ann := f103_ann) (lrc := f103_r (R := R) k) (N := 71) (n0 := 1) (c := []) cxOk mixed (f103_o_ok k) (body := f103_b) (by kernel_rfl : Try.prog.funcs[103]? = some Try.f103) (by kernel_rfl) (by kernel_rfl) (by kernel_rfl) (by kernel_rfl) (of_decide_eq_true (by kernel_rfl)) (L := []) (by kernel_rfl) trivial (J := []) (by kernel_rfl) trivial (LrcNat.no) (fun _K => by delta f103 f103_o; generalize @f105 R = a0; revert a0; refine id ?_; intros; kernel_rfl)

abbrev f94_T (R : Type) : Type := List Int → (Int → Option R) → Option R
/-! ## 94: diorama/dioramaref01.Sum -/
noncomputable def f94_l7 {R : Type} : Nat → List Int → Int → Int → Int → (List Int → Int → Int → Option R) → Option R
  | 0, _, _, _, _, _ => none
  | k + 1, v4, v5, v6, v7, X0 =>
  bif decide (v7 < 8) then
   bif ((andI .u32 v5 1) == 1) then
    f94_l7 k v4 (xorI .u32 (shrI .u32 v5 1) 3558460437) v6 (IntKind.i64.wrap (v7 + 1)) X0
   else
    f94_l7 k v4 (shrI .u32 v5 1) v6 (IntKind.i64.wrap (v7 + 1)) X0
  else
   X0 v4 v5 v6
noncomputable def f94_l3 {R : Type} : Nat → List Int → Int → Int → (Int → Option R) → Option R
  | 0, _, _, _, _ => none
  | k + 1, v1, v2, v3, X0 =>
  bif decide (v3 < (v1.length : Int)) then
   bif inb v3 v1.length then
    f94_l7 k v1 (xorI .u32 v2 (IntKind.u32.wrap ((v1.getD v3.toNat 0)))) v3 0 (fun v8 v9 v10 =>
     f94_l3 k v8 v9 (IntKind.i64.wrap (v10 + 1)) X0)
   else
    none
  else
   X0 v2
noncomputable def f94 {R : Type} (k : Nat) (a0 : List Int) (K : Int → Option R) : Option R :=
 f94_l3 k a0 4294967295 0 (fun v11 =>
  K (xorI .u32 v11 4294967295))
noncomputable def f94_d {R : Type} (g : f94_T R) (e : Dr D R) : Dr D R := door [.list (.int .u8)] [] (fun (x : (List Int × Unit)) (y : (Unit)) K => g x.1 (fun z0 => K ⟨.int .u32 z0, []⟩)) e
noncomputable def f94_o {R : Type} (_k : Nat) : Orc D R := noOrc
theorem f94_o_ok {R : Type} (k : Nat) : OrcOk Try.prog cx (f94_o (R := R) k) := OrcOk.no
noncomputable def f94_b : Code := bodyOf Try.f94
noncomputable def f94_l7_a : LAnn := ⟨⟨[], [0, 3, 4, 5], []⟩, exOf (none) [(2, ⟨[], [0, 3, 4], []⟩)]⟩
noncomputable def f94_l3_a : LAnn := ⟨⟨[], [0, 3, 4], []⟩, exOf (none) [(0, ⟨[], [3], []⟩)]⟩
noncomputable def f94_ann : Nat → Option LAnn := fun key => bif Nat.beq key 3 then some f94_l3_a else bif Nat.beq key 7 then some f94_l7_a else none
noncomputable def f94_l7_b : Code := loopAt f94_b 1
noncomputable def f94_l7_g {R : Type} (k : Nat) (x : (List Int × Int × Int × Int × Unit)) (_y : (Unit)) (K : KX R) : Option R := f94_l7 k x.1 x.2.1 x.2.2.1 x.2.2.2.1 (fun z0 z1 z2 => K (.exit 2) [.list (.int .u8) z0, .int .u32 z1, .int .i64 z2] [])
noncomputable def f94_l7_d {R : Type} (k : Nat) : Lr D R := ldoor [.list (.int .u8), .int .u32, .int .i64, .int .i64] [] (f94_l7_g k)
noncomputable def f94_l7_r {R : Type} (_k : Nat) : Lrc D R := noLrc
theorem f94_l7_d_ok {R : Type} : ∀ k, LoopOk Try.prog cx 34 0 f94_ann (f94_l7_d (R := R) k) f94_l7_b :=
  loop_ok (keep := kp) (lrc := f94_l7_r (R := R)) cxOk mixed (f94_o_ok) (show f94_ann (Am.keyOf f94_l7_b) = some f94_l7_a by kernel_rfl) (L := []) (by kernel_rfl) (fun _k => trivial) (J := []) (by kernel_rfl) (fun _k => trivial) (fun _k => LrcNat.no) (fun _x _y _K => by kernel_rfl) (fun _k _x _y _K => by kernel_rfl)
noncomputable def f94_l3_b : Code := loopAt f94_b 0
noncomputable def f94_l3_g {R : Type} (k : Nat) (x : (List Int × Int × Int × Unit)) (_y : (Unit)) (K : KX R) : Option R := f94_l3 k x.1 x.2.1 x.2.2.1 (fun z0 => K (.exit 0) [.int .u32 z0] [])
noncomputable def f94_l3_d {R : Type} (k : Nat) : Lr D R := ldoor [.list (.int .u8), .int .u32, .int .i64] [] (f94_l3_g k)
noncomputable def f94_l3_r {R : Type} (k : Nat) : Lrc D R := (lrcAdd 7 (f94_l7_d k) noLrc)
theorem f94_l3_d_ok {R : Type} : ∀ k, LoopOk Try.prog cx 34 0 f94_ann (f94_l3_d (R := R) k) f94_l3_b :=
  loop_ok (keep := kp) (lrc := f94_l3_r (R := R)) cxOk mixed (f94_o_ok) (show f94_ann (Am.keyOf f94_l3_b) = some f94_l3_a by kernel_rfl) (L := [f94_l7_b]) (by kernel_rfl) (fun k => ⟨(f94_l7_d_ok k).use (by kernel_rfl), trivial⟩) (J := []) (by kernel_rfl) (fun _k => trivial) (fun k => (LrcNat.add (f94_l7_d_ok k).2 LrcNat.no)) (fun _x _y _K => by kernel_rfl) (fun _k _x _y _K => by kernel_rfl)
noncomputable def f94_r {R : Type} (k : Nat) : Lrc D R := (lrcAdd 7 (f94_l7_d k) (lrcAdd 3 (f94_l3_d k) noLrc))
theorem f94_ok {R : Type} (k : Nat) {e : Dr D R} (he : FnOk Try.prog cx 94 e) : FnOk Try.prog cx 94 (f94_d (f94 k) e) :=
  he.door fun _x _y => body_ok (keep := kp) (ann := f94_ann) (lrc := f94_r (R := R) k) (N := 34) (n0 := 0) (c := []) cxOk mixed (f94_o_ok k) (body := f94_b) (by kernel_rfl : Try.prog.funcs[94]? = some Try.f94) (by kernel_rfl) (by kernel_rfl) (by kernel_rfl) (by kernel_rfl) (of_decide_eq_true (by kernel_rfl)) (L := [f94_l3_b, f94_l7_b]) (by kernel_rfl) (⟨(f94_l3_d_ok k).use (by kernel_rfl), (f94_l7_d_ok k).use (by kernel_rfl), trivial⟩) (J := []) (by kernel_rfl) trivial ((LrcNat.add (f94_l7_d_ok k).2 (LrcNat.add (f94_l3_d_ok k).2 LrcNat.no))) (fun _K => by kernel_rfl)

abbrev f104_T (R : Type) : Type := Int → Int → Int → Int → Int → Int → Int → Int → Bool → List Int → Int → Int → Int → (List Int → Int → Int → Int → Option R) → Option R
/-! ## 104: (*diorama/dioramaref04.walker).sum -/
noncomputable def f104_l3 {R : Type} : Nat → Int → Int → Int → Int → List Int → Int → Int → Int → Int → Int → Int → Int → Bool → (Int → Int → Int → List Int → Int → Int → Int → Int → Int → Int → Int → Bool → Option R) → Option R
  | 0, _, _, _, _, _, _, _, _, _, _, _, _, _, _ => none
  | k + 1, v21, v22, v23, v24, v25, v26, v27, v28, v29, v30, v31, v32, v33, X0 =>
  bif decide (v24 < v22) then
   bif inb v24 v25.length then
    f104_l3 k v21 v22 (IntKind.i64.wrap ((IntKind.i64.wrap (v23 * 256)) + (IntKind.i64.wrap ((v25.getD v24.toNat 0))))) (IntKind.i64.wrap (v24 + 1)) v25 v26 v27 v28 v29 v30 v31 v32 v33 X0
   else
    none
  else
   X0 v21 v22 v23 v25 v26 v27 v28 v29 v30 v31 v32 v33
noncomputable def f104 {R : Type} (k : Nat) (a0 a1 a2 a3 a4 a5 a6 a7 : Int) (a8 : Bool) (a9 : List Int) (a10 a11 a12 : Int) (K : List Int → Int → Int → Int → Option R) : Option R :=
 bif (a4 == 0) then
  f105 k a0 42 a9 a10 a11 a12 K
 else
  bif decide (a3 > 0) then
   f105 k a0 42 a9 a10 a11 a12 K
  else
   bif decide (a7 > 8) then
    f105 k a0 43 a9 a10 a11 a12 K
   else
    bif a8 then
     f105 k a0 4 a9 a10 a11 a12 K
    else
     bif ((IntKind.i64.wrap (a2 - a1)) != 4) then
      f105 k a0 4 a9 a10 a11 a12 K
     else
      f104_l3 k a0 a2 0 a1 a9 a10 a11 a12 a4 a5 a6 a7 a8 (fun v34 v35 v36 v37 v38 v39 v40 _v41 v42 _v43 _v44 _v45 =>
      bif upto v42 v37.length then
      bif (decide (0 ≤ v35)) && (decide (v35 ≤ v42)) then
      f94 k ((v37.take v42.toNat).drop v35.toNat) (fun v46 =>
      bif (v36 != (IntKind.i64.wrap (v46))) then
      f105 k v34 6 v37 v38 v39 v40 K
      else
      K v37 v38 v39 v40)
      else
      none
      else
      none)
noncomputable def f104_d {R : Type} (g : f104_T R) (e : Dr D R) : Dr D R := door [.ptr 0 0, .int .i64, .int .i64, .int .i64, .int .i64, .agg [.int .i64, .int .i64, .int .i64, .int .i64, .bool]] [.box [.list (.int .u8), .nil, .int .i64, .int .i64, .int .i64]] (fun (x : (Unit × Int × Int × Int × Int × (Int × Int × Int × Int × Bool × Unit) × Unit)) (y : ((List Int × Unit × Int × Int × Int × Unit) × Unit)) K => g x.2.1 x.2.2.1 x.2.2.2.1 x.2.2.2.2.1 x.2.2.2.2.2.1.1 x.2.2.2.2.2.1.2.1 x.2.2.2.2.2.1.2.2.1 x.2.2.2.2.2.1.2.2.2.1 x.2.2.2.2.2.1.2.2.2.2.1 y.1.1 y.1.2.2.1 y.1.2.2.2.1 y.1.2.2.2.2.1 (fun z0 z1 z2 z3 => K ⟨.tup [], [some (.box [.list (.int .u8) z0, .nil, .int .i64 z1, .int .i64 z2, .int .i64 z3])]⟩)) e
noncomputable def f104_o {R : Type} (k : Nat) : Orc D R := (orcAdd 94 (f94_d (f94 k) noDr) (orcAdd 105 (f105_d (f105 k) noDr) noOrc))
theorem f104_o_ok {R : Type} (k : Nat) : OrcOk Try.prog cx (f104_o (R := R) k) := (OrcOk.add (f94_ok k FnOk.no) (OrcOk.add (f105_ok k FnOk.no) OrcOk.no))
noncomputable def f104_b : Code := bodyOf Try.f104
noncomputable def f104_l3_a : LAnn := ⟨⟨[], [0, 1, 3, 11, 12, 13], [0, 65728]⟩, exOf (none) [(1, ⟨[], [0, 1, 3, 11, 12], [0, 65728]⟩)]⟩
noncomputable def f104_ann : Nat → Option LAnn := fun key => bif Nat.beq key 3 then some f104_l3_a else none
noncomputable def f104_l3_b : Code := loopAt f104_b 0
noncomputable def f104_l3_g {R : Type} (k : Nat) (x : (Unit × Int × Int × Unit × Int × Int × Unit)) (y : ((List Int × Unit × Int × Int × Int × Unit) × (Int × Int × Int × Int × Bool × Unit) × Unit)) (K : KX R) : Option R := f104_l3 k x.2.1 x.2.2.1 x.2.2.2.2.1 x.2.2.2.2.2.1 y.1.1 y.1.2.2.1 y.1.2.2.2.1 y.1.2.2.2.2.1 y.2.1.1 y.2.1.2.1 y.2.1.2.2.1 y.2.1.2.2.2.1 y.2.1.2.2.2.2.1 (fun z0 z1 z2 z3 z4 z5 z6 z7 z8 z9 z10 z11 => K (.exit 1) [.ptr 0 0, .int .i64 z0, .int .i64 z1, .ptr 65728 0, .int .i64 z2] [some (.box [.list (.int .u8) z3, .nil, .int .i64 z4, .int .i64 z5, .int .i64 z6]), some (.box [.int .i64 z7, .int .i64 z8, .int .i64 z9, .int .i64 z10, .bool z11])])
noncomputable def f104_l3_d {R : Type} (k : Nat) : Lr D R := ldoor [.ptr 0 0, .int .i64, .int .i64, .ptr 65728 0, .int .i64, .int .i64] [some (.box [.list (.int .u8), .nil, .int .i64, .int .i64, .int .i64]), some (.box [.int .i64, .int .i64, .int .i64, .int .i64, .bool])] (f104_l3_g k)
noncomputable def f104_l3_r {R : Type} (_k : Nat) : Lrc D R := noLrc
theorem f104_l3_d_ok {R : Type} : ∀ k, LoopOk Try.prog cx 76 1 f104_ann (f104_l3_d (R := R) k) f104_l3_b :=
  loop_ok (keep := kp) (lrc := f104_l3_r (R := R)) cxOk mixed (f104_o_ok) (show f104_ann (Am.keyOf f104_l3_b) = some f104_l3_a by kernel_rfl) (L := []) (by kernel_rfl) (fun _k => trivial) (J := []) (by kernel_rfl) (fun _k => trivial) (fun _k => LrcNat.no) (fun _x _y _K => by kernel_rfl) (fun _k _x _y _K => by kernel_rfl)
noncomputable def f104_r {R : Type} (k : Nat) : Lrc D R := (lrcAdd 3 (f104_l3_d k) noLrc)
theorem f104_ok {R : Type} (k : Nat) {e : Dr D R} (he : FnOk Try.prog cx 104 e) : FnOk Try.prog cx 104 (f104_d (f104 k) e) :=
  he.door fun _x _y => body_ok (keep := kp) (ann := f104_ann) (lrc := f104_r (R := R) k) (N := 76) (n0 := 1) (c := []) cxOk mixed (f104_o_ok k) (body := f104_b) (by kernel_rfl : Try.prog.funcs[104]? = some Try.f104) (by kernel_rfl) (by kernel_rfl) (by kernel_rfl) (by kernel_rfl) (of_decide_eq_true (by kernel_rfl)) (L := [f104_l3_b]) (by kernel_rfl) (⟨(f104_l3_d_ok k).use (by kernel_rfl), trivial⟩) (J := []) (by kernel_rfl) trivial ((LrcNat.add (f104_l3_d_ok k).2 LrcNat.no)) (fun _K => by delta f104 f104_o; generalize @f105 R = a0; generalize @f94 R = a1; revert a0 a1; refine id ?_; intros; kernel_rfl)

abbrev f105_2_T (R : Type) : Type := Int → Int → List Int → Int → Int → Int → List D1 → (List Int → Int → Int → Int → List D1 → Option R) → Option R
/-! ## 105: (*diorama/dioramaref04.walker).fail -/
noncomputable def f105_2 {R : Type} (_k : Nat) (a0 a1 : Int) (a2 : List Int) (a3 a4 a5 : Int) (a6 : List D1) (K : List Int → Int → Int → Int → List D1 → Option R) : Option R :=
 bif (a4 == 0) then
  K a2 a3 a1 a0 a6
 else
  K a2 a3 a4 a5 a6
noncomputable def f105_2_d {R : Type} (g : f105_2_T R) (e : Dr D R) : Dr D R := door [.ptr 0 0, .int .i64, .int .i64] [.box [.list (.int .u8), .own 1, .int .i64, .int .i64, .int .i64], .row (.named 1) true] (fun (x : (Unit × Int × Int × Unit)) (y : ((List Int × Unit × Int × Int × Int × Unit) × List D1 × Unit)) K => g x.2.1 x.2.2.1 y.1.1 y.1.2.2.1 y.1.2.2.2.1 y.1.2.2.2.2.1 y.2.1 (fun z0 z1 z2 z3 z4 => K ⟨.tup [], [some (.box [.list (.int .u8) z0, .own 1, .int .i64 z1, .int .i64 z2, .int .i64 z3]), some (.row (.named 1) z4 true)]⟩)) e
noncomputable def f105_2_o {R : Type} (_k : Nat) : Orc D R := noOrc
theorem f105_2_o_ok {R : Type} (k : Nat) : OrcOk Try.prog cx (f105_2_o (R := R) k) := OrcOk.no
noncomputable def f105_2_b : Code := bodyOf Try.f105
noncomputable def f105_2_ann : Nat → Option LAnn := fun _key => none
noncomputable def f105_2_r {R : Type} (_k : Nat) : Lrc D R := noLrc
theorem f105_2_ok {R : Type} (k : Nat) {e : Dr D R} (he : FnOk Try.prog cx 105 e) : FnOk Try.prog cx 105 (f105_2_d (f105_2 k) e) :=
  he.door fun _x _y => body_ok (keep := kp) (ann := f105_2_ann) (lrc := f105_2_r (R := R) k) (N := 19) (n0 := 2) (c := []) cxOk mixed (f105_2_o_ok k) (body := f105_2_b) (by kernel_rfl : Try.prog.funcs[105]? = some Try.f105) (by kernel_rfl) (by kernel_rfl) (by kernel_rfl) (by kernel_rfl) (of_decide_eq_true (by kernel_rfl)) (L := []) (by kernel_rfl) trivial (J := []) (by kernel_rfl) trivial (LrcNat.no) (fun _K => by kernel_rfl)

abbrev f102_2_T (R : Type) : Type := Int → List Int → Int → Int → Int → List D1 → (Int → Int → Int → Bool → Bool → List Int → Int → Int → Int → List D1 → Option R) → Option R
/-! ## 102: (*diorama/dioramaref04.walker).head -/
noncomputable def f102_2 {R : Type} (k : Nat) (a0 : Int) (a1 : List Int) (a2 a3 a4 : Int) (a5 : List D1) (K : Int → Int → Int → Bool → Bool → List Int → Int → Int → Int → List D1 → Option R) : Option R :=
 bif inb a0 a1.length then
  f65 k (a1.getD a0.toNat 0) (fun v1 =>
   bif (v1 == 0) then
    f105_2 k a0 40 a1 a2 a3 a4 a5 (fun v2 v3 v4 v5 v6 =>
     K 0 0 0 false false v2 v3 v4 v5 v6)
   else
    bif decide (v1 ≥ (IntKind.i64.wrap ((a1.length : Int) - a0))) then
     f105_2 k a0 3 a1 a2 a3 a4 a5 (fun v7 v8 v9 v10 v11 =>
      K 0 0 0 false false v7 v8 v9 v10 v11)
    else
     f30 k a1 a0 (fun v12 _v13 v14 =>
      bif (v14 != 0) then
      f105_2 k a0 v14 a1 a2 a3 a4 a5 (fun v15 v16 v17 v18 v19 =>
      K 0 0 0 false false v15 v16 v17 v18 v19)
      else
      bif inb (IntKind.i64.wrap (a0 + v1)) a1.length then
      bif ((a1.getD ((IntKind.i64.wrap (a0 + v1)).toNat) 0) == 0) then
      f105_2 k a0 4 a1 a2 a3 a4 a5 (fun v20 v21 v22 v23 v24 =>
      K 0 0 0 false false v20 v21 v22 v23 v24)
      else
      f109 k a1 (IntKind.i64.wrap (a0 + v1)) (fun v25 v26 v27 v28 =>
      bif (v28 != 0) then
      f105_2 k a0 3 a1 a2 a3 a4 a5 (fun v29 v30 v31 v32 v33 =>
      K 0 0 0 false false v29 v30 v31 v32 v33)
      else
      K v12 (IntKind.i64.wrap (v1 + v26)) v25 v27 true a1 a2 a3 a4 a5)
      else
      none))
 else
  none
noncomputable def f102_2_d {R : Type} (g : f102_2_T R) (e : Dr D R) : Dr D R := door [.ptr 0 0, .int .i64] [.box [.list (.int .u8), .own 1, .int .i64, .int .i64, .int .i64], .row (.named 1) true] (fun (x : (Unit × Int × Unit)) (y : ((List Int × Unit × Int × Int × Int × Unit) × List D1 × Unit)) K => g x.2.1 y.1.1 y.1.2.2.1 y.1.2.2.2.1 y.1.2.2.2.2.1 y.2.1 (fun z0 z1 z2 z3 z4 z5 z6 z7 z8 z9 => K ⟨.tup [.agg [.int .i64 z0, .int .i64 z1, .int .i64 z2, .bool z3], .bool z4], [some (.box [.list (.int .u8) z5, .own 1, .int .i64 z6, .int .i64 z7, .int .i64 z8]), some (.row (.named 1) z9 true)]⟩)) e
noncomputable def f102_2_o {R : Type} (k : Nat) : Orc D R := (orcAdd 105 (f105_2_d (f105_2 k) noDr) (orcAdd 109 (f109_d (f109 k) noDr) (orcAdd 30 (f30_d (f30 k) noDr) (orcAdd 65 (f65_d (f65 k) noDr) noOrc))))
theorem f102_2_o_ok {R : Type} (k : Nat) : OrcOk Try.prog cx (f102_2_o (R := R) k) := (OrcOk.add (f105_2_ok k FnOk.no) (OrcOk.add (f109_ok k FnOk.no) (OrcOk.add (f30_ok k FnOk.no) (OrcOk.add (f65_ok k FnOk.no) OrcOk.no))))
noncomputable def f102_2_b : Code := bodyOf Try.f102
noncomputable def f102_2_ann : Nat → Option LAnn := fun _key => none
noncomputable def f102_2_r {R : Type} (_k : Nat) : Lrc D R := noLrc
theorem f102_2_ok {R : Type} (k : Nat) {e : Dr D R} (he : FnOk Try.prog cx 102 e) : FnOk Try.prog cx 102 (f102_2_d (f102_2 k) e) :=
  he.door fun _x _y => body_ok (keep := kp) (ann := f102_2_ann) (lrc := f102_2_r (R := R) k) (N := 89) (n0 := 2) (c := []) cxOk mixed (f102_2_o_ok k) (body := f102_2_b) (by kernel_rfl : Try.prog.funcs[102]? = some Try.f102) (by kernel_rfl) (by kernel_rfl) (by kernel_rfl) (by kernel_rfl) (of_decide_eq_true (by kernel_rfl)) (L := []) (by kernel_rfl) trivial (J := []) (by kernel_rfl) trivial (LrcNat.no) (fun _K => by delta f102_2 f102_2_o; generalize @f65 R = a0; generalize @f30 R = a1; generalize @f109 R = a2; generalize @f105_2 R = a3; revert a0 a1 a2 a3; refine id ?_; intros; kernel_rfl)

abbrev f103_2_T (R : Type) : Type := Int → Int → Int → Int → Bool → Int → ByteArray → Int → Bool → Bool → Int → Int → Int → Int → Bool → List Int → Int → Int → Int → List D1 → (Int → List Int → Int → Int → Int → List D1 → Option R) → Option R
/-! ## 103: (*diorama/dioramaref04.walker).size -/
noncomputable def f103_2 {R : Type} (k : Nat) (a0 _a1 a2 a3 : Int) (a4 : Bool) (_a5 : Int) (_a6 : ByteArray) (_a7 : Int) (_a8 a9 : Bool) (_a10 _a11 a12 _a13 : Int) (_a14 : Bool) (a15 : List Int) (a16 a17 a18 : Int) (a19 : List D1) (K : Int → List Int → Int → Int → Int → List D1 → Option R) : Option R :=
 bif decide (a12 ≥ 0) then
  bif decide ((IntKind.i64.wrap (a0 + a2)) > a12) then
   f105_2 k a0 41 a15 a16 a17 a18 a19 (fun v1 v2 v3 v4 v5 =>
    K (-1) v1 v2 v3 v4 v5)
  else
   bif a4 then
    bif (!a9) then
     f105_2 k a0 41 a15 a16 a17 a18 a19 (fun v6 v7 v8 v9 v10 =>
      K (-1) v6 v7 v8 v9 v10)
    else
     bif a4 then
      K (-1) a15 a16 a17 a18 a19
     else
      bif decide (a12 ≥ 0) then
      bif decide (a3 > (IntKind.i64.wrap (a12 - (IntKind.i64.wrap (a0 + a2))))) then
      f105_2 k a0 41 a15 a16 a17 a18 a19 (fun v11 v12 v13 v14 v15 =>
      K (-1) v11 v12 v13 v14 v15)
      else
      bif decide (a3 > (IntKind.i64.wrap ((a15.length : Int) - (IntKind.i64.wrap (a0 + a2))))) then
      f105_2 k a0 3 a15 a16 a17 a18 a19 (fun v16 v17 v18 v19 v20 =>
      K (-1) v16 v17 v18 v19 v20)
      else
      K (IntKind.i64.wrap ((IntKind.i64.wrap (a0 + a2)) + a3)) a15 a16 a17 a18 a19
      else
      bif decide (a3 > (IntKind.i64.wrap ((a15.length : Int) - (IntKind.i64.wrap (a0 + a2))))) then
      f105_2 k a0 3 a15 a16 a17 a18 a19 (fun v21 v22 v23 v24 v25 =>
      K (-1) v21 v22 v23 v24 v25)
      else
      K (IntKind.i64.wrap ((IntKind.i64.wrap (a0 + a2)) + a3)) a15 a16 a17 a18 a19
   else
    bif a4 then
     K (-1) a15 a16 a17 a18 a19
    else
     bif decide (a12 ≥ 0) then
      bif decide (a3 > (IntKind.i64.wrap (a12 - (IntKind.i64.wrap (a0 + a2))))) then
      f105_2 k a0 41 a15 a16 a17 a18 a19 (fun v26 v27 v28 v29 v30 =>
      K (-1) v26 v27 v28 v29 v30)
      else
      bif decide (a3 > (IntKind.i64.wrap ((a15.length : Int) - (IntKind.i64.wrap (a0 + a2))))) then
      f105_2 k a0 3 a15 a16 a17 a18 a19 (fun v31 v32 v33 v34 v35 =>
      K (-1) v31 v32 v33 v34 v35)
      else
      K (IntKind.i64.wrap ((IntKind.i64.wrap (a0 + a2)) + a3)) a15 a16 a17 a18 a19
     else
      bif decide (a3 > (IntKind.i64.wrap ((a15.length : Int) - (IntKind.i64.wrap (a0 + a2))))) then
      f105_2 k a0 3 a15 a16 a17 a18 a19 (fun v36 v37 v38 v39 v40 =>
      K (-1) v36 v37 v38 v39 v40)
      else
      K (IntKind.i64.wrap ((IntKind.i64.wrap (a0 + a2)) + a3)) a15 a16 a17 a18 a19
 else
  bif a4 then
   bif (!a9) then
    f105_2 k a0 41 a15 a16 a17 a18 a19 (fun v41 v42 v43 v44 v45 =>
     K (-1) v41 v42 v43 v44 v45)
   else
    bif a4 then
     K (-1) a15 a16 a17 a18 a19
    else
     bif decide (a12 ≥ 0) then
      bif decide (a3 > (IntKind.i64.wrap (a12 - (IntKind.i64.wrap (a0 + a2))))) then
      f105_2 k a0 41 a15 a16 a17 a18 a19 (fun v46 v47 v48 v49 v50 =>
      K (-1) v46 v47 v48 v49 v50)
      else
      bif decide (a3 > (IntKind.i64.wrap ((a15.length : Int) - (IntKind.i64.wrap (a0 + a2))))) then
      f105_2 k a0 3 a15 a16 a17 a18 a19 (fun v51 v52 v53 v54 v55 =>
      K (-1) v51 v52 v53 v54 v55)
      else
      K (IntKind.i64.wrap ((IntKind.i64.wrap (a0 + a2)) + a3)) a15 a16 a17 a18 a19
     else
      bif decide (a3 > (IntKind.i64.wrap ((a15.length : Int) - (IntKind.i64.wrap (a0 + a2))))) then
      f105_2 k a0 3 a15 a16 a17 a18 a19 (fun v56 v57 v58 v59 v60 =>
      K (-1) v56 v57 v58 v59 v60)
      else
      K (IntKind.i64.wrap ((IntKind.i64.wrap (a0 + a2)) + a3)) a15 a16 a17 a18 a19
  else
   bif a4 then
    K (-1) a15 a16 a17 a18 a19
   else
    bif decide (a12 ≥ 0) then
     bif decide (a3 > (IntKind.i64.wrap (a12 - (IntKind.i64.wrap (a0 + a2))))) then
      f105_2 k a0 41 a15 a16 a17 a18 a19 (fun v61 v62 v63 v64 v65 =>
      K (-1) v61 v62 v63 v64 v65)
     else
      bif decide (a3 > (IntKind.i64.wrap ((a15.length : Int) - (IntKind.i64.wrap (a0 + a2))))) then
      f105_2 k a0 3 a15 a16 a17 a18 a19 (fun v66 v67 v68 v69 v70 =>
      K (-1) v66 v67 v68 v69 v70)
      else
      K (IntKind.i64.wrap ((IntKind.i64.wrap (a0 + a2)) + a3)) a15 a16 a17 a18 a19
    else
     bif decide (a3 > (IntKind.i64.wrap ((a15.length : Int) - (IntKind.i64.wrap (a0 + a2))))) then
      f105_2 k a0 3 a15 a16 a17 a18 a19 (fun v71 v72 v73 v74 v75 =>
      K (-1) v71 v72 v73 v74 v75)
     else
      K (IntKind.i64.wrap ((IntKind.i64.wrap (a0 + a2)) + a3)) a15 a16 a17 a18 a19
noncomputable def f103_2_d {R : Type} (g : f103_2_T R) (e : Dr D R) : Dr D R := door [.ptr 0 0, .int .i64, .agg [.int .i64, .int .i64, .int .i64, .bool], .agg [.int .i64, .str, .int .i64, .bool, .bool], .agg [.int .i64, .int .i64, .int .i64, .int .i64, .bool]] [.box [.list (.int .u8), .own 1, .int .i64, .int .i64, .int .i64], .row (.named 1) true] (fun (x : (Unit × Int × (Int × Int × Int × Bool × Unit) × (Int × ByteArray × Int × Bool × Bool × Unit) × (Int × Int × Int × Int × Bool × Unit) × Unit)) (y : ((List Int × Unit × Int × Int × Int × Unit) × List D1 × Unit)) K => g x.2.1 x.2.2.1.1 x.2.2.1.2.1 x.2.2.1.2.2.1 x.2.2.1.2.2.2.1 x.2.2.2.1.1 x.2.2.2.1.2.1 x.2.2.2.1.2.2.1 x.2.2.2.1.2.2.2.1 x.2.2.2.1.2.2.2.2.1 x.2.2.2.2.1.1 x.2.2.2.2.1.2.1 x.2.2.2.2.1.2.2.1 x.2.2.2.2.1.2.2.2.1 x.2.2.2.2.1.2.2.2.2.1 y.1.1 y.1.2.2.1 y.1.2.2.2.1 y.1.2.2.2.2.1 y.2.1 (fun z0 z1 z2 z3 z4 z5 => K ⟨.int .i64 z0, [some (.box [.list (.int .u8) z1, .own 1, .int .i64 z2, .int .i64 z3, .int .i64 z4]), some (.row (.named 1) z5 true)]⟩)) e
noncomputable def f103_2_o {R : Type} (k : Nat) : Orc D R := (orcAdd 105 (f105_2_d (f105_2 k) noDr) noOrc)
theorem f103_2_o_ok {R : Type} (k : Nat) : OrcOk Try.prog cx (f103_2_o (R := R) k) := (OrcOk.add (f105_2_ok k FnOk.no) OrcOk.no)
noncomputable def f103_2_b : Code := bodyOf Try.f103
noncomputable def f103_2_ann : Nat → Option LAnn := fun _key => none
noncomputable def f103_2_r {R : Type} (_k : Nat) : Lrc D R := noLrc
theorem f103_2_ok {R : Type} (k : Nat) {e : Dr D R} (he : FnOk Try.prog cx 103 e) : FnOk Try.prog cx 103 (f103_2_d (f103_2 k) e) :=
  he.door fun _x _y => body_ok (keep := kp) (ann := f103_2_ann) (lrc := f103_2_r (R := R) k) (N := 71) (n0 := 2) (c := []) cxOk mixed (f103_2_o_ok k) (body := f103_2_b) (by kernel_rfl : Try.prog.funcs[103]? = some Try.f103) (by kernel_rfl) (by kernel_rfl) (by kernel_rfl) (by kernel_rfl) (of_decide_eq_true (by kernel_rfl)) (L := []) (by kernel_rfl) trivial (J := []) (by kernel_rfl) trivial (LrcNat.no) (fun _K => by delta f103_2 f103_2_o; generalize @f105_2 R = a0; revert a0; refine id ?_; intros; kernel_rfl)


end Go.Proofs.Ytklhjegfkpmdoaa

/-! What the functions do, as plain functions; and that they do. -/
namespace Go.Proofs.Ytklhjegfkpmdoaa
open Go Go.Am
abbrev f104_2_T (R : Type) : Type := Int → Int → Int → Int → Int → Int → Int → Int → Bool → List Int → Int → Int → Int → List D1 → (List Int → Int → Int → Int → List D1 → Option R) → Option R
/-! ## 104: (*diorama/dioramaref04.walker).sum -/
noncomputable def f104_2_l3 {R : Type} : Nat → Int → Int → Int → Int → List Int → Int → Int → Int → List D1 → Int → Int → Int → Int → Bool → (Int → Int → Int → List Int → Int → Int → Int → List D1 → Int → Int → Int → Int → Bool → Option R) → Option R
  | 0, _, _, _, _, _, _, _, _, _, _, _, _, _, _, _ => none
  | k + 1, v26, v27, v28, v29, v30, v31, v32, v33, v34, v35, v36, v37, v38, v39, X0 =>
  bif decide (v29 < v27) then
   bif inb v29 v30.length then
    f104_2_l3 k v26 v27 (IntKind.i64.wrap ((IntKind.i64.wrap (v28 * 256)) + (IntKind.i64.wrap ((v30.getD v29.toNat 0))))) (IntKind.i64.wrap (v29 + 1)) v30 v31 v32 v33 v34 v35 v36 v37 v38 v39 X0
   else
    none
  else
   X0 v26 v27 v28 v30 v31 v32 v33 v34 v35 v36 v37 v38 v39
noncomputable def f104_2 {R : Type} (k : Nat) (a0 a1 a2 a3 a4 a5 a6 a7 : Int) (a8 : Bool) (a9 : List Int) (a10 a11 a12 : Int) (a13 : List D1) (K : List Int → Int → Int → Int → List D1 → Option R) : Option R :=
 bif (a4 == 0) then
  f105_2 k a0 42 a9 a10 a11 a12 a13 K
 else
  bif decide (a3 > 0) then
   f105_2 k a0 42 a9 a10 a11 a12 a13 K
  else
   bif decide (a7 > 8) then
    f105_2 k a0 43 a9 a10 a11 a12 a13 K
   else
    bif a8 then
     f105_2 k a0 4 a9 a10 a11 a12 a13 K
    else
     bif ((IntKind.i64.wrap (a2 - a1)) != 4) then
      f105_2 k a0 4 a9 a10 a11 a12 a13 K
     else
      f104_2_l3 k a0 a2 0 a1 a9 a10 a11 a12 a13 a4 a5 a6 a7 a8 (fun v40 v41 v42 v43 v44 v45 v46 v47 _v48 v49 _v50 _v51 _v52 =>
      bif upto v49 v43.length then
      bif (decide (0 ≤ v41)) && (decide (v41 ≤ v49)) then
      f94 k ((v43.take v49.toNat).drop v41.toNat) (fun v53 =>
      bif (v42 != (IntKind.i64.wrap (v53))) then
      f105_2 k v40 6 v43 v44 v45 v46 v47 K
      else
      K v43 v44 v45 v46 v47)
      else
      none
      else
      none)
noncomputable def f104_2_d {R : Type} (g : f104_2_T R) (e : Dr D R) : Dr D R := door [.ptr 0 0, .int .i64, .int .i64, .int .i64, .int .i64, .agg [.int .i64, .int .i64, .int .i64, .int .i64, .bool]] [.box [.list (.int .u8), .own 1, .int .i64, .int .i64, .int .i64], .row (.named 1) true] (fun (x : (Unit × Int × Int × Int × Int × (Int × Int × Int × Int × Bool × Unit) × Unit)) (y : ((List Int × Unit × Int × Int × Int × Unit) × List D1 × Unit)) K => g x.2.1 x.2.2.1 x.2.2.2.1 x.2.2.2.2.1 x.2.2.2.2.2.1.1 x.2.2.2.2.2.1.2.1 x.2.2.2.2.2.1.2.2.1 x.2.2.2.2.2.1.2.2.2.1 x.2.2.2.2.2.1.2.2.2.2.1 y.1.1 y.1.2.2.1 y.1.2.2.2.1 y.1.2.2.2.2.1 y.2.1 (fun z0 z1 z2 z3 z4 => K ⟨.tup [], [some (.box [.list (.int .u8) z0, .own 1, .int .i64 z1, .int .i64 z2, .int .i64 z3]), some (.row (.named 1) z4 true)]⟩)) e
noncomputable def f104_2_o {R : Type} (k : Nat) : Orc D R := (orcAdd 105 (f105_2_d (f105_2 k) noDr) (orcAdd 94 (f94_d (f94 k) noDr) noOrc))
theorem f104_2_o_ok {R : Type} (k : Nat) : OrcOk Try.prog cx (f104_2_o (R := R) k) := (OrcOk.add (f105_2_ok k FnOk.no) (OrcOk.add (f94_ok k FnOk.no) OrcOk.no))
noncomputable def f104_2_b : Code := bodyOf Try.f104
noncomputable def f104_2_l3_a : LAnn := ⟨⟨[], [0, 1, 3, 11, 12, 13], [0, 1, 65728]⟩, exOf (none) [(1, ⟨[], [0, 1, 3, 11, 12], [0, 1, 65728]⟩)]⟩
noncomputable def f104_2_ann : Nat → Option LAnn := fun key => bif Nat.beq key 3 then some f104_2_l3_a else none
noncomputable def f104_2_l3_b : Code := loopAt f104_2_b 0
noncomputable def f104_2_l3_g {R : Type} (k : Nat) (x : (Unit × Int × Int × Unit × Int × Int × Unit)) (y : ((List Int × Unit × Int × Int × Int × Unit) × List D1 × (Int × Int × Int × Int × Bool × Unit) × Unit)) (K : KX R) : Option R := f104_2_l3 k x.2.1 x.2.2.1 x.2.2.2.2.1 x.2.2.2.2.2.1 y.1.1 y.1.2.2.1 y.1.2.2.2.1 y.1.2.2.2.2.1 y.2.1 y.2.2.1.1 y.2.2.1.2.1 y.2.2.1.2.2.1 y.2.2.1.2.2.2.1 y.2.2.1.2.2.2.2.1 (fun z0 z1 z2 z3 z4 z5 z6 z7 z8 z9 z10 z11 z12 => K (.exit 1) [.ptr 0 0, .int .i64 z0, .int .i64 z1, .ptr 65728 0, .int .i64 z2] [some (.box [.list (.int .u8) z3, .own 1, .int .i64 z4, .int .i64 z5, .int .i64 z6]), some (.row (.named 1) z7 true), some (.box [.int .i64 z8, .int .i64 z9, .int .i64 z10, .int .i64 z11, .bool z12])])
noncomputable def f104_2_l3_d {R : Type} (k : Nat) : Lr D R := ldoor [.ptr 0 0, .int .i64, .int .i64, .ptr 65728 0, .int .i64, .int .i64] [some (.box [.list (.int .u8), .own 1, .int .i64, .int .i64, .int .i64]), some (.row (.named 1) true), some (.box [.int .i64, .int .i64, .int .i64, .int .i64, .bool])] (f104_2_l3_g k)
noncomputable def f104_2_l3_r {R : Type} (_k : Nat) : Lrc D R := noLrc
theorem f104_2_l3_d_ok {R : Type} : ∀ k, LoopOk Try.prog cx 76 2 f104_2_ann (f104_2_l3_d (R := R) k) f104_2_l3_b :=
  loop_ok (keep := kp) (lrc := f104_2_l3_r (R := R)) cxOk mixed (f104_2_o_ok) (show f104_2_ann (Am.keyOf f104_2_l3_b) = some f104_2_l3_a by kernel_rfl) (L := []) (by kernel_rfl) (fun _k => trivial) (J := []) (by kernel_rfl) (fun _k => trivial) (fun _k => LrcNat.no) (fun _x _y _K => by kernel_rfl) (fun _k _x _y _K => by kernel_rfl)
noncomputable def f104_2_r {R : Type} (k : Nat) : Lrc D R := (lrcAdd 3 (f104_2_l3_d k) noLrc)
theorem f104_2_ok {R : Type} (k : Nat) {e : Dr D R} (he : FnOk Try.prog cx 104 e) : FnOk Try.prog cx 104 (f104_2_d (f104_2 k) e) :=
  he.door fun _x _y => body_ok (keep := kp) (ann := f104_2_ann) (lrc := f104_2_r (R := R) k) (N := 76) (n0 := 2) (c := []) cxOk mixed (f104_2_o_ok k) (body := f104_2_b) (by kernel_rfl : Try.prog.funcs[104]? = some Try.f104) (by kernel_rfl) (by kernel_rfl) (by kernel_rfl) (by kernel_rfl) (of_decide_eq_true (by kernel_rfl)) (L := [f104_2_l3_b]) (by kernel_rfl) (⟨(f104_2_l3_d_ok k).use (by kernel_rfl), trivial⟩) (J := []) (by kernel_rfl) trivial ((LrcNat.add (f104_2_l3_d_ok k).2 LrcNat.no)) (fun _K => by delta f104_2 f104_2_o; generalize @f94 R = a0; generalize @f105_2 R = a1; revert a0 a1; refine id ?_; intros; kernel_rfl)


end Go.Proofs.Ytklhjegfkpmdoaa

/-! What the functions do, as plain functions; and that they do. -/
namespace Go.Proofs.Ytklhjegfkpmdoaa
open Go Go.Am
abbrev f89_2_T (R : Type) : Type := Int → Int → Int → Int → Int → Bool → List Int → Int → Int → Int → List D1 → (Int → List Int → Int → Int → Int → List D2 → List D1 → Option R) → Option R
/-! ## 89: (*diorama/dioramaref04.walker).list -/
noncomputable def f89_2_j8 {R : Type} (_g_f89_2 : Nat → f89_2_T R) (_k : Nat) (v37 v38 v39 : Int) (v40 v41 : Bool) (v42 : List Int) (v43 v44 v45 : Int) (v46 : List D1) (v47 v48 v49 v50 : Int) (v51 : Bool) (v52 : List D2) (v53 : Int) (v54 : ByteArray) (v55 : Int) (v56 v57 : Bool) (X0 : Int → Int → Int → Bool → List Int → Int → Int → Int → List D1 → Int → Int → Int → Int → Bool → List D2 → Int → ByteArray → Int → Bool → Bool → Option R) (X1 : Int → List D2 → List Int → Int → Int → Int → List D1 → Option R) : Option R :=
 bif v41 then
  X1 v37 v52 v42 v43 v44 v45 v46
 else
  X0 v37 v38 v39 v40 v42 v43 v44 v45 v46 v47 v48 v49 v50 v51 v52 v53 v54 v55 v56 v57
noncomputable def f89_2_j16 {R : Type} (_g_f89_2 : Nat → f89_2_T R) (k : Nat) (v146 v147 v148 : Int) (v149 : Bool) (v150 : Int) (v151 : Bool) (v152 : List Int) (v153 v154 v155 : Int) (v156 : List D1) (v157 v158 v159 v160 : Int) (v161 : Bool) (v162 : List D2) (v163 : Int) (v164 : ByteArray) (v165 : Int) (v166 v167 : Bool) (v168 v169 v170 : Int) (v171 : Bool) (X0 : Int → Int → Int → Bool → Int → List Int → Int → Int → Int → List D1 → Int → Int → Int → Int → Bool → List D2 → Int → ByteArray → Int → Bool → Bool → Int → Int → Int → Bool → Option R) : Option R :=
 bif v151 then
  f105_2 k v146 42 v152 v153 v154 v155 v156 (fun v172 v173 v174 v175 v176 =>
   X0 v146 v147 v148 v149 v150 v172 v173 v174 v175 v176 v157 v158 v159 v160 v161 v162 v163 v164 v165 v166 v167 v168 v169 v170 v171)
 else
  bif decide (v160 > 8) then
   f105_2 k v146 43 v152 v153 v154 v155 v156 (fun v177 v178 v179 v180 v181 =>
    X0 v146 v147 v148 v149 v150 v177 v178 v179 v180 v181 v157 v158 v159 v160 v161 v162 v163 v164 v165 v166 v167 v168 v169 v170 v171)
  else
   X0 v146 v147 v148 v149 v150 v152 v153 v154 v155 v156 v157 v158 v159 v160 v161 v162 v163 v164 v165 v166 v167 v168 v169 v170 v171
noncomputable def f89_2_j14 {R : Type} (g_f89_2 : Nat → f89_2_T R) (k : Nat) (v114 v115 v116 : Int) (v117 : Bool) (v118 : Int) (v119 : Bool) (v120 : List Int) (v121 v122 v123 : Int) (v124 : List D1) (v125 v126 v127 v128 : Int) (v129 : Bool) (v130 : List D2) (v131 : Int) (v132 : ByteArray) (v133 : Int) (v134 v135 : Bool) (v136 v137 v138 : Int) (v139 : Bool) (X0 : Int → Int → Int → Bool → Int → List Int → Int → Int → Int → List D1 → Int → Int → Int → Int → Bool → List D2 → Int → ByteArray → Int → Bool → Bool → Int → Int → Int → Bool → Option R) : Option R :=
 bif v119 then
  f104_2 k v114 (IntKind.i64.wrap (v114 + v137)) v118 v115 v125 v126 v127 v128 v129 v120 v121 v122 v123 v124 (fun v140 v141 v142 v143 v144 =>
   X0 v114 v115 v116 v117 v118 v140 v141 v142 v143 v144 v125 v126 v127 v128 v129 v130 v131 v132 v133 v134 v135 v136 v137 v138 v139)
 else
  bif v117 then
   bif (v116 != 236) then
    f98 k v131 v132 v133 v134 v135 v125 (fun v145 =>
     f89_2_j16 g_f89_2 k v114 v115 v116 v117 v118 (!v145) v120 v121 v122 v123 v124 v125 v126 v127 v128 v129 v130 v131 v132 v133 v134 v135 v136 v137 v138 v139 X0)
   else
    f89_2_j16 g_f89_2 k v114 v115 v116 v117 v118 false v120 v121 v122 v123 v124 v125 v126 v127 v128 v129 v130 v131 v132 v133 v134 v135 v136 v137 v138 v139 X0
  else
   f89_2_j16 g_f89_2 k v114 v115 v116 v117 v118 false v120 v121 v122 v123 v124 v125 v126 v127 v128 v129 v130 v131 v132 v133 v134 v135 v136 v137 v138 v139 X0
noncomputable def f89_2_j33 {R : Type} (g_f89_2 : Nat → f89_2_T R) (k : Nat) (v387 v388 : Int) (v389 : Bool) (v390 : Int) (v391 : List Int) (v392 v393 v394 : Int) (v395 : List D1) (v396 v397 v398 v399 : Int) (v400 : Bool) (v401 : List D2) (v402 v403 v404 : Int) (v405 : Bool) (v406 : Int) (v407 : Bool) (v408 v409 v410 v411 : Int) (v412 : Bool) (X0 : Int → Int → Bool → Int → Int → List Int → Int → Int → Int → List D1 → Int → Int → Int → Int → Bool → List D2 → Int → Int → Int → Bool → Int → Bool → List D2 → Option R) : Option R :=
 g_f89_2 k (IntKind.i64.wrap (v387 + v403)) v408 v409 v410 v411 v412 v391 v392 v393 v394 v395 (fun v413 v414 v415 v416 v417 v418 v419 =>
  X0 v387 v388 v389 v390 v413 v414 v415 v416 v417 v419 v396 v397 v398 v399 v400 v401 v402 v403 v404 v405 v406 v407 v418)
noncomputable def f89_2_j30 {R : Type} (g_f89_2 : Nat → f89_2_T R) (k : Nat) (v362 v363 v364 v365 : Int) (v366 : Bool) (v367 v368 : Int) (v369 : Bool) (v370 : List Int) (v371 v372 v373 : Int) (v374 : List D1) (v375 v376 v377 v378 : Int) (v379 : Bool) (v380 : List D2) (v381 v382 v383 : Int) (v384 : Bool) (v385 : Int) (v386 : Bool) (X0 : Int → Int → Bool → Int → Int → List Int → Int → Int → Int → List D1 → Int → Int → Int → Int → Bool → List D2 → Int → Int → Int → Bool → Int → Bool → List Int → List D2 → Option R) : Option R :=
 bif v369 then
  bif v384 then
   f89_2_j33 g_f89_2 k v362 v363 v366 v367 v370 v371 v372 v373 v374 v375 v376 v377 v378 v379 v380 v381 v382 v383 v384 v385 v386 v364 v376 v377 (IntKind.i64.wrap (v378 + 1)) true (fun v420 v421 v422 v423 v424 v425 v426 v427 v428 v429 v430 v431 v432 v433 v434 v435 v436 v437 v438 v439 v440 v441 v442 =>
    X0 v420 v421 v422 v423 v424 v425 v426 v427 v428 v429 v430 v431 v432 v433 v434 v435 v436 v437 v438 v439 v440 v441 ([] : List Int) v442)
  else
   f89_2_j33 g_f89_2 k v362 v363 v366 v367 v370 v371 v372 v373 v374 v375 v376 v377 v378 v379 v380 v381 v382 v383 v384 v385 v386 v364 v365 v365 (IntKind.i64.wrap (v378 + 1)) false (fun v443 v444 v445 v446 v447 v448 v449 v450 v451 v452 v453 v454 v455 v456 v457 v458 v459 v460 v461 v462 v463 v464 v465 =>
    X0 v443 v444 v445 v446 v447 v448 v449 v450 v451 v452 v453 v454 v455 v456 v457 v458 v459 v460 v461 v462 v463 v464 ([] : List Int) v465)
 else
  bif upto v365 v370.length then
   bif (decide (0 ≤ (IntKind.i64.wrap (v362 + v382)))) && (decide ((IntKind.i64.wrap (v362 + v382)) ≤ v365)) then
    bif room 1 (((v370.take v365.toNat).drop ((IntKind.i64.wrap (v362 + v382)).toNat)).length) then
     X0 v362 v363 v366 v367 v368 v370 v371 v372 v373 v374 v375 v376 v377 v378 v379 v380 v381 v382 v383 v384 v385 v386 ((v370.take v365.toNat).drop ((IntKind.i64.wrap (v362 + v382)).toNat)) ([] : List D2)
    else
     none
   else
    none
  else
   none
noncomputable def f89_2_j35 {R : Type} (_g_f89_2 : Nat → f89_2_T R) (_k : Nat) (v490 v491 : Int) (v492 : Bool) (v493 v494 : Int) (v495 : List Int) (v496 v497 v498 : Int) (v499 : List D1) (v500 v501 v502 v503 : Int) (v504 : Bool) (v505 : List D2) (_v506 v507 _v508 : Int) (_v509 : Bool) (v510 : Int) (v511 : Bool) (v512 : List Int) (v513 : List D2) (X0 : Int → List D2 → List Int → Int → Int → Int → List D1 → Option R) (X1 : Int → Int → List Int → Int → Int → Int → List D1 → Int → Int → Int → Int → Bool → List D2 → Option R) : Option R :=
 bif (v497 != 0) then
  X0 v490 v505 v495 v496 v497 v498 v499
 else
  bif inb v493 v499.length then
   bif v492 then
    bif room 64 (v505.length + ([(D2.mk v510 v512 v513 v511)]).length) then
     X1 v494 v491 v495 v496 v497 v498 (v499.set v493.toNat ((v499.getD v493.toNat zero1).1, (v499.getD v493.toNat zero1).2.1, (v499.getD v493.toNat zero1).2.2.1, (IntKind.i64.wrap ((IntKind.i64.wrap (v494 - v490)) - v507)), (v499.getD v493.toNat zero1).2.2.2.2.1, (v499.getD v493.toNat zero1).2.2.2.2.2)) v500 v501 v502 v503 v504 (v505 ++ ([(D2.mk v510 v512 v513 v511)]))
    else
     none
   else
    X1 v494 v491 v495 v496 v497 v498 (v499.set v493.toNat ((v499.getD v493.toNat zero1).1, (v499.getD v493.toNat zero1).2.1, (v499.getD v493.toNat zero1).2.2.1, (IntKind.i64.wrap ((IntKind.i64.wrap (v494 - v490)) - v507)), (v499.getD v493.toNat zero1).2.2.2.2.1, (v499.getD v493.toNat zero1).2.2.2.2.2)) v500 v501 v502 v503 v504 v505
  else
   none
noncomputable def f89_2_j24 {R : Type} (g_f89_2 : Nat → f89_2_T R) (k : Nat) (v337 v338 v339 v340 : Int) (v341 : Bool) (v342 : List Int) (v343 v344 v345 : Int) (v346 : List D1) (v347 v348 v349 v350 : Int) (v351 : Bool) (v352 : List D2) (_v353 : Int) (_v354 : ByteArray) (_v355 : Int) (v356 _v357 : Bool) (v358 v359 v360 : Int) (v361 : Bool) (X0 : Int → List D2 → List Int → Int → Int → Int → List D1 → Option R) (X1 : Int → Int → List Int → Int → Int → Int → List D1 → Int → Int → Int → Int → Bool → List D2 → Option R) : Option R :=
 bif (v344 != 0) then
  X0 v337 v352 v342 v343 v344 v345 v346
 else
  bif room 48 (v346.length + ([(v339, v337, v359, 0, v350, v361)]).length) then
   bif v341 then
    f89_2_j30 g_f89_2 k v337 v338 v339 v340 v341 (v346.length : Int) v340 v356 v342 v343 v344 v345 (v346 ++ ([(v339, v337, v359, 0, v350, v361)])) v347 v348 v349 v350 v351 v352 v358 v359 v360 v361 v339 v356 (fun v466 v467 v468 v469 v470 v471 v472 v473 v474 v475 v476 v477 v478 v479 v480 v481 v482 v483 v484 v485 v486 v487 v488 v489 =>
     f89_2_j35 g_f89_2 k v466 v467 v468 v469 v470 v471 v472 v473 v474 v475 v476 v477 v478 v479 v480 v481 v482 v483 v484 v485 v486 v487 v488 v489 X0 X1)
   else
    f89_2_j30 g_f89_2 k v337 v338 v339 v340 v341 (v346.length : Int) v340 false v342 v343 v344 v345 (v346 ++ ([(v339, v337, v359, 0, v350, v361)])) v347 v348 v349 v350 v351 v352 v358 v359 v360 v361 v339 v356 (fun v534 v535 v536 v537 v538 v539 v540 v541 v542 v543 v544 v545 v546 v547 v548 v549 v550 v551 v552 v553 v554 v555 v556 v557 =>
     f89_2_j35 g_f89_2 k v534 v535 v536 v537 v538 v539 v540 v541 v542 v543 v544 v545 v546 v547 v548 v549 v550 v551 v552 v553 v554 v555 v556 v557 X0 X1)
  else
   none
noncomputable def f89_2_j20 {R : Type} (g_f89_2 : Nat → f89_2_T R) (k : Nat) (v307 v308 v309 v310 : Int) (v311 : Bool) (v312 : List Int) (v313 v314 v315 : Int) (v316 : List D1) (v317 v318 v319 v320 : Int) (v321 : Bool) (v322 : List D2) (v323 : Int) (v324 : ByteArray) (v325 : Int) (v326 v327 : Bool) (v328 v329 v330 : Int) (v331 : Bool) (X0 : Int → List D2 → List Int → Int → Int → Int → List D1 → Option R) (X1 : Int → Int → List Int → Int → Int → Int → List D1 → Int → Int → Int → Int → Bool → List D2 → Option R) : Option R :=
 bif v311 then
  bif decide ((IntKind.i64.wrap (v313 + 1)) > 4000) then
   f105_2 k v307 2 v312 (IntKind.i64.wrap (v313 + 1)) v314 v315 v316 (fun v332 v333 v334 v335 v336 =>
    f89_2_j24 g_f89_2 k v307 v308 v309 v310 v311 v332 v333 v334 v335 v336 v317 v318 v319 v320 v321 v322 v323 v324 v325 v326 v327 v328 v329 v330 v331 X0 X1)
  else
   f89_2_j24 g_f89_2 k v307 v308 v309 v310 v311 v312 (IntKind.i64.wrap (v313 + 1)) v314 v315 v316 v317 v318 v319 v320 v321 v322 v323 v324 v325 v326 v327 v328 v329 v330 v331 X0 X1
 else
  f89_2_j24 g_f89_2 k v307 v308 v309 v310 v311 v312 v313 v314 v315 v316 v317 v318 v319 v320 v321 v322 v323 v324 v325 v326 v327 v328 v329 v330 v331 X0 X1
noncomputable def f89_2_j19 {R : Type} (g_f89_2 : Nat → f89_2_T R) (k : Nat) (v282 v283 v284 : Int) (v285 : Bool) (v286 : Int) (v287 : List Int) (v288 v289 v290 : Int) (v291 : List D1) (v292 v293 v294 v295 : Int) (v296 : Bool) (v297 : List D2) (v298 : Int) (v299 : ByteArray) (v300 : Int) (v301 v302 : Bool) (v303 v304 v305 : Int) (v306 : Bool) (X0 : Int → List D2 → List Int → Int → Int → Int → List D1 → Option R) (X1 : Int → Int → List Int → Int → Int → Int → List D1 → Int → Int → Int → Int → Bool → List D2 → Option R) : Option R :=
 bif v285 then
  bif (v284 != 236) then
   f89_2_j20 g_f89_2 k v282 v283 v284 v286 (v284 != 237) v287 v288 v289 v290 v291 v292 v293 v294 v295 v296 v297 v298 v299 v300 v301 v302 v303 v304 v305 v306 X0 X1
  else
   f89_2_j20 g_f89_2 k v282 v283 v284 v286 false v287 v288 v289 v290 v291 v292 v293 v294 v295 v296 v297 v298 v299 v300 v301 v302 v303 v304 v305 v306 X0 X1
 else
  f89_2_j20 g_f89_2 k v282 v283 v284 v286 false v287 v288 v289 v290 v291 v292 v293 v294 v295 v296 v297 v298 v299 v300 v301 v302 v303 v304 v305 v306 X0 X1
noncomputable def f89_2_j9 {R : Type} (g_f89_2 : Nat → f89_2_T R) (k : Nat) (v78 v79 v80 : Int) (v81 : Bool) (v82 : List Int) (v83 v84 v85 : Int) (v86 : List D1) (v87 v88 v89 v90 : Int) (v91 : Bool) (v92 : List D2) (v93 : Int) (v94 : ByteArray) (v95 : Int) (v96 v97 : Bool) (X0 : Int → List D2 → List Int → Int → Int → Int → List D1 → Option R) (X1 : Int → Int → List Int → Int → Int → Int → List D1 → Int → Int → Int → Int → Bool → List D2 → Option R) : Option R :=
 f102_2 k v78 v82 v83 v84 v85 v86 (fun v98 v99 v100 v101 v102 v103 v104 v105 v106 v107 =>
  bif (!v102) then
   X0 v78 v92 v103 v104 v105 v106 v107
  else
   f103_2 k v78 v98 v99 v100 v101 v93 v94 v95 v96 v97 v87 v88 v89 v90 v91 v103 v104 v105 v106 v107 (fun v108 v109 v110 v111 v112 v113 =>
    bif (v111 != 0) then
     X0 v78 v92 v109 v110 v111 v112 v113
    else
     bif v81 then
      f89_2_j14 g_f89_2 k v78 v79 v80 v81 v108 (v80 == 237) v109 v110 v111 v112 v113 v87 v88 v89 v90 v91 v92 v93 v94 v95 v96 v97 v98 v99 v100 v101 (fun v257 v258 v259 v260 v261 v262 v263 v264 v265 v266 v267 v268 v269 v270 v271 v272 v273 v274 v275 v276 v277 v278 v279 v280 v281 =>
      f89_2_j19 g_f89_2 k v257 v258 v259 v260 v261 v262 v263 v264 v265 v266 v267 v268 v269 v270 v271 v272 v273 v274 v275 v276 v277 v278 v279 v280 v281 X0 X1)
     else
      f89_2_j14 g_f89_2 k v78 v79 v80 v81 v108 false v109 v110 v111 v112 v113 v87 v88 v89 v90 v91 v92 v93 v94 v95 v96 v97 v98 v99 v100 v101 (fun v718 v719 v720 v721 v722 v723 v724 v725 v726 v727 v728 v729 v730 v731 v732 v733 v734 v735 v736 v737 v738 v739 v740 v741 v742 =>
      f89_2_j19 g_f89_2 k v718 v719 v720 v721 v722 v723 v724 v725 v726 v727 v728 v729 v730 v731 v732 v733 v734 v735 v736 v737 v738 v739 v740 v741 v742 X0 X1)))
noncomputable def f89_2_j5 {R : Type} (g_f89_2 : Nat → f89_2_T R) (k : Nat) (v14 v15 : Int) (v16 : List Int) (v17 v18 v19 : Int) (v20 : List D1) (v21 v22 v23 v24 : Int) (v25 : Bool) (v26 : List D2) (X0 : Int → List D2 → List Int → Int → Int → Int → List D1 → Option R) (X1 : Int → Int → List Int → Int → Int → Int → List D1 → Int → Int → Int → Int → Bool → List D2 → Option R) (X2 : Int → List D2 → List Int → Int → Int → Int → List D1 → Option R) : Option R :=
 f30 k v16 v14 (fun v27 _v28 v29 =>
  f26 k v27 (fun v30 v31 v32 v33 v34 v35 =>
   bif v25 then
    bif (v29 == 0) then
     bif v35 then
      bif (v27 != 236) then
      bif (v27 != 237) then
      f98 k v30 v31 v32 v33 v34 v21 (fun v36 =>
      f89_2_j8 g_f89_2 k v14 v15 v27 v35 (!v36) v16 v17 v18 v19 v20 v21 v22 v23 v24 v25 v26 v30 v31 v32 v33 v34 (fun v58 v59 v60 v61 v62 v63 v64 v65 v66 v67 v68 v69 v70 v71 v72 v73 v74 v75 v76 v77 =>
      f89_2_j9 g_f89_2 k v58 v59 v60 v61 v62 v63 v64 v65 v66 v67 v68 v69 v70 v71 v72 v73 v74 v75 v76 v77 X0 (fun v770 v771 v772 v773 v774 v775 v776 v777 v778 v779 v780 v781 v782 =>
      X1 v770 (IntKind.i64.wrap (v771 + 1)) v772 v773 v774 v775 v776 v777 v778 v779 v780 v781 v782)) X2)
      else
      f89_2_j8 g_f89_2 k v14 v15 v27 v35 false v16 v17 v18 v19 v20 v21 v22 v23 v24 v25 v26 v30 v31 v32 v33 v34 (fun v790 v791 v792 v793 v794 v795 v796 v797 v798 v799 v800 v801 v802 v803 v804 v805 v806 v807 v808 v809 =>
      f89_2_j9 g_f89_2 k v790 v791 v792 v793 v794 v795 v796 v797 v798 v799 v800 v801 v802 v803 v804 v805 v806 v807 v808 v809 X0 (fun v817 v818 v819 v820 v821 v822 v823 v824 v825 v826 v827 v828 v829 =>
      X1 v817 (IntKind.i64.wrap (v818 + 1)) v819 v820 v821 v822 v823 v824 v825 v826 v827 v828 v829)) X2
      else
      f89_2_j8 g_f89_2 k v14 v15 v27 v35 false v16 v17 v18 v19 v20 v21 v22 v23 v24 v25 v26 v30 v31 v32 v33 v34 (fun v837 v838 v839 v840 v841 v842 v843 v844 v845 v846 v847 v848 v849 v850 v851 v852 v853 v854 v855 v856 =>
      f89_2_j9 g_f89_2 k v837 v838 v839 v840 v841 v842 v843 v844 v845 v846 v847 v848 v849 v850 v851 v852 v853 v854 v855 v856 X0 (fun v864 v865 v866 v867 v868 v869 v870 v871 v872 v873 v874 v875 v876 =>
      X1 v864 (IntKind.i64.wrap (v865 + 1)) v866 v867 v868 v869 v870 v871 v872 v873 v874 v875 v876)) X2
     else
      f89_2_j8 g_f89_2 k v14 v15 v27 v35 false v16 v17 v18 v19 v20 v21 v22 v23 v24 v25 v26 v30 v31 v32 v33 v34 (fun v884 v885 v886 v887 v888 v889 v890 v891 v892 v893 v894 v895 v896 v897 v898 v899 v900 v901 v902 v903 =>
      f89_2_j9 g_f89_2 k v884 v885 v886 v887 v888 v889 v890 v891 v892 v893 v894 v895 v896 v897 v898 v899 v900 v901 v902 v903 X0 (fun v911 v912 v913 v914 v915 v916 v917 v918 v919 v920 v921 v922 v923 =>
      X1 v911 (IntKind.i64.wrap (v912 + 1)) v913 v914 v915 v916 v917 v918 v919 v920 v921 v922 v923)) X2
    else
     f89_2_j8 g_f89_2 k v14 v15 v27 v35 false v16 v17 v18 v19 v20 v21 v22 v23 v24 v25 v26 v30 v31 v32 v33 v34 (fun v931 v932 v933 v934 v935 v936 v937 v938 v939 v940 v941 v942 v943 v944 v945 v946 v947 v948 v949 v950 =>
      f89_2_j9 g_f89_2 k v931 v932 v933 v934 v935 v936 v937 v938 v939 v940 v941 v942 v943 v944 v945 v946 v947 v948 v949 v950 X0 (fun v958 v959 v960 v961 v962 v963 v964 v965 v966 v967 v968 v969 v970 =>
      X1 v958 (IntKind.i64.wrap (v959 + 1)) v960 v961 v962 v963 v964 v965 v966 v967 v968 v969 v970)) X2
   else
    f89_2_j8 g_f89_2 k v14 v15 v27 v35 false v16 v17 v18 v19 v20 v21 v22 v23 v24 v25 v26 v30 v31 v32 v33 v34 (fun v978 v979 v980 v981 v982 v983 v984 v985 v986 v987 v988 v989 v990 v991 v992 v993 v994 v995 v996 v997 =>
     f89_2_j9 g_f89_2 k v978 v979 v980 v981 v982 v983 v984 v985 v986 v987 v988 v989 v990 v991 v992 v993 v994 v995 v996 v997 X0 (fun v1005 v1006 v1007 v1008 v1009 v1010 v1011 v1012 v1013 v1014 v1015 v1016 v1017 =>
      X1 v1005 (IntKind.i64.wrap (v1006 + 1)) v1007 v1008 v1009 v1010 v1011 v1012 v1013 v1014 v1015 v1016 v1017)) X2))
noncomputable def f89_2_l3 {R : Type} (g_f89_2 : Nat → f89_2_T R) : Nat → Int → Int → List Int → Int → Int → Int → List D1 → Int → Int → Int → Int → Bool → List D2 → (Int → List D2 → List Int → Int → Int → Int → List D1 → Option R) → (Int → List D2 → List Int → Int → Int → Int → List D1 → Option R) → Option R
  | 0, _, _, _, _, _, _, _, _, _, _, _, _, _, _, _ => none
  | k + 1, v1, v2, v3, v4, v5, v6, v7, v8, v9, v10, v11, v12, v13, X0, X1 =>
  bif decide (v1 < v9) then
   bif (v5 == 0) then
    f89_2_j5 g_f89_2 k v1 v2 v3 v4 v5 v6 v7 v8 v9 v10 v11 v12 v13 X0 (fun v1032 v1033 v1034 v1035 v1036 v1037 v1038 v1039 v1040 v1041 v1042 v1043 v1044 =>
     f89_2_l3 g_f89_2 k v1032 v1033 v1034 v1035 v1036 v1037 v1038 v1039 v1040 v1041 v1042 v1043 v1044 X0 X1) X1
   else
    X0 v1 v13 v3 v4 v5 v6 v7
  else
   X0 v1 v13 v3 v4 v5 v6 v7
noncomputable def f89_2_s {R : Type} (g_f89_2 : Nat → f89_2_T R) (k : Nat) (a0 a1 a2 a3 a4 : Int) (a5 : Bool) (a6 : List Int) (a7 a8 a9 : Int) (a10 : List D1) (K : Int → List Int → Int → Int → Int → List D2 → List D1 → Option R) : Option R :=
 f89_2_l3 g_f89_2 k a0 0 a6 a7 a8 a9 a10 a1 a2 a3 a4 a5 ([] : List D2) (fun v1052 v1053 v1054 v1055 v1056 v1057 v1058 =>
  K v1052 v1054 v1055 v1056 v1057 v1053 v1058) (fun v1059 v1060 v1061 v1062 v1063 v1064 v1065 =>
  K v1059 v1061 v1062 v1063 v1064 v1060 v1065)
noncomputable def f89_2_d {R : Type} (g : f89_2_T R) (e : Dr D R) : Dr D R := door [.ptr 0 0, .int .i64, .agg [.int .i64, .int .i64, .int .i64, .int .i64, .bool]] [.box [.list (.int .u8), .own 1, .int .i64, .int .i64, .int .i64], .row (.named 1) true] (fun (x : (Unit × Int × (Int × Int × Int × Int × Bool × Unit) × Unit)) (y : ((List Int × Unit × Int × Int × Int × Unit) × List D1 × Unit)) K => g x.2.1 x.2.2.1.1 x.2.2.1.2.1 x.2.2.1.2.2.1 x.2.2.1.2.2.2.1 x.2.2.1.2.2.2.2.1 y.1.1 y.1.2.2.1 y.1.2.2.2.1 y.1.2.2.2.2.1 y.2.1 (fun z0 z1 z2 z3 z4 z5 z6 => K ⟨.tup [.own 2, .int .i64 z0], [some (.box [.list (.int .u8) z1, .own 3, .int .i64 z2, .int .i64 z3, .int .i64 z4]), none, some (.row (.named 2) z5 true), some (.row (.named 1) z6 true)]⟩)) e
noncomputable def f89_2_o {R : Type} (g_f89_2 : Nat → f89_2_T R) (k : Nat) : Orc D R := (orcAdd 89 (f89_2_d (g_f89_2 k) noDr) (orcAdd 104 (f104_2_d (f104_2 k) noDr) (orcAdd 103 (f103_2_d (f103_2 k) noDr) (orcAdd 102 (f102_2_d (f102_2 k) noDr) (orcAdd 105 (f105_2_d (f105_2 k) noDr) (orcAdd 98 (f98_d (f98 k) noDr) (orcAdd 26 (f26_d (f26 k) noDr) (orcAdd 30 (f30_d (f30 k) noDr) noOrc))))))))
theorem f89_2_o_ok {R : Type} (g_f89_2 : Nat → f89_2_T R) (h_f89_2 : ∀ (k : Nat) (e : Dr D R), FnOk Try.prog cx 89 e → FnOk Try.prog cx 89 (f89_2_d (g_f89_2 k) e)) (k : Nat) : OrcOk Try.prog cx (f89_2_o (R := R) g_f89_2 k) := (OrcOk.add (h_f89_2 k _ FnOk.no) (OrcOk.add (f104_2_ok k FnOk.no) (OrcOk.add (f103_2_ok k FnOk.no) (OrcOk.add (f102_2_ok k FnOk.no) (OrcOk.add (f105_2_ok k FnOk.no) (OrcOk.add (f98_ok k FnOk.no) (OrcOk.add (f26_ok k FnOk.no) (OrcOk.add (f30_ok k FnOk.no) OrcOk.no))))))))
noncomputable def f89_2_b : Code := bodyOf Try.f89
noncomputable def f89_2_j8_a : LAnn := ⟨⟨[(.tmp 8, .own 137438986240 (.named 2)), (.cell 0 1, .own 137438986241 (.named 1)), (.cell 1 0, .drop)], [0, 1, 5, 8, 9, 10, 13, 14, 74], [0, 137438986241, 65632, 137438986240, 458976]⟩, exOfJ (some ⟨[(.tmp 8, .own 137438988288 (.named 2)), (.cell 0 1, .own 137438988289 (.named 1)), (.cell 1 0, .drop)], [0, 1, 5, 8, 9, 10, 13, 14], [0, 137438988289, 65632, 137438988288, 458976]⟩) (some ⟨[(.tmp 6, .own 137438987264 (.named 2)), (.cell 0 1, .own 137438987265 (.named 1)), (.cell 1 0, .drop)], [6, 7], [137438987264, 0, 137438987265]⟩) []⟩
noncomputable def f89_2_j16_a : LAnn := ⟨⟨[(.tmp 8, .own 137439019008 (.named 2)), (.cell 0 1, .own 137439019009 (.named 1)), (.cell 1 0, .drop)], [0, 1, 5, 8, 9, 10, 13, 14, 15, 17, 122], [0, 137439019009, 65632, 137439019008, 458976, 655616]⟩, exOfJ (some ⟨[(.tmp 8, .own 137439020032 (.named 2)), (.cell 0 1, .own 137439020033 (.named 1)), (.cell 1 0, .drop)], [0, 1, 5, 8, 9, 10, 13, 14, 15, 17], [0, 137439020033, 65632, 137439020032, 458976, 655616]⟩) (none) []⟩
noncomputable def f89_2_j14_a : LAnn := ⟨⟨[(.tmp 8, .own 137439010816 (.named 2)), (.cell 0 1, .own 137439010817 (.named 1)), (.cell 1 0, .drop)], [0, 1, 5, 8, 9, 10, 13, 14, 15, 17, 100], [0, 137439010817, 65632, 137439010816, 458976, 655616]⟩, exOfJ (some ⟨[(.tmp 8, .own 137439011840 (.named 2)), (.cell 0 1, .own 137439011841 (.named 1)), (.cell 1 0, .drop)], [0, 1, 5, 8, 9, 10, 13, 14, 15, 17], [0, 137439011841, 65632, 137439011840, 458976, 655616]⟩) (none) []⟩
noncomputable def f89_2_j33_a : LAnn := ⟨⟨[(.tmp 8, .own 137439088640 (.named 2))], [0, 1, 5, 8, 9, 15, 18, 19, 20, 22], [0, 1772400, 65632, 137439088640, 655616, 1835344, 2031984]⟩, exOfJ (some ⟨[(.tmp 8, .own 137439089664 (.named 2))], [0, 1, 5, 8, 9, 15, 18, 19, 20, 21], [0, 2231761, 65632, 137439089664, 655616, 1835344, 2231760]⟩) (none) []⟩
noncomputable def f89_2_j30_a : LAnn := ⟨⟨[(.tmp 8, .own 137439076352 (.named 2))], [0, 1, 5, 8, 9, 10, 15, 17, 18, 19, 20, 21, 194], [0, 1772400, 65632, 137439076352, 655616, 1835344]⟩, exOfJ (some ⟨[(.cell 0 1, .own 137439077376 (.named 1)), (.cell 1835344 1, .own 137439077377 (.int .u8)), (.cell 1835344 2, .own 137439077378 (.named 2)), (.tmp 8, .own 137439077379 (.named 2))], [0, 1, 5, 8, 9, 15, 18, 19, 20, 21], [0, 137439077376, 65632, 137439077379, 655616, 1835344, 137439077377, 137439077378]⟩) (none) []⟩
noncomputable def f89_2_j35_a : LAnn := ⟨⟨[(.tmp 8, .own 137439096832 (.named 2))], [0, 1, 5, 8, 9, 15, 18, 19, 20, 21], [0, 137439077376, 65632, 137439096832, 655616, 1835344, 137439077377, 137439077378]⟩, exOfJ (some ⟨[(.tmp 8, .own 137439098880 (.named 2))], [0, 1, 5, 8, 9], [0, 137439077376, 65632, 137439098880]⟩) (none) [(0, ⟨[(.tmp 8, .own 137439097856 (.named 2))], [1, 8], [137439097856, 0, 137439077376]⟩)]⟩
noncomputable def f89_2_j24_a : LAnn := ⟨⟨[(.tmp 8, .own 137439051776 (.named 2)), (.cell 0 1, .own 137439051777 (.named 1)), (.cell 1 0, .drop)], [0, 1, 5, 8, 9, 10, 13, 15, 17, 18], [0, 137439051777, 65632, 137439051776, 458976, 655616]⟩, exOfJ (some ⟨[], [0, 1, 5, 8, 9], [0, 137439077376, 65632, 137439098880]⟩) (none) [(0, ⟨[(.cell 0 1, .own 137439052800 (.named 1)), (.tmp 8, .own 137439052802 (.named 2)), (.cell 1 0, .drop)], [1, 8], [137439052802, 0, 137439052800]⟩)]⟩
noncomputable def f89_2_j20_a : LAnn := ⟨⟨[(.tmp 8, .own 137439035392 (.named 2)), (.cell 0 1, .own 137439035393 (.named 1)), (.cell 1 0, .drop)], [0, 1, 5, 8, 9, 10, 13, 15, 17, 18], [0, 137439035393, 65632, 137439035392, 458976, 655616]⟩, exOfJ (some ⟨[], [0, 1, 5, 8, 9], [0, 137439077376, 65632, 137439098880]⟩) (none) [(0, ⟨[(.tmp 8, .own 137439036416 (.named 2))], [1, 8], [137439036416, 0, 137439052800]⟩)]⟩
noncomputable def f89_2_j19_a : LAnn := ⟨⟨[(.tmp 8, .own 137439031296 (.named 2)), (.cell 0 1, .own 137439031297 (.named 1)), (.cell 1 0, .drop)], [0, 1, 5, 8, 9, 10, 13, 14, 15, 17], [0, 137439031297, 65632, 137439031296, 458976, 655616]⟩, exOfJ (some ⟨[], [0, 1, 5, 8, 9], [0, 137439077376, 65632, 137439098880]⟩) (none) [(0, ⟨[(.tmp 8, .own 137439032320 (.named 2))], [1, 8], [137439032320, 0, 137439052800]⟩)]⟩
noncomputable def f89_2_j9_a : LAnn := ⟨⟨[(.tmp 8, .own 137438990336 (.named 2)), (.cell 0 1, .own 137438990337 (.named 1)), (.cell 1 0, .drop)], [0, 1, 5, 8, 9, 10, 13, 14], [0, 137438990337, 65632, 137438990336, 458976]⟩, exOfJ (some ⟨[], [0, 1, 5, 8, 9], [0, 137439077376, 65632, 137439098880]⟩) (none) [(0, ⟨[(.cell 0 1, .own 137438991360 (.named 1)), (.tmp 8, .own 137438991362 (.named 2)), (.cell 1 0, .drop)], [1, 8], [137438991362, 0, 137438991360]⟩)]⟩
noncomputable def f89_2_j5_a : LAnn := ⟨⟨[(.tmp 8, .own 137438973952 (.named 2)), (.cell 0 1, .own 137438973953 (.named 1)), (.cell 1 0, .drop)], [0, 1, 5, 8, 9], [0, 137438973953, 65632, 137438973952]⟩, exOfJ (some ⟨[], [0, 1, 5, 8, 9], [0, 137439077376, 65632, 137439098880]⟩) (some ⟨[(.tmp 6, .own 137438977024 (.named 2)), (.cell 0 1, .own 137438977025 (.named 1)), (.cell 1 0, .drop)], [6, 7], [137438977024, 0, 137438977025]⟩) [(0, ⟨[(.tmp 8, .own 137438974976 (.named 2))], [1, 8], [137438974976, 0, 137438991360]⟩)]⟩
noncomputable def f89_2_l3_a : LAnn := ⟨⟨[(.tmp 8, .own 68719489024 (.named 2)), (.cell 0 1, .own 68719489025 (.named 1)), (.cell 1 0, .drop)], [0, 1, 5, 8, 9], [0, 68719489025, 65632, 68719489024]⟩, exOf (some ⟨[], [6, 7], [137438977024, 0, 137438977025]⟩) [(0, ⟨[(.tmp 8, .own 68719490048 (.named 2)), (.cell 0 1, .own 68719490049 (.named 1))], [1, 8], [68719490048, 0, 68719490049]⟩)]⟩
noncomputable def f89_2_ann : Nat → Option LAnn := fun key => bif Nat.beq key 3 then some f89_2_l3_a else bif Nat.beq key 1000005 then some f89_2_j5_a else bif Nat.beq key 1000009 then some f89_2_j9_a else bif Nat.beq key 1000019 then some f89_2_j19_a else bif Nat.beq key 1000020 then some f89_2_j20_a else bif Nat.beq key 1000024 then some f89_2_j24_a else bif Nat.beq key 1000035 then some f89_2_j35_a else bif Nat.beq key 1000030 then some f89_2_j30_a else bif Nat.beq key 1000033 then some f89_2_j33_a else bif Nat.beq key 1000014 then some f89_2_j14_a else bif Nat.beq key 1000016 then some f89_2_j16_a else bif Nat.beq key 1000008 then some f89_2_j8_a else none
noncomputable def f89_2_j8_b : Code := joinAt f89_2_ann f89_2_b 1
noncomputable def f89_2_j8_g {R : Type} (g_f89_2 : Nat → f89_2_T R) (k : Nat) (x : (Unit × Int × Unit × Unit × Int × Int × Unit × Bool × Bool × Unit)) (y : ((List Int × Unit × Int × Int × Int × Unit) × List D1 × (Int × Int × Int × Int × Bool × Unit) × List D2 × (Int × ByteArray × Int × Bool × Bool × Unit) × Unit)) (K : KX R) : Option R := f89_2_j8 g_f89_2 k x.2.1 x.2.2.2.2.1 x.2.2.2.2.2.1 x.2.2.2.2.2.2.2.1 x.2.2.2.2.2.2.2.2.1 y.1.1 y.1.2.2.1 y.1.2.2.2.1 y.1.2.2.2.2.1 y.2.1 y.2.2.1.1 y.2.2.1.2.1 y.2.2.1.2.2.1 y.2.2.1.2.2.2.1 y.2.2.1.2.2.2.2.1 y.2.2.2.1 y.2.2.2.2.1.1 y.2.2.2.2.1.2.1 y.2.2.2.2.1.2.2.1 y.2.2.2.2.1.2.2.2.1 y.2.2.2.2.1.2.2.2.2.1 (fun z0 z1 z2 z3 z4 z5 z6 z7 z8 z9 z10 z11 z12 z13 z14 z15 z16 z17 z18 z19 => K (.normal) [.ptr 0 0, .int .i64 z0, .ptr 65632 0, .own 137438988288, .int .i64 z1, .int .i64 z2, .ptr 458976 0, .bool z3] [some (.box [.list (.int .u8) z4, .own 137438988289, .int .i64 z5, .int .i64 z6, .int .i64 z7]), some (.row (.named 1) z8 true), some (.box [.int .i64 z9, .int .i64 z10, .int .i64 z11, .int .i64 z12, .bool z13]), some (.row (.named 2) z14 true), some (.box [.int .i64 z15, .str z16, .int .i64 z17, .bool z18, .bool z19])]) (fun z0 z1 z2 z3 z4 z5 z6 => K (.ret) [.own 137438987264, .int .i64 z0] [some (.row (.named 2) z1 true), some (.box [.list (.int .u8) z2, .own 137438987265, .int .i64 z3, .int .i64 z4, .int .i64 z5]), some (.row (.named 1) z6 true)])
noncomputable def f89_2_j8_d {R : Type} (g_f89_2 : Nat → f89_2_T R) (k : Nat) : Lr D R := ldoor [.ptr 0 0, .int .i64, .ptr 65632 0, .own 137438986240, .int .i64, .int .i64, .ptr 458976 0, .bool, .bool] [some (.box [.list (.int .u8), .own 137438986241, .int .i64, .int .i64, .int .i64]), some (.row (.named 1) true), some (.box [.int .i64, .int .i64, .int .i64, .int .i64, .bool]), some (.row (.named 2) true), some (.box [.int .i64, .str, .int .i64, .bool, .bool])] (f89_2_j8_g g_f89_2 k)
noncomputable def f89_2_j8_r {R : Type} (_g_f89_2 : Nat → f89_2_T R) (_k : Nat) : Lrc D R := noLrc
theorem f89_2_j8_d_ok {R : Type} (g_f89_2 : Nat → f89_2_T R) (h_f89_2 : ∀ (k : Nat) (e : Dr D R), FnOk Try.prog cx 89 e → FnOk Try.prog cx 89 (f89_2_d (g_f89_2 k) e)) (k : Nat) : JoinOk Try.prog cx 262 2 f89_2_ann (f89_2_j8_d (R := R) g_f89_2 k) f89_2_j8_b :=
  join_ok (keep := kp) (lrc := f89_2_j8_r (R := R) g_f89_2 k) cxOk mixed (f89_2_o_ok g_f89_2 h_f89_2 k) (show f89_2_ann (Am.keyOf f89_2_j8_b + 1000000) = some f89_2_j8_a by kernel_rfl) (L := []) (by kernel_rfl) trivial (J := []) (by kernel_rfl) trivial (LrcNat.no) (fun _x _y _K => by kernel_rfl)
noncomputable def f89_2_j16_b : Code := joinAt f89_2_ann f89_2_b 4
noncomputable def f89_2_j16_g {R : Type} (g_f89_2 : Nat → f89_2_T R) (k : Nat) (x : (Unit × Int × Unit × Unit × Int × Int × Unit × Bool × Unit × Int × Bool × Unit)) (y : ((List Int × Unit × Int × Int × Int × Unit) × List D1 × (Int × Int × Int × Int × Bool × Unit) × List D2 × (Int × ByteArray × Int × Bool × Bool × Unit) × (Int × Int × Int × Bool × Unit) × Unit)) (K : KX R) : Option R := f89_2_j16 g_f89_2 k x.2.1 x.2.2.2.2.1 x.2.2.2.2.2.1 x.2.2.2.2.2.2.2.1 x.2.2.2.2.2.2.2.2.2.1 x.2.2.2.2.2.2.2.2.2.2.1 y.1.1 y.1.2.2.1 y.1.2.2.2.1 y.1.2.2.2.2.1 y.2.1 y.2.2.1.1 y.2.2.1.2.1 y.2.2.1.2.2.1 y.2.2.1.2.2.2.1 y.2.2.1.2.2.2.2.1 y.2.2.2.1 y.2.2.2.2.1.1 y.2.2.2.2.1.2.1 y.2.2.2.2.1.2.2.1 y.2.2.2.2.1.2.2.2.1 y.2.2.2.2.1.2.2.2.2.1 y.2.2.2.2.2.1.1 y.2.2.2.2.2.1.2.1 y.2.2.2.2.2.1.2.2.1 y.2.2.2.2.2.1.2.2.2.1 (fun z0 z1 z2 z3 z4 z5 z6 z7 z8 z9 z10 z11 z12 z13 z14 z15 z16 z17 z18 z19 z20 z21 z22 z23 z24 => K (.normal) [.ptr 0 0, .int .i64 z0, .ptr 65632 0, .own 137439020032, .int .i64 z1, .int .i64 z2, .ptr 458976 0, .bool z3, .ptr 655616 0, .int .i64 z4] [some (.box [.list (.int .u8) z5, .own 137439020033, .int .i64 z6, .int .i64 z7, .int .i64 z8]), some (.row (.named 1) z9 true), some (.box [.int .i64 z10, .int .i64 z11, .int .i64 z12, .int .i64 z13, .bool z14]), some (.row (.named 2) z15 true), some (.box [.int .i64 z16, .str z17, .int .i64 z18, .bool z19, .bool z20]), some (.box [.int .i64 z21, .int .i64 z22, .int .i64 z23, .bool z24])])
noncomputable def f89_2_j16_d {R : Type} (g_f89_2 : Nat → f89_2_T R) (k : Nat) : Lr D R := ldoor [.ptr 0 0, .int .i64, .ptr 65632 0, .own 137439019008, .int .i64, .int .i64, .ptr 458976 0, .bool, .ptr 655616 0, .int .i64, .bool] [some (.box [.list (.int .u8), .own 137439019009, .int .i64, .int .i64, .int .i64]), some (.row (.named 1) true), some (.box [.int .i64, .int .i64, .int .i64, .int .i64, .bool]), some (.row (.named 2) true), some (.box [.int .i64, .str, .int .i64, .bool, .bool]), some (.box [.int .i64, .int .i64, .int .i64, .bool])] (f89_2_j16_g g_f89_2 k)
noncomputable def f89_2_j16_r {R : Type} (_g_f89_2 : Nat → f89_2_T R) (_k : Nat) : Lrc D R := noLrc
theorem f89_2_j16_d_ok {R : Type} (g_f89_2 : Nat → f89_2_T R) (h_f89_2 : ∀ (k : Nat) (e : Dr D R), FnOk Try.prog cx 89 e → FnOk Try.prog cx 89 (f89_2_d (g_f89_2 k) e)) (k : Nat) : JoinOk Try.prog cx 262 2 f89_2_ann (f89_2_j16_d (R := R) g_f89_2 k) f89_2_j16_b :=
  join_ok (keep := kp) (lrc := f89_2_j16_r (R := R) g_f89_2 k) cxOk mixed (f89_2_o_ok g_f89_2 h_f89_2 k) (show f89_2_ann (Am.keyOf f89_2_j16_b + 1000000) = some f89_2_j16_a by kernel_rfl) (L := []) (by kernel_rfl) trivial (J := []) (by kernel_rfl) trivial (LrcNat.no) (fun _x _y _K => by kernel_rfl)
noncomputable def f89_2_j14_b : Code := joinAt f89_2_ann f89_2_b 3
noncomputable def f89_2_j14_g {R : Type} (g_f89_2 : Nat → f89_2_T R) (k : Nat) (x : (Unit × Int × Unit × Unit × Int × Int × Unit × Bool × Unit × Int × Bool × Unit)) (y : ((List Int × Unit × Int × Int × Int × Unit) × List D1 × (Int × Int × Int × Int × Bool × Unit) × List D2 × (Int × ByteArray × Int × Bool × Bool × Unit) × (Int × Int × Int × Bool × Unit) × Unit)) (K : KX R) : Option R := f89_2_j14 g_f89_2 k x.2.1 x.2.2.2.2.1 x.2.2.2.2.2.1 x.2.2.2.2.2.2.2.1 x.2.2.2.2.2.2.2.2.2.1 x.2.2.2.2.2.2.2.2.2.2.1 y.1.1 y.1.2.2.1 y.1.2.2.2.1 y.1.2.2.2.2.1 y.2.1 y.2.2.1.1 y.2.2.1.2.1 y.2.2.1.2.2.1 y.2.2.1.2.2.2.1 y.2.2.1.2.2.2.2.1 y.2.2.2.1 y.2.2.2.2.1.1 y.2.2.2.2.1.2.1 y.2.2.2.2.1.2.2.1 y.2.2.2.2.1.2.2.2.1 y.2.2.2.2.1.2.2.2.2.1 y.2.2.2.2.2.1.1 y.2.2.2.2.2.1.2.1 y.2.2.2.2.2.1.2.2.1 y.2.2.2.2.2.1.2.2.2.1 (fun z0 z1 z2 z3 z4 z5 z6 z7 z8 z9 z10 z11 z12 z13 z14 z15 z16 z17 z18 z19 z20 z21 z22 z23 z24 => K (.normal) [.ptr 0 0, .int .i64 z0, .ptr 65632 0, .own 137439011840, .int .i64 z1, .int .i64 z2, .ptr 458976 0, .bool z3, .ptr 655616 0, .int .i64 z4] [some (.box [.list (.int .u8) z5, .own 137439011841, .int .i64 z6, .int .i64 z7, .int .i64 z8]), some (.row (.named 1) z9 true), some (.box [.int .i64 z10, .int .i64 z11, .int .i64 z12, .int .i64 z13, .bool z14]), some (.row (.named 2) z15 true), some (.box [.int .i64 z16, .str z17, .int .i64 z18, .bool z19, .bool z20]), some (.box [.int .i64 z21, .int .i64 z22, .int .i64 z23, .bool z24])])
noncomputable def f89_2_j14_d {R : Type} (g_f89_2 : Nat → f89_2_T R) (k : Nat) : Lr D R := ldoor [.ptr 0 0, .int .i64, .ptr 65632 0, .own 137439010816, .int .i64, .int .i64, .ptr 458976 0, .bool, .ptr 655616 0, .int .i64, .bool] [some (.box [.list (.int .u8), .own 137439010817, .int .i64, .int .i64, .int .i64]), some (.row (.named 1) true), some (.box [.int .i64, .int .i64, .int .i64, .int .i64, .bool]), some (.row (.named 2) true), some (.box [.int .i64, .str, .int .i64, .bool, .bool]), some (.box [.int .i64, .int .i64, .int .i64, .bool])] (f89_2_j14_g g_f89_2 k)
noncomputable def f89_2_j14_r {R : Type} (g_f89_2 : Nat → f89_2_T R) (k : Nat) : Lrc D R := (lrcAdd 1000016 (f89_2_j16_d g_f89_2 k) noLrc)
theorem f89_2_j14_d_ok {R : Type} (g_f89_2 : Nat → f89_2_T R) (h_f89_2 : ∀ (k : Nat) (e : Dr D R), FnOk Try.prog cx 89 e → FnOk Try.prog cx 89 (f89_2_d (g_f89_2 k) e)) (k : Nat) : JoinOk Try.prog cx 262 2 f89_2_ann (f89_2_j14_d (R := R) g_f89_2 k) f89_2_j14_b :=
  join_ok (keep := kp) (lrc := f89_2_j14_r (R := R) g_f89_2 k) cxOk mixed (f89_2_o_ok g_f89_2 h_f89_2 k) (show f89_2_ann (Am.keyOf f89_2_j14_b + 1000000) = some f89_2_j14_a by kernel_rfl) (L := []) (by kernel_rfl) trivial (J := [f89_2_j16_b]) (by kernel_rfl) (⟨(f89_2_j16_d_ok g_f89_2 h_f89_2 k).use (by kernel_rfl), trivial⟩) ((LrcNat.add (f89_2_j16_d_ok g_f89_2 h_f89_2 k).2 LrcNat.no)) (fun _x _y _K => by kernel_rfl)
noncomputable def f89_2_j33_b : Code := joinAt f89_2_ann f89_2_b 9
noncomputable def f89_2_j33_g {R : Type} (g_f89_2 : Nat → f89_2_T R) (k : Nat) (x : (Unit × Int × Unit × Unit × Int × Unit × Bool × Int × Unit × Unit × Unit)) (y : ((List Int × Unit × Int × Int × Int × Unit) × List D1 × (Int × Int × Int × Int × Bool × Unit) × List D2 × (Int × Int × Int × Bool × Unit) × (Int × Unit × Unit × Bool × Unit) × (Int × Int × Int × Int × Bool × Unit) × Unit)) (K : KX R) : Option R := f89_2_j33 g_f89_2 k x.2.1 x.2.2.2.2.1 x.2.2.2.2.2.2.1 x.2.2.2.2.2.2.2.1 y.1.1 y.1.2.2.1 y.1.2.2.2.1 y.1.2.2.2.2.1 y.2.1 y.2.2.1.1 y.2.2.1.2.1 y.2.2.1.2.2.1 y.2.2.1.2.2.2.1 y.2.2.1.2.2.2.2.1 y.2.2.2.1 y.2.2.2.2.1.1 y.2.2.2.2.1.2.1 y.2.2.2.2.1.2.2.1 y.2.2.2.2.1.2.2.2.1 y.2.2.2.2.2.1.1 y.2.2.2.2.2.1.2.2.2.1 y.2.2.2.2.2.2.1.1 y.2.2.2.2.2.2.1.2.1 y.2.2.2.2.2.2.1.2.2.1 y.2.2.2.2.2.2.1.2.2.2.1 y.2.2.2.2.2.2.1.2.2.2.2.1 (fun z0 z1 z2 z3 z4 z5 z6 z7 z8 z9 z10 z11 z12 z13 z14 z15 z16 z17 z18 z19 z20 z21 z22 => K (.normal) [.ptr 0 0, .int .i64 z0, .ptr 65632 0, .own 137439089664, .int .i64 z1, .ptr 655616 0, .bool z2, .int .i64 z3, .ptr 1835344 0, .int .i64 z4] [some (.box [.list (.int .u8) z5, .own 2231761, .int .i64 z6, .int .i64 z7, .int .i64 z8]), some (.row (.named 1) z9 true), some (.box [.int .i64 z10, .int .i64 z11, .int .i64 z12, .int .i64 z13, .bool z14]), some (.row (.named 2) z15 true), some (.box [.int .i64 z16, .int .i64 z17, .int .i64 z18, .bool z19]), some (.box [.int .i64 z20, .nil, .own 2231760, .bool z21]), some (.row (.named 2) z22 true)])
noncomputable def f89_2_j33_d {R : Type} (g_f89_2 : Nat → f89_2_T R) (k : Nat) : Lr D R := ldoor [.ptr 0 0, .int .i64, .ptr 65632 0, .own 137439088640, .int .i64, .ptr 655616 0, .bool, .int .i64, .ptr 1835344 0, .ptr 2031984 0] [some (.box [.list (.int .u8), .own 1772400, .int .i64, .int .i64, .int .i64]), some (.row (.named 1) true), some (.box [.int .i64, .int .i64, .int .i64, .int .i64, .bool]), some (.row (.named 2) true), some (.box [.int .i64, .int .i64, .int .i64, .bool]), some (.box [.int .i64, .nil, .nil, .bool]), some (.box [.int .i64, .int .i64, .int .i64, .int .i64, .bool])] (f89_2_j33_g g_f89_2 k)
noncomputable def f89_2_j33_r {R : Type} (_g_f89_2 : Nat → f89_2_T R) (_k : Nat) : Lrc D R := noLrc
theorem f89_2_j33_d_ok {R : Type} (g_f89_2 : Nat → f89_2_T R) (h_f89_2 : ∀ (k : Nat) (e : Dr D R), FnOk Try.prog cx 89 e → FnOk Try.prog cx 89 (f89_2_d (g_f89_2 k) e)) (k : Nat) : JoinOk Try.prog cx 262 2 f89_2_ann (f89_2_j33_d (R := R) g_f89_2 k) f89_2_j33_b :=
  join_ok (keep := kp) (lrc := f89_2_j33_r (R := R) g_f89_2 k) cxOk mixed (f89_2_o_ok g_f89_2 h_f89_2 k) (show f89_2_ann (Am.keyOf f89_2_j33_b + 1000000) = some f89_2_j33_a by kernel_rfl) (L := []) (by kernel_rfl) trivial (J := []) (by kernel_rfl) trivial (LrcNat.no) (fun _x _y _K => by kernel_rfl)
noncomputable def f89_2_j30_b : Code := joinAt f89_2_ann f89_2_b 8
noncomputable def f89_2_j30_g {R : Type} (g_f89_2 : Nat → f89_2_T R) (k : Nat) (x : (Unit × Int × Unit × Unit × Int × Int × Unit × Int × Bool × Int × Unit × Int × Bool × Unit)) (y : ((List Int × Unit × Int × Int × Int × Unit) × List D1 × (Int × Int × Int × Int × Bool × Unit) × List D2 × (Int × Int × Int × Bool × Unit) × (Int × Unit × Unit × Bool × Unit) × Unit)) (K : KX R) : Option R := f89_2_j30 g_f89_2 k x.2.1 x.2.2.2.2.1 x.2.2.2.2.2.1 x.2.2.2.2.2.2.2.1 x.2.2.2.2.2.2.2.2.1 x.2.2.2.2.2.2.2.2.2.1 x.2.2.2.2.2.2.2.2.2.2.2.1 x.2.2.2.2.2.2.2.2.2.2.2.2.1 y.1.1 y.1.2.2.1 y.1.2.2.2.1 y.1.2.2.2.2.1 y.2.1 y.2.2.1.1 y.2.2.1.2.1 y.2.2.1.2.2.1 y.2.2.1.2.2.2.1 y.2.2.1.2.2.2.2.1 y.2.2.2.1 y.2.2.2.2.1.1 y.2.2.2.2.1.2.1 y.2.2.2.2.1.2.2.1 y.2.2.2.2.1.2.2.2.1 y.2.2.2.2.2.1.1 y.2.2.2.2.2.1.2.2.2.1 (fun z0 z1 z2 z3 z4 z5 z6 z7 z8 z9 z10 z11 z12 z13 z14 z15 z16 z17 z18 z19 z20 z21 z22 z23 => K (.normal) [.ptr 0 0, .int .i64 z0, .ptr 65632 0, .own 137439077379, .int .i64 z1, .ptr 655616 0, .bool z2, .int .i64 z3, .ptr 1835344 0, .int .i64 z4] [some (.box [.list (.int .u8) z5, .own 137439077376, .int .i64 z6, .int .i64 z7, .int .i64 z8]), some (.row (.named 1) z9 true), some (.box [.int .i64 z10, .int .i64 z11, .int .i64 z12, .int .i64 z13, .bool z14]), some (.row (.named 2) z15 true), some (.box [.int .i64 z16, .int .i64 z17, .int .i64 z18, .bool z19]), some (.box [.int .i64 z20, .own 137439077377, .own 137439077378, .bool z21]), some (.row (.int .u8) z22 true), some (.row (.named 2) z23 true)])
noncomputable def f89_2_j30_d {R : Type} (g_f89_2 : Nat → f89_2_T R) (k : Nat) : Lr D R := ldoor [.ptr 0 0, .int .i64, .ptr 65632 0, .own 137439076352, .int .i64, .int .i64, .ptr 655616 0, .int .i64, .bool, .int .i64, .ptr 1835344 0, .int .i64, .bool] [some (.box [.list (.int .u8), .own 1772400, .int .i64, .int .i64, .int .i64]), some (.row (.named 1) true), some (.box [.int .i64, .int .i64, .int .i64, .int .i64, .bool]), some (.row (.named 2) true), some (.box [.int .i64, .int .i64, .int .i64, .bool]), some (.box [.int .i64, .nil, .nil, .bool])] (f89_2_j30_g g_f89_2 k)
noncomputable def f89_2_j30_r {R : Type} (g_f89_2 : Nat → f89_2_T R) (k : Nat) : Lrc D R := (lrcAdd 1000033 (f89_2_j33_d g_f89_2 k) noLrc)
theorem f89_2_j30_d_ok {R : Type} (g_f89_2 : Nat → f89_2_T R) (h_f89_2 : ∀ (k : Nat) (e : Dr D R), FnOk Try.prog cx 89 e → FnOk Try.prog cx 89 (f89_2_d (g_f89_2 k) e)) (k : Nat) : JoinOk Try.prog cx 262 2 f89_2_ann (f89_2_j30_d (R := R) g_f89_2 k) f89_2_j30_b :=
  join_ok (keep := kp) (lrc := f89_2_j30_r (R := R) g_f89_2 k) cxOk mixed (f89_2_o_ok g_f89_2 h_f89_2 k) (show f89_2_ann (Am.keyOf f89_2_j30_b + 1000000) = some f89_2_j30_a by kernel_rfl) (L := []) (by kernel_rfl) trivial (J := [f89_2_j33_b]) (by kernel_rfl) (⟨(f89_2_j33_d_ok g_f89_2 h_f89_2 k).use (by kernel_rfl), trivial⟩) ((LrcNat.add (f89_2_j33_d_ok g_f89_2 h_f89_2 k).2 LrcNat.no)) (fun _x _y _K => by kernel_rfl)
noncomputable def f89_2_j35_b : Code := joinAt f89_2_ann f89_2_b 10
noncomputable def f89_2_j35_g {R : Type} (g_f89_2 : Nat → f89_2_T R) (k : Nat) (x : (Unit × Int × Unit × Unit × Int × Unit × Bool × Int × Unit × Int × Unit)) (y : ((List Int × Unit × Int × Int × Int × Unit) × List D1 × (Int × Int × Int × Int × Bool × Unit) × List D2 × (Int × Int × Int × Bool × Unit) × (Int × Unit × Unit × Bool × Unit) × List Int × List D2 × Unit)) (K : KX R) : Option R := f89_2_j35 g_f89_2 k x.2.1 x.2.2.2.2.1 x.2.2.2.2.2.2.1 x.2.2.2.2.2.2.2.1 x.2.2.2.2.2.2.2.2.2.1 y.1.1 y.1.2.2.1 y.1.2.2.2.1 y.1.2.2.2.2.1 y.2.1 y.2.2.1.1 y.2.2.1.2.1 y.2.2.1.2.2.1 y.2.2.1.2.2.2.1 y.2.2.1.2.2.2.2.1 y.2.2.2.1 y.2.2.2.2.1.1 y.2.2.2.2.1.2.1 y.2.2.2.2.1.2.2.1 y.2.2.2.2.1.2.2.2.1 y.2.2.2.2.2.1.1 y.2.2.2.2.2.1.2.2.2.1 y.2.2.2.2.2.2.1 y.2.2.2.2.2.2.2.1 (fun z0 z1 z2 z3 z4 z5 z6 => K (.exit 0) [.int .i64 z0, .own 137439097856] [some (.row (.named 2) z1 true), some (.box [.list (.int .u8) z2, .own 137439077376, .int .i64 z3, .int .i64 z4, .int .i64 z5]), some (.row (.named 1) z6 true)]) (fun z0 z1 z2 z3 z4 z5 z6 z7 z8 z9 z10 z11 z12 => K (.normal) [.ptr 0 0, .int .i64 z0, .ptr 65632 0, .own 137439098880, .int .i64 z1] [some (.box [.list (.int .u8) z2, .own 137439077376, .int .i64 z3, .int .i64 z4, .int .i64 z5]), some (.row (.named 1) z6 true), some (.box [.int .i64 z7, .int .i64 z8, .int .i64 z9, .int .i64 z10, .bool z11]), some (.row (.named 2) z12 true)])
noncomputable def f89_2_j35_d {R : Type} (g_f89_2 : Nat → f89_2_T R) (k : Nat) : Lr D R := ldoor [.ptr 0 0, .int .i64, .ptr 65632 0, .own 137439096832, .int .i64, .ptr 655616 0, .bool, .int .i64, .ptr 1835344 0, .int .i64] [some (.box [.list (.int .u8), .own 137439077376, .int .i64, .int .i64, .int .i64]), some (.row (.named 1) true), some (.box [.int .i64, .int .i64, .int .i64, .int .i64, .bool]), some (.row (.named 2) true), some (.box [.int .i64, .int .i64, .int .i64, .bool]), some (.box [.int .i64, .own 137439077377, .own 137439077378, .bool]), some (.row (.int .u8) true), some (.row (.named 2) true)] (f89_2_j35_g g_f89_2 k)
noncomputable def f89_2_j35_r {R : Type} (_g_f89_2 : Nat → f89_2_T R) (_k : Nat) : Lrc D R := noLrc
theorem f89_2_j35_d_ok {R : Type} (g_f89_2 : Nat → f89_2_T R) (h_f89_2 : ∀ (k : Nat) (e : Dr D R), FnOk Try.prog cx 89 e → FnOk Try.prog cx 89 (f89_2_d (g_f89_2 k) e)) (k : Nat) : JoinOk Try.prog cx 262 2 f89_2_ann (f89_2_j35_d (R := R) g_f89_2 k) f89_2_j35_b :=
  join_ok (keep := kp) (lrc := f89_2_j35_r (R := R) g_f89_2 k) cxOk mixed (f89_2_o_ok g_f89_2 h_f89_2 k) (show f89_2_ann (Am.keyOf f89_2_j35_b + 1000000) = some f89_2_j35_a by kernel_rfl) (L := []) (by kernel_rfl) trivial (J := []) (by kernel_rfl) trivial (LrcNat.no) (fun _x _y _K => by kernel_rfl)
noncomputable def f89_2_j24_b : Code := joinAt f89_2_ann f89_2_b 7
noncomputable def f89_2_j24_g {R : Type} (g_f89_2 : Nat → f89_2_T R) (k : Nat) (x : (Unit × Int × Unit × Unit × Int × Int × Unit × Unit × Int × Bool × Unit)) (y : ((List Int × Unit × Int × Int × Int × Unit) × List D1 × (Int × Int × Int × Int × Bool × Unit) × List D2 × (Int × ByteArray × Int × Bool × Bool × Unit) × (Int × Int × Int × Bool × Unit) × Unit)) (K : KX R) : Option R := f89_2_j24 g_f89_2 k x.2.1 x.2.2.2.2.1 x.2.2.2.2.2.1 x.2.2.2.2.2.2.2.2.1 x.2.2.2.2.2.2.2.2.2.1 y.1.1 y.1.2.2.1 y.1.2.2.2.1 y.1.2.2.2.2.1 y.2.1 y.2.2.1.1 y.2.2.1.2.1 y.2.2.1.2.2.1 y.2.2.1.2.2.2.1 y.2.2.1.2.2.2.2.1 y.2.2.2.1 y.2.2.2.2.1.1 y.2.2.2.2.1.2.1 y.2.2.2.2.1.2.2.1 y.2.2.2.2.1.2.2.2.1 y.2.2.2.2.1.2.2.2.2.1 y.2.2.2.2.2.1.1 y.2.2.2.2.2.1.2.1 y.2.2.2.2.2.1.2.2.1 y.2.2.2.2.2.1.2.2.2.1 (fun z0 z1 z2 z3 z4 z5 z6 => K (.exit 0) [.int .i64 z0, .own 137439052802] [some (.row (.named 2) z1 true), some (.box [.list (.int .u8) z2, .own 137439052800, .int .i64 z3, .int .i64 z4, .int .i64 z5]), some (.row (.named 1) z6 true)]) (fun z0 z1 z2 z3 z4 z5 z6 z7 z8 z9 z10 z11 z12 => K (.normal) [.ptr 0 0, .int .i64 z0, .ptr 65632 0, .own 137439098880, .int .i64 z1] [some (.box [.list (.int .u8) z2, .own 137439077376, .int .i64 z3, .int .i64 z4, .int .i64 z5]), some (.row (.named 1) z6 true), some (.box [.int .i64 z7, .int .i64 z8, .int .i64 z9, .int .i64 z10, .bool z11]), some (.row (.named 2) z12 true)])
noncomputable def f89_2_j24_d {R : Type} (g_f89_2 : Nat → f89_2_T R) (k : Nat) : Lr D R := ldoor [.ptr 0 0, .int .i64, .ptr 65632 0, .own 137439051776, .int .i64, .int .i64, .ptr 458976 0, .ptr 655616 0, .int .i64, .bool] [some (.box [.list (.int .u8), .own 137439051777, .int .i64, .int .i64, .int .i64]), some (.row (.named 1) true), some (.box [.int .i64, .int .i64, .int .i64, .int .i64, .bool]), some (.row (.named 2) true), some (.box [.int .i64, .str, .int .i64, .bool, .bool]), some (.box [.int .i64, .int .i64, .int .i64, .bool])] (f89_2_j24_g g_f89_2 k)
noncomputable def f89_2_j24_r {R : Type} (g_f89_2 : Nat → f89_2_T R) (k : Nat) : Lrc D R := (lrcAdd 1000035 (f89_2_j35_d g_f89_2 k) (lrcAdd 1000033 (f89_2_j33_d g_f89_2 k) (lrcAdd 1000030 (f89_2_j30_d g_f89_2 k) noLrc)))
theorem f89_2_j24_d_ok {R : Type} (g_f89_2 : Nat → f89_2_T R) (h_f89_2 : ∀ (k : Nat) (e : Dr D R), FnOk Try.prog cx 89 e → FnOk Try.prog cx 89 (f89_2_d (g_f89_2 k) e)) (k : Nat) : JoinOk Try.prog cx 262 2 f89_2_ann (f89_2_j24_d (R := R) g_f89_2 k) f89_2_j24_b :=
  join_ok (keep := kp) (lrc := f89_2_j24_r (R := R) g_f89_2 k) cxOk mixed (f89_2_o_ok g_f89_2 h_f89_2 k) (show f89_2_ann (Am.keyOf f89_2_j24_b + 1000000) = some f89_2_j24_a by kernel_rfl) (L := []) (by kernel_rfl) trivial (J := [f89_2_j30_b, f89_2_j33_b, f89_2_j35_b]) (by kernel_rfl) (⟨(f89_2_j30_d_ok g_f89_2 h_f89_2 k).use (by kernel_rfl), (f89_2_j33_d_ok g_f89_2 h_f89_2 k).use (by kernel_rfl), (f89_2_j35_d_ok g_f89_2 h_f89_2 k).use (by kernel_rfl), trivial⟩) ((LrcNat.add (f89_2_j35_d_ok g_f89_2 h_f89_2 k).2 (LrcNat.add (f89_2_j33_d_ok g_f89_2 h_f89_2 k).2 (LrcNat.add (f89_2_j30_d_ok g_f89_2 h_f89_2 k).2 LrcNat.no)))) (fun _x _y _K => by kernel_rfl)
noncomputable def f89_2_j20_b : Code := joinAt f89_2_ann f89_2_b 6
noncomputable def f89_2_j20_g {R : Type} (g_f89_2 : Nat → f89_2_T R) (k : Nat) (x : (Unit × Int × Unit × Unit × Int × Int × Unit × Unit × Int × Bool × Unit)) (y : ((List Int × Unit × Int × Int × Int × Unit) × List D1 × (Int × Int × Int × Int × Bool × Unit) × List D2 × (Int × ByteArray × Int × Bool × Bool × Unit) × (Int × Int × Int × Bool × Unit) × Unit)) (K : KX R) : Option R := f89_2_j20 g_f89_2 k x.2.1 x.2.2.2.2.1 x.2.2.2.2.2.1 x.2.2.2.2.2.2.2.2.1 x.2.2.2.2.2.2.2.2.2.1 y.1.1 y.1.2.2.1 y.1.2.2.2.1 y.1.2.2.2.2.1 y.2.1 y.2.2.1.1 y.2.2.1.2.1 y.2.2.1.2.2.1 y.2.2.1.2.2.2.1 y.2.2.1.2.2.2.2.1 y.2.2.2.1 y.2.2.2.2.1.1 y.2.2.2.2.1.2.1 y.2.2.2.2.1.2.2.1 y.2.2.2.2.1.2.2.2.1 y.2.2.2.2.1.2.2.2.2.1 y.2.2.2.2.2.1.1 y.2.2.2.2.2.1.2.1 y.2.2.2.2.2.1.2.2.1 y.2.2.2.2.2.1.2.2.2.1 (fun z0 z1 z2 z3 z4 z5 z6 => K (.exit 0) [.int .i64 z0, .own 137439036416] [some (.row (.named 2) z1 true), some (.box [.list (.int .u8) z2, .own 137439052800, .int .i64 z3, .int .i64 z4, .int .i64 z5]), some (.row (.named 1) z6 true)]) (fun z0 z1 z2 z3 z4 z5 z6 z7 z8 z9 z10 z11 z12 => K (.normal) [.ptr 0 0, .int .i64 z0, .ptr 65632 0, .own 137439098880, .int .i64 z1] [some (.box [.list (.int .u8) z2, .own 137439077376, .int .i64 z3, .int .i64 z4, .int .i64 z5]), some (.row (.named 1) z6 true), some (.box [.int .i64 z7, .int .i64 z8, .int .i64 z9, .int .i64 z10, .bool z11]), some (.row (.named 2) z12 true)])
noncomputable def f89_2_j20_d {R : Type} (g_f89_2 : Nat → f89_2_T R) (k : Nat) : Lr D R := ldoor [.ptr 0 0, .int .i64, .ptr 65632 0, .own 137439035392, .int .i64, .int .i64, .ptr 458976 0, .ptr 655616 0, .int .i64, .bool] [some (.box [.list (.int .u8), .own 137439035393, .int .i64, .int .i64, .int .i64]), some (.row (.named 1) true), some (.box [.int .i64, .int .i64, .int .i64, .int .i64, .bool]), some (.row (.named 2) true), some (.box [.int .i64, .str, .int .i64, .bool, .bool]), some (.box [.int .i64, .int .i64, .int .i64, .bool])] (f89_2_j20_g g_f89_2 k)
noncomputable def f89_2_j20_r {R : Type} (g_f89_2 : Nat → f89_2_T R) (k : Nat) : Lrc D R := (lrcAdd 1000035 (f89_2_j35_d g_f89_2 k) (lrcAdd 1000033 (f89_2_j33_d g_f89_2 k) (lrcAdd 1000030 (f89_2_j30_d g_f89_2 k) (lrcAdd 1000024 (f89_2_j24_d g_f89_2 k) noLrc))))
theorem f89_2_j20_d_ok {R : Type} (g_f89_2 : Nat → f89_2_T R) (h_f89_2 : ∀ (k : Nat) (e : Dr D R), FnOk Try.prog cx 89 e → FnOk Try.prog cx 89 (f89_2_d (g_f89_2 k) e)) (k : Nat) : JoinOk Try.prog cx 262 2 f89_2_ann (f89_2_j20_d (R := R) g_f89_2 k) f89_2_j20_b :=
  join_ok (keep := kp) (lrc := f89_2_j20_r (R := R) g_f89_2 k) cxOk mixed (f89_2_o_ok g_f89_2 h_f89_2 k) (show f89_2_ann (Am.keyOf f89_2_j20_b + 1000000) = some f89_2_j20_a by kernel_rfl) (L := []) (by kernel_rfl) trivial (J := [f89_2_j24_b, f89_2_j30_b, f89_2_j33_b, f89_2_j35_b]) (by kernel_rfl) (⟨(f89_2_j24_d_ok g_f89_2 h_f89_2 k).use (by kernel_rfl), (f89_2_j30_d_ok g_f89_2 h_f89_2 k).use (by kernel_rfl), (f89_2_j33_d_ok g_f89_2 h_f89_2 k).use (by kernel_rfl), (f89_2_j35_d_ok g_f89_2 h_f89_2 k).use (by kernel_rfl), trivial⟩) ((LrcNat.add (f89_2_j35_d_ok g_f89_2 h_f89_2 k).2 (LrcNat.add (f89_2_j33_d_ok g_f89_2 h_f89_2 k).2 (LrcNat.add (f89_2_j30_d_ok g_f89_2 h_f89_2 k).2 (LrcNat.add (f89_2_j24_d_ok g_f89_2 h_f89_2 k).2 LrcNat.no))))) (fun _x _y _K => by kernel_rfl)
noncomputable def f89_2_j19_b : Code := joinAt f89_2_ann f89_2_b 5
noncomputable def f89_2_j19_g {R : Type} (g_f89_2 : Nat → f89_2_T R) (k : Nat) (x : (Unit × Int × Unit × Unit × Int × Int × Unit × Bool × Unit × Int × Unit)) (y : ((List Int × Unit × Int × Int × Int × Unit) × List D1 × (Int × Int × Int × Int × Bool × Unit) × List D2 × (Int × ByteArray × Int × Bool × Bool × Unit) × (Int × Int × Int × Bool × Unit) × Unit)) (K : KX R) : Option R := f89_2_j19 g_f89_2 k x.2.1 x.2.2.2.2.1 x.2.2.2.2.2.1 x.2.2.2.2.2.2.2.1 x.2.2.2.2.2.2.2.2.2.1 y.1.1 y.1.2.2.1 y.1.2.2.2.1 y.1.2.2.2.2.1 y.2.1 y.2.2.1.1 y.2.2.1.2.1 y.2.2.1.2.2.1 y.2.2.1.2.2.2.1 y.2.2.1.2.2.2.2.1 y.2.2.2.1 y.2.2.2.2.1.1 y.2.2.2.2.1.2.1 y.2.2.2.2.1.2.2.1 y.2.2.2.2.1.2.2.2.1 y.2.2.2.2.1.2.2.2.2.1 y.2.2.2.2.2.1.1 y.2.2.2.2.2.1.2.1 y.2.2.2.2.2.1.2.2.1 y.2.2.2.2.2.1.2.2.2.1 (fun z0 z1 z2 z3 z4 z5 z6 => K (.exit 0) [.int .i64 z0, .own 137439032320] [some (.row (.named 2) z1 true), some (.box [.list (.int .u8) z2, .own 137439052800, .int .i64 z3, .int .i64 z4, .int .i64 z5]), some (.row (.named 1) z6 true)]) (fun z0 z1 z2 z3 z4 z5 z6 z7 z8 z9 z10 z11 z12 => K (.normal) [.ptr 0 0, .int .i64 z0, .ptr 65632 0, .own 137439098880, .int .i64 z1] [some (.box [.list (.int .u8) z2, .own 137439077376, .int .i64 z3, .int .i64 z4, .int .i64 z5]), some (.row (.named 1) z6 true), some (.box [.int .i64 z7, .int .i64 z8, .int .i64 z9, .int .i64 z10, .bool z11]), some (.row (.named 2) z12 true)])
noncomputable def f89_2_j19_d {R : Type} (g_f89_2 : Nat → f89_2_T R) (k : Nat) : Lr D R := ldoor [.ptr 0 0, .int .i64, .ptr 65632 0, .own 137439031296, .int .i64, .int .i64, .ptr 458976 0, .bool, .ptr 655616 0, .int .i64] [some (.box [.list (.int .u8), .own 137439031297, .int .i64, .int .i64, .int .i64]), some (.row (.named 1) true), some (.box [.int .i64, .int .i64, .int .i64, .int .i64, .bool]), some (.row (.named 2) true), some (.box [.int .i64, .str, .int .i64, .bool, .bool]), some (.box [.int .i64, .int .i64, .int .i64, .bool])] (f89_2_j19_g g_f89_2 k)
noncomputable def f89_2_j19_r {R : Type} (g_f89_2 : Nat → f89_2_T R) (k : Nat) : Lrc D R := (lrcAdd 1000035 (f89_2_j35_d g_f89_2 k) (lrcAdd 1000033 (f89_2_j33_d g_f89_2 k) (lrcAdd 1000030 (f89_2_j30_d g_f89_2 k) (lrcAdd 1000024 (f89_2_j24_d g_f89_2 k) (lrcAdd 1000020 (f89_2_j20_d g_f89_2 k) noLrc)))))
theorem f89_2_j19_d_ok {R : Type} (g_f89_2 : Nat → f89_2_T R) (h_f89_2 : ∀ (k : Nat) (e : Dr D R), FnOk Try.prog cx 89 e → FnOk Try.prog cx 89 (f89_2_d (g_f89_2 k) e)) (k : Nat) : JoinOk Try.prog cx 262 2 f89_2_ann (f89_2_j19_d (R := R) g_f89_2 k) f89_2_j19_b :=
  join_ok (keep := kp) (lrc := f89_2_j19_r (R := R) g_f89_2 k) cxOk mixed (f89_2_o_ok g_f89_2 h_f89_2 k) (show f89_2_ann (Am.keyOf f89_2_j19_b + 1000000) = some f89_2_j19_a by kernel_rfl) (L := []) (by kernel_rfl) trivial (J := [f89_2_j20_b, f89_2_j24_b, f89_2_j30_b, f89_2_j33_b, f89_2_j35_b]) (by kernel_rfl) (⟨(f89_2_j20_d_ok g_f89_2 h_f89_2 k).use (by kernel_rfl), (f89_2_j24_d_ok g_f89_2 h_f89_2 k).use (by kernel_rfl), (f89_2_j30_d_ok g_f89_2 h_f89_2 k).use (by kernel_rfl), (f89_2_j33_d_ok g_f89_2 h_f89_2 k).use (by kernel_rfl), (f89_2_j35_d_ok g_f89_2 h_f89_2 k).use (by kernel_rfl), trivial⟩) ((LrcNat.add (f89_2_j35_d_ok g_f89_2 h_f89_2 k).2 (LrcNat.add (f89_2_j33_d_ok g_f89_2 h_f89_2 k).2 (LrcNat.add (f89_2_j30_d_ok g_f89_2 h_f89_2 k).2 (LrcNat.add (f89_2_j24_d_ok g_f89_2 h_f89_2 k).2 (LrcNat.add (f89_2_j20_d_ok g_f89_2 h_f89_2 k).2 LrcNat.no)))))) (fun _x _y _K => by kernel_rfl)
noncomputable def f89_2_j9_b : Code := joinAt f89_2_ann f89_2_b 2
noncomputable def f89_2_j9_g {R : Type} (g_f89_2 : Nat → f89_2_T R) (k : Nat) (x : (Unit × Int × Unit × Unit × Int × Int × Unit × Bool × Unit)) (y : ((List Int × Unit × Int × Int × Int × Unit) × List D1 × (Int × Int × Int × Int × Bool × Unit) × List D2 × (Int × ByteArray × Int × Bool × Bool × Unit) × Unit)) (K : KX R) : Option R := f89_2_j9 g_f89_2 k x.2.1 x.2.2.2.2.1 x.2.2.2.2.2.1 x.2.2.2.2.2.2.2.1 y.1.1 y.1.2.2.1 y.1.2.2.2.1 y.1.2.2.2.2.1 y.2.1 y.2.2.1.1 y.2.2.1.2.1 y.2.2.1.2.2.1 y.2.2.1.2.2.2.1 y.2.2.1.2.2.2.2.1 y.2.2.2.1 y.2.2.2.2.1.1 y.2.2.2.2.1.2.1 y.2.2.2.2.1.2.2.1 y.2.2.2.2.1.2.2.2.1 y.2.2.2.2.1.2.2.2.2.1 (fun z0 z1 z2 z3 z4 z5 z6 => K (.exit 0) [.int .i64 z0, .own 137438991362] [some (.row (.named 2) z1 true), some (.box [.list (.int .u8) z2, .own 137438991360, .int .i64 z3, .int .i64 z4, .int .i64 z5]), some (.row (.named 1) z6 true)]) (fun z0 z1 z2 z3 z4 z5 z6 z7 z8 z9 z10 z11 z12 => K (.normal) [.ptr 0 0, .int .i64 z0, .ptr 65632 0, .own 137439098880, .int .i64 z1] [some (.box [.list (.int .u8) z2, .own 137439077376, .int .i64 z3, .int .i64 z4, .int .i64 z5]), some (.row (.named 1) z6 true), some (.box [.int .i64 z7, .int .i64 z8, .int .i64 z9, .int .i64 z10, .bool z11]), some (.row (.named 2) z12 true)])
noncomputable def f89_2_j9_d {R : Type} (g_f89_2 : Nat → f89_2_T R) (k : Nat) : Lr D R := ldoor [.ptr 0 0, .int .i64, .ptr 65632 0, .own 137438990336, .int .i64, .int .i64, .ptr 458976 0, .bool] [some (.box [.list (.int .u8), .own 137438990337, .int .i64, .int .i64, .int .i64]), some (.row (.named 1) true), some (.box [.int .i64, .int .i64, .int .i64, .int .i64, .bool]), some (.row (.named 2) true), some (.box [.int .i64, .str, .int .i64, .bool, .bool])] (f89_2_j9_g g_f89_2 k)
noncomputable def f89_2_j9_r {R : Type} (g_f89_2 : Nat → f89_2_T R) (k : Nat) : Lrc D R := (lrcAdd 1000035 (f89_2_j35_d g_f89_2 k) (lrcAdd 1000033 (f89_2_j33_d g_f89_2 k) (lrcAdd 1000030 (f89_2_j30_d g_f89_2 k) (lrcAdd 1000024 (f89_2_j24_d g_f89_2 k) (lrcAdd 1000020 (f89_2_j20_d g_f89_2 k) (lrcAdd 1000019 (f89_2_j19_d g_f89_2 k) (lrcAdd 1000016 (f89_2_j16_d g_f89_2 k) (lrcAdd 1000014 (f89_2_j14_d g_f89_2 k) noLrc))))))))
theorem f89_2_j9_d_ok {R : Type} (g_f89_2 : Nat → f89_2_T R) (h_f89_2 : ∀ (k : Nat) (e : Dr D R), FnOk Try.prog cx 89 e → FnOk Try.prog cx 89 (f89_2_d (g_f89_2 k) e)) (k : Nat) : JoinOk Try.prog cx 262 2 f89_2_ann (f89_2_j9_d (R := R) g_f89_2 k) f89_2_j9_b :=
  join_ok (keep := kp) (lrc := f89_2_j9_r (R := R) g_f89_2 k) cxOk mixed (f89_2_o_ok g_f89_2 h_f89_2 k) (show f89_2_ann (Am.keyOf f89_2_j9_b + 1000000) = some f89_2_j9_a by kernel_rfl) (L := []) (by kernel_rfl) trivial (J := [f89_2_j14_b, f89_2_j16_b, f89_2_j19_b, f89_2_j20_b, f89_2_j24_b, f89_2_j30_b, f89_2_j33_b, f89_2_j35_b]) (by kernel_rfl) (⟨(f89_2_j14_d_ok g_f89_2 h_f89_2 k).use (by kernel_rfl), (f89_2_j16_d_ok g_f89_2 h_f89_2 k).use (by kernel_rfl), (f89_2_j19_d_ok g_f89_2 h_f89_2 k).use (by kernel_rfl), (f89_2_j20_d_ok g_f89_2 h_f89_2 k).use (by kernel_rfl), (f89_2_j24_d_ok g_f89_2 h_f89_2 k).use (by kernel_rfl), (f89_2_j30_d_ok g_f89_2 h_f89_2 k).use (by kernel_rfl), (f89_2_j33_d_ok g_f89_2 h_f89_2 k).use (by kernel_rfl), (f89_2_j35_d_ok g_f89_2 h_f89_2 k).use (by kernel_rfl), trivial⟩) ((LrcNat.add (f89_2_j35_d_ok g_f89_2 h_f89_2 k).2 (LrcNat.add (f89_2_j33_d_ok g_f89_2 h_f89_2 k).2 (LrcNat.add (f89_2_j30_d_ok g_f89_2 h_f89_2 k).2 (LrcNat.add (f89_2_j24_d_ok g_f89_2 h_f89_2 k).2 (LrcNat.add (f89_2_j20_d_ok g_f89_2 h_f89_2 k).2 (LrcNat.add (f89_2_j19_d_ok g_f89_2 h_f89_2 k).2 (LrcNat.add (f89_2_j16_d_ok g_f89_2 h_f89_2 k).2 (LrcNat.add (f89_2_j14_d_ok g_f89_2 h_f89_2 k).2 LrcNat.no))))))))) (fun _x _y _K => by kernel_rfl)
noncomputable def f89_2_j5_b : Code := joinAt f89_2_ann f89_2_b 0
noncomputable def f89_2_j5_g {R : Type} (g_f89_2 : Nat → f89_2_T R) (k : Nat) (x : (Unit × Int × Unit × Unit × Int × Unit)) (y : ((List Int × Unit × Int × Int × Int × Unit) × List D1 × (Int × Int × Int × Int × Bool × Unit) × List D2 × Unit)) (K : KX R) : Option R := f89_2_j5 g_f89_2 k x.2.1 x.2.2.2.2.1 y.1.1 y.1.2.2.1 y.1.2.2.2.1 y.1.2.2.2.2.1 y.2.1 y.2.2.1.1 y.2.2.1.2.1 y.2.2.1.2.2.1 y.2.2.1.2.2.2.1 y.2.2.1.2.2.2.2.1 y.2.2.2.1 (fun z0 z1 z2 z3 z4 z5 z6 => K (.exit 0) [.int .i64 z0, .own 137438974976] [some (.row (.named 2) z1 true), some (.box [.list (.int .u8) z2, .own 137438991360, .int .i64 z3, .int .i64 z4, .int .i64 z5]), some (.row (.named 1) z6 true)]) (fun z0 z1 z2 z3 z4 z5 z6 z7 z8 z9 z10 z11 z12 => K (.normal) [.ptr 0 0, .int .i64 z0, .ptr 65632 0, .own 137439098880, .int .i64 z1] [some (.box [.list (.int .u8) z2, .own 137439077376, .int .i64 z3, .int .i64 z4, .int .i64 z5]), some (.row (.named 1) z6 true), some (.box [.int .i64 z7, .int .i64 z8, .int .i64 z9, .int .i64 z10, .bool z11]), some (.row (.named 2) z12 true)]) (fun z0 z1 z2 z3 z4 z5 z6 => K (.ret) [.own 137438977024, .int .i64 z0] [some (.row (.named 2) z1 true), some (.box [.list (.int .u8) z2, .own 137438977025, .int .i64 z3, .int .i64 z4, .int .i64 z5]), some (.row (.named 1) z6 true)])
noncomputable def f89_2_j5_d {R : Type} (g_f89_2 : Nat → f89_2_T R) (k : Nat) : Lr D R := ldoor [.ptr 0 0, .int .i64, .ptr 65632 0, .own 137438973952, .int .i64] [some (.box [.list (.int .u8), .own 137438973953, .int .i64, .int .i64, .int .i64]), some (.row (.named 1) true), some (.box [.int .i64, .int .i64, .int .i64, .int .i64, .bool]), some (.row (.named 2) true)] (f89_2_j5_g g_f89_2 k)
noncomputable def f89_2_j5_r {R : Type} (g_f89_2 : Nat → f89_2_T R) (k : Nat) : Lrc D R := (lrcAdd 1000035 (f89_2_j35_d g_f89_2 k) (lrcAdd 1000033 (f89_2_j33_d g_f89_2 k) (lrcAdd 1000030 (f89_2_j30_d g_f89_2 k) (lrcAdd 1000024 (f89_2_j24_d g_f89_2 k) (lrcAdd 1000020 (f89_2_j20_d g_f89_2 k) (lrcAdd 1000019 (f89_2_j19_d g_f89_2 k) (lrcAdd 1000016 (f89_2_j16_d g_f89_2 k) (lrcAdd 1000014 (f89_2_j14_d g_f89_2 k) (lrcAdd 1000009 (f89_2_j9_d g_f89_2 k) (lrcAdd 1000008 (f89_2_j8_d g_f89_2 k) noLrc))))))))))
theorem f89_2_j5_d_ok {R : Type} (g_f89_2 : Nat → f89_2_T R) (h_f89_2 : ∀ (k : Nat) (e : Dr D R), FnOk Try.prog cx 89 e → FnOk Try.prog cx 89 (f89_2_d (g_f89_2 k) e)) (k : Nat) : JoinOk Try.prog cx 262 2 f89_2_ann (f89_2_j5_d (R := R) g_f89_2 k) f89_2_j5_b :=
  join_ok (keep := kp) (lrc := f89_2_j5_r (R := R) g_f89_2 k) cxOk mixed (f89_2_o_ok g_f89_2 h_f89_2 k) (show f89_2_ann (Am.keyOf f89_2_j5_b + 1000000) = some f89_2_j5_a by kernel_rfl) (L := []) (by kernel_rfl) trivial (J := [f89_2_j8_b, f89_2_j9_b, f89_2_j14_b, f89_2_j16_b, f89_2_j19_b, f89_2_j20_b, f89_2_j24_b, f89_2_j30_b, f89_2_j33_b, f89_2_j35_b]) (by kernel_rfl) (⟨(f89_2_j8_d_ok g_f89_2 h_f89_2 k).use (by kernel_rfl), (f89_2_j9_d_ok g_f89_2 h_f89_2 k).use (by kernel_rfl), (f89_2_j14_d_ok g_f89_2 h_f89_2 k).use (by kernel_rfl), (f89_2_j16_d_ok g_f89_2 h_f89_2 k).use (by kernel_rfl), (f89_2_j19_d_ok g_f89_2 h_f89_2 k).use (by kernel_rfl), (f89_2_j20_d_ok g_f89_2 h_f89_2 k).use (by kernel_rfl), (f89_2_j24_d_ok g_f89_2 h_f89_2 k).use (by kernel_rfl), (f89_2_j30_d_ok g_f89_2 h_f89_2 k).use (by kernel_rfl), (f89_2_j33_d_ok g_f89_2 h_f89_2 k).use (by kernel_rfl), (f89_2_j35_d_ok g_f89_2 h_f89_2 k).use (by kernel_rfl), trivial⟩) ((LrcNat.add (f89_2_j35_d_ok g_f89_2 h_f89_2 k).2 (LrcNat.add (f89_2_j33_d_ok g_f89_2 h_f89_2 k).2 (LrcNat.add (f89_2_j30_d_ok g_f89_2 h_f89_2 k).2 (LrcNat.add (f89_2_j24_d_ok g_f89_2 h_f89_2 k).2 (LrcNat.add (f89_2_j20_d_ok g_f89_2 h_f89_2 k).2 (LrcNat.add (f89_2_j19_d_ok g_f89_2 h_f89_2 k).2 (LrcNat.add (f89_2_j16_d_ok g_f89_2 h_f89_2 k).2 (LrcNat.add (f89_2_j14_d_ok g_f89_2 h_f89_2 k).2 (LrcNat.add (f89_2_j9_d_ok g_f89_2 h_f89_2 k).2 (LrcNat.add (f89_2_j8_d_ok g_f89_2 h_f89_2 k).2 LrcNat.no))))))))))) (fun _x _y _K => by kernel_rfl)
noncomputable def f89_2_l3_b : Code := loopAt f89_2_b 0
noncomputable def f89_2_l3_g {R : Type} (g_f89_2 : Nat → f89_2_T R) (k : Nat) (x : (Unit × Int × Unit × Unit × Int × Unit)) (y : ((List Int × Unit × Int × Int × Int × Unit) × List D1 × (Int × Int × Int × Int × Bool × Unit) × List D2 × Unit)) (K : KX R) : Option R := f89_2_l3 g_f89_2 k x.2.1 x.2.2.2.2.1 y.1.1 y.1.2.2.1 y.1.2.2.2.1 y.1.2.2.2.2.1 y.2.1 y.2.2.1.1 y.2.2.1.2.1 y.2.2.1.2.2.1 y.2.2.1.2.2.2.1 y.2.2.1.2.2.2.2.1 y.2.2.2.1 (fun z0 z1 z2 z3 z4 z5 z6 => K (.exit 0) [.int .i64 z0, .own 68719490048] [some (.row (.named 2) z1 true), some (.box [.list (.int .u8) z2, .own 68719490049, .int .i64 z3, .int .i64 z4, .int .i64 z5]), some (.row (.named 1) z6 true)]) (fun z0 z1 z2 z3 z4 z5 z6 => K (.ret) [.own 137438977024, .int .i64 z0] [some (.row (.named 2) z1 true), some (.box [.list (.int .u8) z2, .own 137438977025, .int .i64 z3, .int .i64 z4, .int .i64 z5]), some (.row (.named 1) z6 true)])
noncomputable def f89_2_l3_d {R : Type} (g_f89_2 : Nat → f89_2_T R) (k : Nat) : Lr D R := ldoor [.ptr 0 0, .int .i64, .ptr 65632 0, .own 68719489024, .int .i64] [some (.box [.list (.int .u8), .own 68719489025, .int .i64, .int .i64, .int .i64]), some (.row (.named 1) true), some (.box [.int .i64, .int .i64, .int .i64, .int .i64, .bool]), some (.row (.named 2) true)] (f89_2_l3_g g_f89_2 k)
noncomputable def f89_2_l3_r {R : Type} (g_f89_2 : Nat → f89_2_T R) (k : Nat) : Lrc D R := (lrcAdd 1000035 (f89_2_j35_d g_f89_2 k) (lrcAdd 1000033 (f89_2_j33_d g_f89_2 k) (lrcAdd 1000030 (f89_2_j30_d g_f89_2 k) (lrcAdd 1000024 (f89_2_j24_d g_f89_2 k) (lrcAdd 1000020 (f89_2_j20_d g_f89_2 k) (lrcAdd 1000019 (f89_2_j19_d g_f89_2 k) (lrcAdd 1000016 (f89_2_j16_d g_f89_2 k) (lrcAdd 1000014 (f89_2_j14_d g_f89_2 k) (lrcAdd 1000009 (f89_2_j9_d g_f89_2 k) (lrcAdd 1000008 (f89_2_j8_d g_f89_2 k) (lrcAdd 1000005 (f89_2_j5_d g_f89_2 k) noLrc)))))))))))
theorem f89_2_l3_d_ok {R : Type} (g_f89_2 : Nat → f89_2_T R) (h_f89_2 : ∀ (k : Nat) (e : Dr D R), FnOk Try.prog cx 89 e → FnOk Try.prog cx 89 (f89_2_d (g_f89_2 k) e)) : ∀ k, LoopOk Try.prog cx 262 2 f89_2_ann (f89_2_l3_d (R := R) g_f89_2 k) f89_2_l3_b :=
  loop_ok (keep := kp) (lrc := f89_2_l3_r (R := R) g_f89_2) cxOk mixed (f89_2_o_ok g_f89_2 h_f89_2) (show f89_2_ann (Am.keyOf f89_2_l3_b) = some f89_2_l3_a by kernel_rfl) (L := []) (by kernel_rfl) (fun _k => trivial) (J := [f89_2_j5_b, f89_2_j8_b, f89_2_j9_b, f89_2_j14_b, f89_2_j16_b, f89_2_j19_b, f89_2_j20_b, f89_2_j24_b, f89_2_j30_b, f89_2_j33_b, f89_2_j35_b]) (by kernel_rfl) (fun k => ⟨(f89_2_j5_d_ok g_f89_2 h_f89_2 k).use (by kernel_rfl), (f89_2_j8_d_ok g_f89_2 h_f89_2 k).use (by kernel_rfl), (f89_2_j9_d_ok g_f89_2 h_f89_2 k).use (by kernel_rfl), (f89_2_j14_d_ok g_f89_2 h_f89_2 k).use (by kernel_rfl), (f89_2_j16_d_ok g_f89_2 h_f89_2 k).use (by kernel_rfl), (f89_2_j19_d_ok g_f89_2 h_f89_2 k).use (by kernel_rfl), (f89_2_j20_d_ok g_f89_2 h_f89_2 k).use (by kernel_rfl), (f89_2_j24_d_ok g_f89_2 h_f89_2 k).use (by kernel_rfl), (f89_2_j30_d_ok g_f89_2 h_f89_2 k).use (by kernel_rfl), (f89_2_j33_d_ok g_f89_2 h_f89_2 k).use (by kernel_rfl), (f89_2_j35_d_ok g_f89_2 h_f89_2 k).use (by kernel_rfl), trivial⟩) (fun k => (LrcNat.add (f89_2_j35_d_ok g_f89_2 h_f89_2 k).2 (LrcNat.add (f89_2_j33_d_ok g_f89_2 h_f89_2 k).2 (LrcNat.add (f89_2_j30_d_ok g_f89_2 h_f89_2 k).2 (LrcNat.add (f89_2_j24_d_ok g_f89_2 h_f89_2 k).2 (LrcNat.add (f89_2_j20_d_ok g_f89_2 h_f89_2 k).2 (LrcNat.add (f89_2_j19_d_ok g_f89_2 h_f89_2 k).2 (LrcNat.add (f89_2_j16_d_ok g_f89_2 h_f89_2 k).2 (LrcNat.add (f89_2_j14_d_ok g_f89_2 h_f89_2 k).2 (LrcNat.add (f89_2_j9_d_ok g_f89_2 h_f89_2 k).2 (LrcNat.add (f89_2_j8_d_ok g_f89_2 h_f89_2 k).2 (LrcNat.add (f89_2_j5_d_ok g_f89_2 h_f89_2 k).2 LrcNat.no)))))))))))) (fun _x _y _K => by kernel_rfl) (fun _k _x _y _K => by kernel_rfl)
noncomputable def f89_2_r {R : Type} (g_f89_2 : Nat → f89_2_T R) (k : Nat) : Lrc D R := (lrcAdd 1000035 (f89_2_j35_d g_f89_2 k) (lrcAdd 1000033 (f89_2_j33_d g_f89_2 k) (lrcAdd 1000030 (f89_2_j30_d g_f89_2 k) (lrcAdd 1000024 (f89_2_j24_d g_f89_2 k) (lrcAdd 1000020 (f89_2_j20_d g_f89_2 k) (lrcAdd 1000019 (f89_2_j19_d g_f89_2 k) (lrcAdd 1000016 (f89_2_j16_d g_f89_2 k) (lrcAdd 1000014 (f89_2_j14_d g_f89_2 k) (lrcAdd 1000009 (f89_2_j9_d g_f89_2 k) (lrcAdd 1000008 (f89_2_j8_d g_f89_2 k) (lrcAdd 1000005 (f89_2_j5_d g_f89_2 k) (lrcAdd 3 (f89_2_l3_d g_f89_2 k) noLrc))))))))))))
noncomputable def rec_f89_2 {R : Type} : Nat → (f89_2_T R)
  | 0 => (fun _ _ _ _ _ _ _ _ _ _ _ _ => none)
  | k + 1 => (f89_2_s (fun _ => (rec_f89_2 (R := R) k)) k)
theorem rec_f89_2_succ {R : Type} (k : Nat) : rec_f89_2 (R := R) (k + 1) = (f89_2_s (fun _ => (rec_f89_2 (R := R) k)) k) := rfl
theorem rec_f89_2_ok {R : Type} : ∀ k, (∀ e : Dr D R, FnOk Try.prog cx 89 e → FnOk Try.prog cx 89 (f89_2_d (rec_f89_2 (R := R) k) e))
  | 0 => fun e he => he.door0 fun x y _K => rfl
  | k + 1 => by
    rw [rec_f89_2_succ]
    exact fun e he => he.door fun _x _y => body_ok (keep := kp) (ann := f89_2_ann) (lrc := f89_2_r (R := R) (fun _ => (rec_f89_2 (R := R) k)) k) (N := 262) (n0 := 2) (c := []) cxOk mixed (f89_2_o_ok (fun _ => (rec_f89_2 (R := R) k)) (fun _ e he => (rec_f89_2_ok (R := R) k) e he) k) (body := f89_2_b) (by kernel_rfl : Try.prog.funcs[89]? = some Try.f89) (by kernel_rfl) (by kernel_rfl) (by kernel_rfl) (by kernel_rfl) (of_decide_eq_true (by kernel_rfl)) (L := [f89_2_l3_b]) (by kernel_rfl) (⟨(f89_2_l3_d_ok (fun _ => (rec_f89_2 (R := R) k)) (fun _ e he => (rec_f89_2_ok (R := R) k) e he) k).use (by kernel_rfl), trivial⟩) (J := [f89_2_j5_b, f89_2_j8_b, f89_2_j9_b, f89_2_j14_b, f89_2_j16_b, f89_2_j19_b, f89_2_j20_b, f89_2_j24_b, f89_2_j30_b, f89_2_j33_b, f89_2_j35_b]) (by kernel_rfl) (⟨(f89_2_j5_d_ok (fun _ => (rec_f89_2 (R := R) k)) (fun _ e he => (rec_f89_2_ok (R := R) k) e he) k).use (by kernel_rfl), (f89_2_j8_d_ok (fun _ => (rec_f89_2 (R := R) k)) (fun _ e he => (rec_f89_2_ok (R := R) k) e he) k).use (by kernel_rfl), (f89_2_j9_d_ok (fun _ => (rec_f89_2 (R := R) k)) (fun _ e he => (rec_f89_2_ok (R := R) k) e he) k).use (by kernel_rfl), (f89_2_j14_d_ok (fun _ => (rec_f89_2 (R := R) k)) (fun _ e he => (rec_f89_2_ok (R := R) k) e he) k).use (by kernel_rfl), (f89_2_j16_d_ok (fun _ => (rec_f89_2 (R := R) k)) (fun _ e he => (rec_f89_2_ok (R := R) k) e he) k).use (by kernel_rfl), (f89_2_j19_d_ok (fun _ => (rec_f89_2 (R := R) k)) (fun _ e he => (rec_f89_2_ok (R := R) k) e he) k).use (by kernel_rfl), (f89_2_j20_d_ok (fun _ => (rec_f89_2 (R := R) k)) (fun _ e he => (rec_f89_2_ok (R := R) k) e he) k).use (by kernel_rfl), (f89_2_j24_d_ok (fun _ => (rec_f89_2 (R := R) k)) (fun _ e he => (rec_f89_2_ok (R := R) k) e he) k).use (by kernel_rfl), (f89_2_j30_d_ok (fun _ => (rec_f89_2 (R := R) k)) (fun _ e he => (rec_f89_2_ok (R := R) k) e he) k).use (by kernel_rfl), (f89_2_j33_d_ok (fun _ => (rec_f89_2 (R := R) k)) (fun _ e he => (rec_f89_2_ok (R := R) k) e he) k).use (by kernel_rfl), (f89_2_j35_d_ok (fun _ => (rec_f89_2 (R := R) k)) (fun _ e he => (rec_f89_2_ok (R := R) k) e he) k).use (by kernel_rfl), trivial⟩) ((LrcNat.add (f89_2_j35_d_ok (fun _ => (rec_f89_2 (R := R) k)) (fun _ e he => (rec_f89_2_ok (R := R) k) e he) k).2 (LrcNat.add (f89_2_j33_d_ok (fun _ => (rec_f89_2 (R := R) k)) (fun _ e he => (rec_f89_2_ok (R := R) k) e he) k).2 (LrcNat.add (f89_2_j30_d_ok (fun _ => (rec_f89_2 (R := R) k)) (fun _ e he => (rec_f89_2_ok (R := R) k) e he) k).2 (LrcNat.add (f89_2_j24_d_ok (fun _ => (rec_f89_2 (R := R) k)) (fun _ e he => (rec_f89_2_ok (R := R) k) e he) k).2 (LrcNat.add (f89_2_j20_d_ok (fun _ => (rec_f89_2 (R := R) k)) (fun _ e he => (rec_f89_2_ok (R := R) k) e he) k).2 (LrcNat.add (f89_2_j19_d_ok (fun _ => (rec_f89_2 (R := R) k)) (fun _ e he => (rec_f89_2_ok (R := R) k) e he) k).2 (LrcNat.add (f89_2_j16_d_ok (fun _ => (rec_f89_2 (R := R) k)) (fun _ e he => (rec_f89_2_ok (R := R) k) e he) k).2 (LrcNat.add (f89_2_j14_d_ok (fun _ => (rec_f89_2 (R := R) k)) (fun _ e he => (rec_f89_2_ok (R := R) k) e he) k).2 (LrcNat.add (f89_2_j9_d_ok (fun _ => (rec_f89_2 (R := R) k)) (fun _ e he => (rec_f89_2_ok (R := R) k) e he) k).2 (LrcNat.add (f89_2_j8_d_ok (fun _ => (rec_f89_2 (R := R) k)) (fun _ e he => (rec_f89_2_ok (R := R) k) e he) k).2 (LrcNat.add (f89_2_j5_d_ok (fun _ => (rec_f89_2 (R := R) k)) (fun _ e he => (rec_f89_2_ok (R := R) k) e he) k).2 (LrcNat.add (f89_2_l3_d_ok (fun _ => (rec_f89_2 (R := R) k)) (fun _ e he => (rec_f89_2_ok (R := R) k) e he) k).2 LrcNat.no))))))))))))) (fun _K => by delta f89_2_s f89_2_o; generalize @f30 R = a0; generalize @f26 R = a1; generalize @f98 R = a2; generalize @f105_2 R = a3; generalize @f102_2 R = a4; generalize @f103_2 R = a5; generalize @f104_2 R = a6; revert a0 a1 a2 a3 a4 a5 a6; refine id ?_; intros; kernel_rfl)
noncomputable def f89_2 {R : Type} (k : Nat) (a0 a1 a2 a3 a4 : Int) (a5 : Bool) (a6 : List Int) (a7 a8 a9 : Int) (a10 : List D1) (K : Int → List Int → Int → Int → Int → List D2 → List D1 → Option R) : Option R := (rec_f89_2 (R := R) k) a0 a1 a2 a3 a4 a5 a6 a7 a8 a9 a10 K
theorem f89_2_ok {R : Type} (k : Nat) {e : Dr D R} (he : FnOk Try.prog cx 89 e) : FnOk Try.prog cx 89 (f89_2_d (f89_2 k) e) := (rec_f89_2_ok (R := R) k) e he
theorem f89_2_step {R : Type} (k : Nat) (a0 a1 a2 a3 a4 : Int) (a5 : Bool) (a6 : List Int) (a7 a8 a9 : Int) (a10 : List D1) (K : Int → List Int → Int → Int → Int → List D2 → List D1 → Option R) : f89_2 (k + 1) a0 a1 a2 a3 a4 a5 a6 a7 a8 a9 a10 K = f89_2_s (fun _ => f89_2 (R := R) k) k a0 a1 a2 a3 a4 a5 a6 a7 a8 a9 a10 K := rfl


end Go.Proofs.Ytklhjegfkpmdoaa

/-! What the functions do, as plain functions; and that they do. -/
namespace Go.Proofs.Ytklhjegfkpmdoaa
open Go Go.Am
abbrev f89_T (R : Type) : Type := Int → Int → Int → Int → Int → Bool → List Int → Int → Int → Int → (Int → List Int → Int → Int → Int → List D2 → List D1 → Option R) → Option R
/-! ## 89: (*diorama/dioramaref04.walker).list -/
noncomputable def f89_j8 {R : Type} (_k : Nat) (v37 v38 v39 : Int) (v40 v41 : Bool) (v42 : List Int) (v43 v44 v45 : Int) (v46 : List D1) (v47 v48 v49 v50 : Int) (v51 : Bool) (v52 : List D2) (v53 : Int) (v54 : ByteArray) (v55 : Int) (v56 v57 : Bool) (X0 : Int → Int → Int → Bool → List Int → Int → Int → Int → List D1 → Int → Int → Int → Int → Bool → List D2 → Int → ByteArray → Int → Bool → Bool → Option R) (X1 : Int → List D2 → List Int → Int → Int → Int → List D1 → Option R) : Option R :=
 bif v41 then
  X1 v37 v52 v42 v43 v44 v45 v46
 else
  X0 v37 v38 v39 v40 v42 v43 v44 v45 v46 v47 v48 v49 v50 v51 v52 v53 v54 v55 v56 v57
noncomputable def f89_j16 {R : Type} (k : Nat) (v146 v147 v148 : Int) (v149 : Bool) (v150 : Int) (v151 : Bool) (v152 : List Int) (v153 v154 v155 : Int) (v156 : List D1) (v157 v158 v159 v160 : Int) (v161 : Bool) (v162 : List D2) (v163 : Int) (v164 : ByteArray) (v165 : Int) (v166 v167 : Bool) (v168 v169 v170 : Int) (v171 : Bool) (X0 : Int → Int → Int → Bool → Int → List Int → Int → Int → Int → List D1 → Int → Int → Int → Int → Bool → List D2 → Int → ByteArray → Int → Bool → Bool → Int → Int → Int → Bool → Option R) : Option R :=
 bif v151 then
  f105_2 k v146 42 v152 v153 v154 v155 v156 (fun v172 v173 v174 v175 v176 =>
   X0 v146 v147 v148 v149 v150 v172 v173 v174 v175 v176 v157 v158 v159 v160 v161 v162 v163 v164 v165 v166 v167 v168 v169 v170 v171)
 else
  bif decide (v160 > 8) then
   f105_2 k v146 43 v152 v153 v154 v155 v156 (fun v177 v178 v179 v180 v181 =>
    X0 v146 v147 v148 v149 v150 v177 v178 v179 v180 v181 v157 v158 v159 v160 v161 v162 v163 v164 v165 v166 v167 v168 v169 v170 v171)
  else
   X0 v146 v147 v148 v149 v150 v152 v153 v154 v155 v156 v157 v158 v159 v160 v161 v162 v163 v164 v165 v166 v167 v168 v169 v170 v171
noncomputable def f89_j14 {R : Type} (k : Nat) (v114 v115 v116 : Int) (v117 : Bool) (v118 : Int) (v119 : Bool) (v120 : List Int) (v121 v122 v123 : Int) (v124 : List D1) (v125 v126 v127 v128 : Int) (v129 : Bool) (v130 : List D2) (v131 : Int) (v132 : ByteArray) (v133 : Int) (v134 v135 : Bool) (v136 v137 v138 : Int) (v139 : Bool) (X0 : Int → Int → Int → Bool → Int → List Int → Int → Int → Int → List D1 → Int → Int → Int → Int → Bool → List D2 → Int → ByteArray → Int → Bool → Bool → Int → Int → Int → Bool → Option R) : Option R :=
 bif v119 then
  f104_2 k v114 (IntKind.i64.wrap (v114 + v137)) v118 v115 v125 v126 v127 v128 v129 v120 v121 v122 v123 v124 (fun v140 v141 v142 v143 v144 =>
   X0 v114 v115 v116 v117 v118 v140 v141 v142 v143 v144 v125 v126 v127 v128 v129 v130 v131 v132 v133 v134 v135 v136 v137 v138 v139)
 else
  bif v117 then
   bif (v116 != 236) then
    f98 k v131 v132 v133 v134 v135 v125 (fun v145 =>
     f89_j16 k v114 v115 v116 v117 v118 (!v145) v120 v121 v122 v123 v124 v125 v126 v127 v128 v129 v130 v131 v132 v133 v134 v135 v136 v137 v138 v139 X0)
   else
    f89_j16 k v114 v115 v116 v117 v118 false v120 v121 v122 v123 v124 v125 v126 v127 v128 v129 v130 v131 v132 v133 v134 v135 v136 v137 v138 v139 X0
  else
   f89_j16 k v114 v115 v116 v117 v118 false v120 v121 v122 v123 v124 v125 v126 v127 v128 v129 v130 v131 v132 v133 v134 v135 v136 v137 v138 v139 X0
noncomputable def f89_j33 {R : Type} (k : Nat) (v387 v388 : Int) (v389 : Bool) (v390 : Int) (v391 : List Int) (v392 v393 v394 : Int) (v395 : List D1) (v396 v397 v398 v399 : Int) (v400 : Bool) (v401 : List D2) (v402 v403 v404 : Int) (v405 : Bool) (v406 : Int) (v407 : Bool) (v408 v409 v410 v411 : Int) (v412 : Bool) (X0 : Int → Int → Bool → Int → Int → List Int → Int → Int → Int → List D1 → Int → Int → Int → Int → Bool → List D2 → Int → Int → Int → Bool → Int → Bool → List D2 → Option R) : Option R :=
 f89_2 k (IntKind.i64.wrap (v387 + v403)) v408 v409 v410 v411 v412 v391 v392 v393 v394 v395 (fun v413 v414 v415 v416 v417 v418 v419 =>
  X0 v387 v388 v389 v390 v413 v414 v415 v416 v417 v419 v396 v397 v398 v399 v400 v401 v402 v403 v404 v405 v406 v407 v418)
noncomputable def f89_j30 {R : Type} (k : Nat) (v362 v363 v364 v365 : Int) (v366 : Bool) (v367 v368 : Int) (v369 : Bool) (v370 : List Int) (v371 v372 v373 : Int) (v374 : List D1) (v375 v376 v377 v378 : Int) (v379 : Bool) (v380 : List D2) (v381 v382 v383 : Int) (v384 : Bool) (v385 : Int) (v386 : Bool) (X0 : Int → Int → Bool → Int → Int → List Int → Int → Int → Int → List D1 → Int → Int → Int → Int → Bool → List D2 → Int → Int → Int → Bool → Int → Bool → List Int → List D2 → Option R) : Option R :=
 bif v369 then
  bif v384 then
   f89_j33 k v362 v363 v366 v367 v370 v371 v372 v373 v374 v375 v376 v377 v378 v379 v380 v381 v382 v383 v384 v385 v386 v364 v376 v377 (IntKind.i64.wrap (v378 + 1)) true (fun v420 v421 v422 v423 v424 v425 v426 v427 v428 v429 v430 v431 v432 v433 v434 v435 v436 v437 v438 v439 v440 v441 v442 =>
    X0 v420 v421 v422 v423 v424 v425 v426 v427 v428 v429 v430 v431 v432 v433 v434 v435 v436 v437 v438 v439 v440 v441 ([] : List Int) v442)
  else
   f89_j33 k v362 v363 v366 v367 v370 v371 v372 v373 v374 v375 v376 v377 v378 v379 v380 v381 v382 v383 v384 v385 v386 v364 v365 v365 (IntKind.i64.wrap (v378 + 1)) false (fun v443 v444 v445 v446 v447 v448 v449 v450 v451 v452 v453 v454 v455 v456 v457 v458 v459 v460 v461 v462 v463 v464 v465 =>
    X0 v443 v444 v445 v446 v447 v448 v449 v450 v451 v452 v453 v454 v455 v456 v457 v458 v459 v460 v461 v462 v463 v464 ([] : List Int) v465)
 else
  bif upto v365 v370.length then
   bif (decide (0 ≤ (IntKind.i64.wrap (v362 + v382)))) && (decide ((IntKind.i64.wrap (v362 + v382)) ≤ v365)) then
    bif room 1 (((v370.take v365.toNat).drop ((IntKind.i64.wrap (v362 + v382)).toNat)).length) then
     X0 v362 v363 v366 v367 v368 v370 v371 v372 v373 v374 v375 v376 v377 v378 v379 v380 v381 v382 v383 v384 v385 v386 ((v370.take v365.toNat).drop ((IntKind.i64.wrap (v362 + v382)).toNat)) ([] : List D2)
    else
     none
   else
    none
  else
   none
noncomputable def f89_j35 {R : Type} (_k : Nat) (v490 v491 : Int) (v492 : Bool) (v493 v494 : Int) (v495 : List Int) (v496 v497 v498 : Int) (v499 : List D1) (v500 v501 v502 v503 : Int) (v504 : Bool) (v505 : List D2) (_v506 v507 _v508 : Int) (_v509 : Bool) (v510 : Int) (v511 : Bool) (v512 : List Int) (v513 : List D2) (X0 : Int → List D2 → List Int → Int → Int → Int → List D1 → Option R) (X1 : Int → Int → List Int → Int → Int → Int → List D1 → Int → Int → Int → Int → Bool → List D2 → Option R) : Option R :=
 bif (v497 != 0) then
  X0 v490 v505 v495 v496 v497 v498 v499
 else
  bif inb v493 v499.length then
   bif v492 then
    bif room 64 (v505.length + ([(D2.mk v510 v512 v513 v511)]).length) then
     X1 v494 v491 v495 v496 v497 v498 (v499.set v493.toNat ((v499.getD v493.toNat zero1).1, (v499.getD v493.toNat zero1).2.1, (v499.getD v493.toNat zero1).2.2.1, (IntKind.i64.wrap ((IntKind.i64.wrap (v494 - v490)) - v507)), (v499.getD v493.toNat zero1).2.2.2.2.1, (v499.getD v493.toNat zero1).2.2.2.2.2)) v500 v501 v502 v503 v504 (v505 ++ ([(D2.mk v510 v512 v513 v511)]))
    else
     none
   else
    X1 v494 v491 v495 v496 v497 v498 (v499.set v493.toNat ((v499.getD v493.toNat zero1).1, (v499.getD v493.toNat zero1).2.1, (v499.getD v493.toNat zero1).2.2.1, (IntKind.i64.wrap ((IntKind.i64.wrap (v494 - v490)) - v507)), (v499.getD v493.toNat zero1).2.2.2.2.1, (v499.getD v493.toNat zero1).2.2.2.2.2)) v500 v501 v502 v503 v504 v505
  else
   none
noncomputable def f89_j24 {R : Type} (k : Nat) (v337 v338 v339 v340 : Int) (v341 : Bool) (v342 : List Int) (v343 v344 v345 : Int) (v346 : List D1) (v347 v348 v349 v350 : Int) (v351 : Bool) (v352 : List D2) (_v353 : Int) (_v354 : ByteArray) (_v355 : Int) (v356 _v357 : Bool) (v358 v359 v360 : Int) (v361 : Bool) (X0 : Int → List D2 → List Int → Int → Int → Int → List D1 → Option R) (X1 : Int → Int → List Int → Int → Int → Int → List D1 → Int → Int → Int → Int → Bool → List D2 → Option R) : Option R :=
 bif (v344 != 0) then
  X0 v337 v352 v342 v343 v344 v345 v346
 else
  bif room 48 (v346.length + ([(v339, v337, v359, 0, v350, v361)]).length) then
   bif v341 then
    f89_j30 k v337 v338 v339 v340 v341 (v346.length : Int) v340 v356 v342 v343 v344 v345 (v346 ++ ([(v339, v337, v359, 0, v350, v361)])) v347 v348 v349 v350 v351 v352 v358 v359 v360 v361 v339 v356 (fun v466 v467 v468 v469 v470 v471 v472 v473 v474 v475 v476 v477 v478 v479 v480 v481 v482 v483 v484 v485 v486 v487 v488 v489 =>
     f89_j35 k v466 v467 v468 v469 v470 v471 v472 v473 v474 v475 v476 v477 v478 v479 v480 v481 v482 v483 v484 v485 v486 v487 v488 v489 X0 X1)
   else
    f89_j30 k v337 v338 v339 v340 v341 (v346.length : Int) v340 false v342 v343 v344 v345 (v346 ++ ([(v339, v337, v359, 0, v350, v361)])) v347 v348 v349 v350 v351 v352 v358 v359 v360 v361 v339 v356 (fun v534 v535 v536 v537 v538 v539 v540 v541 v542 v543 v544 v545 v546 v547 v548 v549 v550 v551 v552 v553 v554 v555 v556 v557 =>
     f89_j35 k v534 v535 v536 v537 v538 v539 v540 v541 v542 v543 v544 v545 v546 v547 v548 v549 v550 v551 v552 v553 v554 v555 v556 v557 X0 X1)
  else
   none
noncomputable def f89_j20 {R : Type} (k : Nat) (v307 v308 v309 v310 : Int) (v311 : Bool) (v312 : List Int) (v313 v314 v315 : Int) (v316 : List D1) (v317 v318 v319 v320 : Int) (v321 : Bool) (v322 : List D2) (v323 : Int) (v324 : ByteArray) (v325 : Int) (v326 v327 : Bool) (v328 v329 v330 : Int) (v331 : Bool) (X0 : Int → List D2 → List Int → Int → Int → Int → List D1 → Option R) (X1 : Int → Int → List Int → Int → Int → Int → List D1 → Int → Int → Int → Int → Bool → List D2 → Option R) : Option R :=
 bif v311 then
  bif decide ((IntKind.i64.wrap (v313 + 1)) > 4000) then
   f105_2 k v307 2 v312 (IntKind.i64.wrap (v313 + 1)) v314 v315 v316 (fun v332 v333 v334 v335 v336 =>
    f89_j24 k v307 v308 v309 v310 v311 v332 v333 v334 v335 v336 v317 v318 v319 v320 v321 v322 v323 v324 v325 v326 v327 v328 v329 v330 v331 X0 X1)
  else
   f89_j24 k v307 v308 v309 v310 v311 v312 (IntKind.i64.wrap (v313 + 1)) v314 v315 v316 v317 v318 v319 v320 v321 v322 v323 v324 v325 v326 v327 v328 v329 v330 v331 X0 X1
 else
  f89_j24 k v307 v308 v309 v310 v311 v312 v313 v314 v315 v316 v317 v318 v319 v320 v321 v322 v323 v324 v325 v326 v327 v328 v329 v330 v331 X0 X1
noncomputable def f89_j19 {R : Type} (k : Nat) (v282 v283 v284 : Int) (v285 : Bool) (v286 : Int) (v287 : List Int) (v288 v289 v290 : Int) (v291 : List D1) (v292 v293 v294 v295 : Int) (v296 : Bool) (v297 : List D2) (v298 : Int) (v299 : ByteArray) (v300 : Int) (v301 v302 : Bool) (v303 v304 v305 : Int) (v306 : Bool) (X0 : Int → List D2 → List Int → Int → Int → Int → List D1 → Option R) (X1 : Int → Int → List Int → Int → Int → Int → List D1 → Int → Int → Int → Int → Bool → List D2 → Option R) : Option R :=
 bif v285 then
  bif (v284 != 236) then
   f89_j20 k v282 v283 v284 v286 (v284 != 237) v287 v288 v289 v290 v291 v292 v293 v294 v295 v296 v297 v298 v299 v300 v301 v302 v303 v304 v305 v306 X0 X1
  else
   f89_j20 k v282 v283 v284 v286 false v287 v288 v289 v290 v291 v292 v293 v294 v295 v296 v297 v298 v299 v300 v301 v302 v303 v304 v305 v306 X0 X1
 else
  f89_j20 k v282 v283 v284 v286 false v287 v288 v289 v290 v291 v292 v293 v294 v295 v296 v297 v298 v299 v300 v301 v302 v303 v304 v305 v306 X0 X1
noncomputable def f89_j9 {R : Type} (k : Nat) (v78 v79 v80 : Int) (v81 : Bool) (v82 : List Int) (v83 v84 v85 : Int) (v86 : List D1) (v87 v88 v89 v90 : Int) (v91 : Bool) (v92 : List D2) (v93 : Int) (v94 : ByteArray) (v95 : Int) (v96 v97 : Bool) (X0 : Int → List D2 → List Int → Int → Int → Int → List D1 → Option R) (X1 : Int → Int → List Int → Int → Int → Int → List D1 → Int → Int → Int → Int → Bool → List D2 → Option R) : Option R :=
 f102_2 k v78 v82 v83 v84 v85 v86 (fun v98 v99 v100 v101 v102 v103 v104 v105 v106 v107 =>
  bif (!v102) then
   X0 v78 v92 v103 v104 v105 v106 v107
  else
   f103_2 k v78 v98 v99 v100 v101 v93 v94 v95 v96 v97 v87 v88 v89 v90 v91 v103 v104 v105 v106 v107 (fun v108 v109 v110 v111 v112 v113 =>
    bif (v111 != 0) then
     X0 v78 v92 v109 v110 v111 v112 v113
    else
     bif v81 then
      f89_j14 k v78 v79 v80 v81 v108 (v80 == 237) v109 v110 v111 v112 v113 v87 v88 v89 v90 v91 v92 v93 v94 v95 v96 v97 v98 v99 v100 v101 (fun v257 v258 v259 v260 v261 v262 v263 v264 v265 v266 v267 v268 v269 v270 v271 v272 v273 v274 v275 v276 v277 v278 v279 v280 v281 =>
      f89_j19 k v257 v258 v259 v260 v261 v262 v263 v264 v265 v266 v267 v268 v269 v270 v271 v272 v273 v274 v275 v276 v277 v278 v279 v280 v281 X0 X1)
     else
      f89_j14 k v78 v79 v80 v81 v108 false v109 v110 v111 v112 v113 v87 v88 v89 v90 v91 v92 v93 v94 v95 v96 v97 v98 v99 v100 v101 (fun v718 v719 v720 v721 v722 v723 v724 v725 v726 v727 v728 v729 v730 v731 v732 v733 v734 v735 v736 v737 v738 v739 v740 v741 v742 =>
      f89_j19 k v718 v719 v720 v721 v722 v723 v724 v725 v726 v727 v728 v729 v730 v731 v732 v733 v734 v735 v736 v737 v738 v739 v740 v741 v742 X0 X1)))
noncomputable def f89_j5 {R : Type} (k : Nat) (v14 v15 : Int) (v16 : List Int) (v17 v18 v19 : Int) (v20 : List D1) (v21 v22 v23 v24 : Int) (v25 : Bool) (v26 : List D2) (X0 : Int → List D2 → List Int → Int → Int → Int → List D1 → Option R) (X1 : Int → Int → List Int → Int → Int → Int → List D1 → Int → Int → Int → Int → Bool → List D2 → Option R) (X2 : Int → List D2 → List Int → Int → Int → Int → List D1 → Option R) : Option R :=
 f30 k v16 v14 (fun v27 _v28 v29 =>
  f26 k v27 (fun v30 v31 v32 v33 v34 v35 =>
   bif v25 then
    bif (v29 == 0) then
     bif v35 then
      bif (v27 != 236) then
      bif (v27 != 237) then
      f98 k v30 v31 v32 v33 v34 v21 (fun v36 =>
      f89_j8 k v14 v15 v27 v35 (!v36) v16 v17 v18 v19 v20 v21 v22 v23 v24 v25 v26 v30 v31 v32 v33 v34 (fun v58 v59 v60 v61 v62 v63 v64 v65 v66 v67 v68 v69 v70 v71 v72 v73 v74 v75 v76 v77 =>
      f89_j9 k v58 v59 v60 v61 v62 v63 v64 v65 v66 v67 v68 v69 v70 v71 v72 v73 v74 v75 v76 v77 X0 (fun v770 v771 v772 v773 v774 v775 v776 v777 v778 v779 v780 v781 v782 =>
      X1 v770 (IntKind.i64.wrap (v771 + 1)) v772 v773 v774 v775 v776 v777 v778 v779 v780 v781 v782)) X2)
      else
      f89_j8 k v14 v15 v27 v35 false v16 v17 v18 v19 v20 v21 v22 v23 v24 v25 v26 v30 v31 v32 v33 v34 (fun v790 v791 v792 v793 v794 v795 v796 v797 v798 v799 v800 v801 v802 v803 v804 v805 v806 v807 v808 v809 =>
      f89_j9 k v790 v791 v792 v793 v794 v795 v796 v797 v798 v799 v800 v801 v802 v803 v804 v805 v806 v807 v808 v809 X0 (fun v817 v818 v819 v820 v821 v822 v823 v824 v825 v826 v827 v828 v829 =>
      X1 v817 (IntKind.i64.wrap (v818 + 1)) v819 v820 v821 v822 v823 v824 v825 v826 v827 v828 v829)) X2
      else
      f89_j8 k v14 v15 v27 v35 false v16 v17 v18 v19 v20 v21 v22 v23 v24 v25 v26 v30 v31 v32 v33 v34 (fun v837 v838 v839 v840 v841 v842 v843 v844 v845 v846 v847 v848 v849 v850 v851 v852 v853 v854 v855 v856 =>
      f89_j9 k v837 v838 v839 v840 v841 v842 v843 v844 v845 v846 v847 v848 v849 v850 v851 v852 v853 v854 v855 v856 X0 (fun v864 v865 v866 v867 v868 v869 v870 v871 v872 v873 v874 v875 v876 =>
      X1 v864 (IntKind.i64.wrap (v865 + 1)) v866 v867 v868 v869 v870 v871 v872 v873 v874 v875 v876)) X2
     else
      f89_j8 k v14 v15 v27 v35 false v16 v17 v18 v19 v20 v21 v22 v23 v24 v25 v26 v30 v31 v32 v33 v34 (fun v884 v885 v886 v887 v888 v889 v890 v891 v892 v893 v894 v895 v896 v897 v898 v899 v900 v901 v902 v903 =>
      f89_j9 k v884 v885 v886 v887 v888 v889 v890 v891 v892 v893 v894 v895 v896 v897 v898 v899 v900 v901 v902 v903 X0 (fun v911 v912 v913 v914 v915 v916 v917 v918 v919 v920 v921 v922 v923 =>
      X1 v911 (IntKind.i64.wrap (v912 + 1)) v913 v914 v915 v916 v917 v918 v919 v920 v921 v922 v923)) X2
    else
     f89_j8 k v14 v15 v27 v35 false v16 v17 v18 v19 v20 v21 v22 v23 v24 v25 v26 v30 v31 v32 v33 v34 (fun v931 v932 v933 v934 v935 v936 v937 v938 v939 v940 v941 v942 v943 v944 v945 v946 v947 v948 v949 v950 =>
      f89_j9 k v931 v932 v933 v934 v935 v936 v937 v938 v939 v940 v941 v942 v943 v944 v945 v946 v947 v948 v949 v950 X0 (fun v958 v959 v960 v961 v962 v963 v964 v965 v966 v967 v968 v969 v970 =>
      X1 v958 (IntKind.i64.wrap (v959 + 1)) v960 v961 v962 v963 v964 v965 v966 v967 v968 v969 v970)) X2
   else
    f89_j8 k v14 v15 v27 v35 false v16 v17 v18 v19 v20 v21 v22 v23 v24 v25 v26 v30 v31 v32 v33 v34 (fun v978 v979 v980 v981 v982 v983 v984 v985 v986 v987 v988 v989 v990 v991 v992 v993 v994 v995 v996 v997 =>
     f89_j9 k v978 v979 v980 v981 v982 v983 v984 v985 v986 v987 v988 v989 v990 v991 v992 v993 v994 v995 v996 v997 X0 (fun v1005 v1006 v1007 v1008 v1009 v1010 v1011 v1012 v1013 v1014 v1015 v1016 v1017 =>
      X1 v1005 (IntKind.i64.wrap (v1006 + 1)) v1007 v1008 v1009 v1010 v1011 v1012 v1013 v1014 v1015 v1016 v1017)) X2))
noncomputable def f89_l3 {R : Type} : Nat → Int → Int → List Int → Int → Int → Int → List D1 → Int → Int → Int → Int → Bool → List D2 → (Int → List D2 → List Int → Int → Int → Int → List D1 → Option R) → (Int → List D2 → List Int → Int → Int → Int → List D1 → Option R) → Option R
  | 0, _, _, _, _, _, _, _, _, _, _, _, _, _, _, _ => none
  | k + 1, v1, v2, v3, v4, v5, v6, v7, v8, v9, v10, v11, v12, v13, X0, X1 =>
  bif decide (v1 < v9) then
   bif (v5 == 0) then
    f89_j5 k v1 v2 v3 v4 v5 v6 v7 v8 v9 v10 v11 v12 v13 X0 (fun v1032 v1033 v1034 v1035 v1036 v1037 v1038 v1039 v1040 v1041 v1042 v1043 v1044 =>
     f89_l3 k v1032 v1033 v1034 v1035 v1036 v1037 v1038 v1039 v1040 v1041 v1042 v1043 v1044 X0 X1) X1
   else
    X0 v1 v13 v3 v4 v5 v6 v7
  else
   X0 v1 v13 v3 v4 v5 v6 v7
noncomputable def f89 {R : Type} (k : Nat) (a0 a1 a2 a3 a4 : Int) (a5 : Bool) (a6 : List Int) (a7 a8 a9 : Int) (K : Int → List Int → Int → Int → Int → List D2 → List D1 → Option R) : Option R :=
 f89_l3 k a0 0 a6 a7 a8 a9 ([] : List D1) a1 a2 a3 a4 a5 ([] : List D2) (fun v1052 v1053 v1054 v1055 v1056 v1057 v1058 =>
  K v1052 v1054 v1055 v1056 v1057 v1053 v1058) (fun v1059 v1060 v1061 v1062 v1063 v1064 v1065 =>
  K v1059 v1061 v1062 v1063 v1064 v1060 v1065)
noncomputable def f89_d {R : Type} (g : f89_T R) (e : Dr D R) : Dr D R := door [.ptr 0 0, .int .i64, .agg [.int .i64, .int .i64, .int .i64, .int .i64, .bool]] [.box [.list (.int .u8), .nil, .int .i64, .int .i64, .int .i64]] (fun (x : (Unit × Int × (Int × Int × Int × Int × Bool × Unit) × Unit)) (y : ((List Int × Unit × Int × Int × Int × Unit) × Unit)) K => g x.2.1 x.2.2.1.1 x.2.2.1.2.1 x.2.2.1.2.2.1 x.2.2.1.2.2.2.1 x.2.2.1.2.2.2.2.1 y.1.1 y.1.2.2.1 y.1.2.2.2.1 y.1.2.2.2.2.1 (fun z0 z1 z2 z3 z4 z5 z6 => K ⟨.tup [.own 1, .int .i64 z0], [some (.box [.list (.int .u8) z1, .own 2, .int .i64 z2, .int .i64 z3, .int .i64 z4]), some (.row (.named 2) z5 true), some (.row (.named 1) z6 true)]⟩)) e
noncomputable def f89_o {R : Type} (k : Nat) : Orc D R := (orcAdd 89 (f89_2_d (f89_2 k) noDr) (orcAdd 104 (f104_2_d (f104_2 k) noDr) (orcAdd 103 (f103_2_d (f103_2 k) noDr) (orcAdd 102 (f102_2_d (f102_2 k) noDr) (orcAdd 105 (f105_2_d (f105_2 k) noDr) (orcAdd 98 (f98_d (f98 k) noDr) (orcAdd 26 (f26_d (f26 k) noDr) (orcAdd 30 (f30_d (f30 k) noDr) noOrc))))))))
theorem f89_o_ok {R : Type} (k : Nat) : OrcOk Try.prog cx (f89_o (R := R) k) := (OrcOk.add (f89_2_ok k FnOk.no) (OrcOk.add (f104_2_ok k FnOk.no) (OrcOk.add (f103_2_ok k FnOk.no) (OrcOk.add (f102_2_ok k FnOk.no) (OrcOk.add (f105_2_ok k FnOk.no) (OrcOk.add (f98_ok k FnOk.no) (OrcOk.add (f26_ok k FnOk.no) (OrcOk.add (f30_ok k FnOk.no) OrcOk.no))))))))
noncomputable def f89_b : Code := bodyOf Try.f89
noncomputable def f89_j8_a : LAnn := ⟨⟨[(.tmp 8, .own 137438986240 (.named 2)), (.cell 0 1, .own 137438986241 (.named 1))], [0, 1, 5, 8, 9, 10, 13, 14, 74], [0, 137438986241, 65632, 137438986240, 458976]⟩, exOfJ (some ⟨[(.tmp 8, .own 137438988288 (.named 2)), (.cell 0 1, .own 137438988289 (.named 1))], [0, 1, 5, 8, 9, 10, 13, 14], [0, 137438988289, 65632, 137438988288, 458976]⟩) (some ⟨[(.tmp 6, .own 137438987264 (.named 2)), (.cell 0 1, .own 137438987265 (.named 1))], [6, 7], [137438987264, 0, 137438987265]⟩) []⟩
noncomputable def f89_j16_a : LAnn := ⟨⟨[(.tmp 8, .own 137439019008 (.named 2)), (.cell 0 1, .own 137439019009 (.named 1))], [0, 1, 5, 8, 9, 10, 13, 14, 15, 17, 122], [0, 137439019009, 65632, 137439019008, 458976, 655616]⟩, exOfJ (some ⟨[(.tmp 8, .own 137439020032 (.named 2)), (.cell 0 1, .own 137439020033 (.named 1))], [0, 1, 5, 8, 9, 10, 13, 14, 15, 17], [0, 137439020033, 65632, 137439020032, 458976, 655616]⟩) (none) []⟩
noncomputable def f89_j14_a : LAnn := ⟨⟨[(.tmp 8, .own 137439010816 (.named 2)), (.cell 0 1, .own 137439010817 (.named 1))], [0, 1, 5, 8, 9, 10, 13, 14, 15, 17, 100], [0, 137439010817, 65632, 137439010816, 458976, 655616]⟩, exOfJ (some ⟨[(.tmp 8, .own 137439011840 (.named 2)), (.cell 0 1, .own 137439011841 (.named 1))], [0, 1, 5, 8, 9, 10, 13, 14, 15, 17], [0, 137439011841, 65632, 137439011840, 458976, 655616]⟩) (none) []⟩
noncomputable def f89_j33_a : LAnn := ⟨⟨[(.tmp 8, .own 137439088640 (.named 2))], [0, 1, 5, 8, 9, 15, 18, 19, 20, 22], [0, 1772400, 65632, 137439088640, 655616, 1835344, 2031984]⟩, exOfJ (some ⟨[(.tmp 8, .own 137439089664 (.named 2))], [0, 1, 5, 8, 9, 15, 18, 19, 20, 21], [0, 2231761, 65632, 137439089664, 655616, 1835344, 2231760]⟩) (none) []⟩
noncomputable def f89_j30_a : LAnn := ⟨⟨[(.tmp 8, .own 137439076352 (.named 2))], [0, 1, 5, 8, 9, 10, 15, 17, 18, 19, 20, 21, 194], [0, 1772400, 65632, 137439076352, 655616, 1835344]⟩, exOfJ (some ⟨[(.cell 0 1, .own 137439077376 (.named 1)), (.cell 1835344 1, .own 137439077377 (.int .u8)), (.cell 1835344 2, .own 137439077378 (.named 2)), (.tmp 8, .own 137439077379 (.named 2))], [0, 1, 5, 8, 9, 15, 18, 19, 20, 21], [0, 137439077376, 65632, 137439077379, 655616, 1835344, 137439077377, 137439077378]⟩) (none) []⟩
noncomputable def f89_j35_a : LAnn := ⟨⟨[(.tmp 8, .own 137439096832 (.named 2))], [0, 1, 5, 8, 9, 15, 18, 19, 20, 21], [0, 137439077376, 65632, 137439096832, 655616, 1835344, 137439077377, 137439077378]⟩, exOfJ (some ⟨[(.tmp 8, .own 137439098880 (.named 2))], [0, 1, 5, 8, 9], [0, 137439077376, 65632, 137439098880]⟩) (none) [(0, ⟨[(.tmp 8, .own 137439097856 (.named 2))], [1, 8], [137439097856, 0, 137439077376]⟩)]⟩
noncomputable def f89_j24_a : LAnn := ⟨⟨[(.tmp 8, .own 137439051776 (.named 2)), (.cell 0 1, .own 137439051777 (.named 1))], [0, 1, 5, 8, 9, 10, 13, 15, 17, 18], [0, 137439051777, 65632, 137439051776, 458976, 655616]⟩, exOfJ (some ⟨[], [0, 1, 5, 8, 9], [0, 137439077376, 65632, 137439098880]⟩) (none) [(0, ⟨[(.cell 0 1, .own 137439052800 (.named 1)), (.tmp 8, .own 137439052801 (.named 2))], [1, 8], [137439052801, 0, 137439052800]⟩)]⟩
noncomputable def f89_j20_a : LAnn := ⟨⟨[(.tmp 8, .own 137439035392 (.named 2)), (.cell 0 1, .own 137439035393 (.named 1))], [0, 1, 5, 8, 9, 10, 13, 15, 17, 18], [0, 137439035393, 65632, 137439035392, 458976, 655616]⟩, exOfJ (some ⟨[], [0, 1, 5, 8, 9], [0, 137439077376, 65632, 137439098880]⟩) (none) [(0, ⟨[(.tmp 8, .own 137439036416 (.named 2))], [1, 8], [137439036416, 0, 137439052800]⟩)]⟩
noncomputable def f89_j19_a : LAnn := ⟨⟨[(.tmp 8, .own 137439031296 (.named 2)), (.cell 0 1, .own 137439031297 (.named 1))], [0, 1, 5, 8, 9, 10, 13, 14, 15, 17], [0, 137439031297, 65632, 137439031296, 458976, 655616]⟩, exOfJ (some ⟨[], [0, 1, 5, 8, 9], [0, 137439077376, 65632, 137439098880]⟩) (none) [(0, ⟨[(.tmp 8, .own 137439032320 (.named 2))], [1, 8], [137439032320, 0, 137439052800]⟩)]⟩
noncomputable def f89_j9_a : LAnn := ⟨⟨[(.tmp 8, .own 137438990336 (.named 2)), (.cell 0 1, .own 137438990337 (.named 1))], [0, 1, 5, 8, 9, 10, 13, 14], [0, 137438990337, 65632, 137438990336, 458976]⟩, exOfJ (some ⟨[], [0, 1, 5, 8, 9], [0, 137439077376, 65632, 137439098880]⟩) (none) [(0, ⟨[(.cell 0 1, .own 137438991360 (.named 1)), (.tmp 8, .own 137438991361 (.named 2))], [1, 8], [137438991361, 0, 137438991360]⟩)]⟩
noncomputable def f89_j5_a : LAnn := ⟨⟨[(.tmp 8, .own 137438973952 (.named 2)), (.cell 0 1, .own 137438973953 (.named 1))], [0, 1, 5, 8, 9], [0, 137438973953, 65632, 137438973952]⟩, exOfJ (some ⟨[], [0, 1, 5, 8, 9], [0, 137439077376, 65632, 137439098880]⟩) (some ⟨[(.tmp 6, .own 137438977024 (.named 2)), (.cell 0 1, .own 137438977025 (.named 1))], [6, 7], [137438977024, 0, 137438977025]⟩) [(0, ⟨[(.tmp 8, .own 137438974976 (.named 2))], [1, 8], [137438974976, 0, 137438991360]⟩)]⟩
noncomputable def f89_l3_a : LAnn := ⟨⟨[(.tmp 8, .own 68719489024 (.named 2)), (.cell 0 1, .own 68719489025 (.named 1))], [0, 1, 5, 8, 9], [0, 68719489025, 65632, 68719489024]⟩, exOf (some ⟨[], [6, 7], [137438977024, 0, 137438977025]⟩) [(0, ⟨[(.tmp 8, .own 68719490048 (.named 2)), (.cell 0 1, .own 68719490049 (.named 1))], [1, 8], [68719490048, 0, 68719490049]⟩)]⟩
noncomputable def f89_ann : Nat → Option LAnn := fun key => bif Nat.beq key 3 then some f89_l3_a else bif Nat.beq key 1000005 then some f89_j5_a else bif Nat.beq key 1000009 then some f89_j9_a else bif Nat.beq key 1000019 then some f89_j19_a else bif Nat.beq key 1000020 then some f89_j20_a else bif Nat.beq key 1000024 then some f89_j24_a else bif Nat.beq key 1000035 then some f89_j35_a else bif Nat.beq key 1000030 then some f89_j30_a else bif Nat.beq key 1000033 then some f89_j33_a else bif Nat.beq key 1000014 then some f89_j14_a else bif Nat.beq key 1000016 then some f89_j16_a else bif Nat.beq key 1000008 then some f89_j8_a else none
noncomputable def f89_j8_b : Code := joinAt f89_ann f89_b 1
noncomputable def f89_j8_g {R : Type} (k : Nat) (x : (Unit × Int × Unit × Unit × Int × Int × Unit × Bool × Bool × Unit)) (y : ((List Int × Unit × Int × Int × Int × Unit) × List D1 × (Int × Int × Int × Int × Bool × Unit) × List D2 × (Int × ByteArray × Int × Bool × Bool × Unit) × Unit)) (K : KX R) : Option R := f89_j8 k x.2.1 x.2.2.2.2.1 x.2.2.2.2.2.1 x.2.2.2.2.2.2.2.1 x.2.2.2.2.2.2.2.2.1 y.1.1 y.1.2.2.1 y.1.2.2.2.1 y.1.2.2.2.2.1 y.2.1 y.2.2.1.1 y.2.2.1.2.1 y.2.2.1.2.2.1 y.2.2.1.2.2.2.1 y.2.2.1.2.2.2.2.1 y.2.2.2.1 y.2.2.2.2.1.1 y.2.2.2.2.1.2.1 y.2.2.2.2.1.2.2.1 y.2.2.2.2.1.2.2.2.1 y.2.2.2.2.1.2.2.2.2.1 (fun z0 z1 z2 z3 z4 z5 z6 z7 z8 z9 z10 z11 z12 z13 z14 z15 z16 z17 z18 z19 => K (.normal) [.ptr 0 0, .int .i64 z0, .ptr 65632 0, .own 137438988288, .int .i64 z1, .int .i64 z2, .ptr 458976 0, .bool z3] [some (.box [.list (.int .u8) z4, .own 137438988289, .int .i64 z5, .int .i64 z6, .int .i64 z7]), some (.row (.named 1) z8 true), some (.box [.int .i64 z9, .int .i64 z10, .int .i64 z11, .int .i64 z12, .bool z13]), some (.row (.named 2) z14 true), some (.box [.int .i64 z15, .str z16, .int .i64 z17, .bool z18, .bool z19])]) (fun z0 z1 z2 z3 z4 z5 z6 => K (.ret) [.own 137438987264, .int .i64 z0] [some (.row (.named 2) z1 true), some (.box [.list (.int .u8) z2, .own 137438987265, .int .i64 z3, .int .i64 z4, .int .i64 z5]), some (.row (.named 1) z6 true)])
noncomputable def f89_j8_d {R : Type} (k : Nat) : Lr D R := ldoor [.ptr 0 0, .int .i64, .ptr 65632 0, .own 137438986240, .int .i64, .int .i64, .ptr 458976 0, .bool, .bool] [some (.box [.list (.int .u8), .own 137438986241, .int .i64, .int .i64, .int .i64]), some (.row (.named 1) true), some (.box [.int .i64, .int .i64, .int .i64, .int .i64, .bool]), some (.row (.named 2) true), some (.box [.int .i64, .str, .int .i64, .bool, .bool])] (f89_j8_g k)
noncomputable def f89_j8_r {R : Type} (_k : Nat) : Lrc D R := noLrc
theorem f89_j8_d_ok {R : Type} (k : Nat) : JoinOk Try.prog cx 262 1 f89_ann (f89_j8_d (R := R) k) f89_j8_b :=
  join_ok (keep := kp) (lrc := f89_j8_r (R := R) k) cxOk mixed (f89_o_ok k) (show f89_ann (Am.keyOf f89_j8_b + 1000000) = some f89_j8_a by kernel_rfl) (L := []) (by kernel_rfl) trivial (J := []) (by kernel_rfl) trivial (LrcNat.no) (fun _x _y _K => by kernel_rfl)
noncomputable def f89_j16_b : Code := joinAt f89_ann f89_b 4
noncomputable def f89_j16_g {R : Type} (k : Nat) (x : (Unit × Int × Unit × Unit × Int × Int × Unit × Bool × Unit × Int × Bool × Unit)) (y : ((List Int × Unit × Int × Int × Int × Unit) × List D1 × (Int × Int × Int × Int × Bool × Unit) × List D2 × (Int × ByteArray × Int × Bool × Bool × Unit) × (Int × Int × Int × Bool × Unit) × Unit)) (K : KX R) : Option R := f89_j16 k x.2.1 x.2.2.2.2.1 x.2.2.2.2.2.1 x.2.2.2.2.2.2.2.1 x.2.2.2.2.2.2.2.2.2.1 x.2.2.2.2.2.2.2.2.2.2.1 y.1.1 y.1.2.2.1 y.1.2.2.2.1 y.1.2.2.2.2.1 y.2.1 y.2.2.1.1 y.2.2.1.2.1 y.2.2.1.2.2.1 y.2.2.1.2.2.2.1 y.2.2.1.2.2.2.2.1 y.2.2.2.1 y.2.2.2.2.1.1 y.2.2.2.2.1.2.1 y.2.2.2.2.1.2.2.1 y.2.2.2.2.1.2.2.2.1 y.2.2.2.2.1.2.2.2.2.1 y.2.2.2.2.2.1.1 y.2.2.2.2.2.1.2.1 y.2.2.2.2.2.1.2.2.1 y.2.2.2.2.2.1.2.2.2.1 (fun z0 z1 z2 z3 z4 z5 z6 z7 z8 z9 z10 z11 z12 z13 z14 z15 z16 z17 z18 z19 z20 z21 z22 z23 z24 => K (.normal) [.ptr 0 0, .int .i64 z0, .ptr 65632 0, .own 137439020032, .int .i64 z1, .int .i64 z2, .ptr 458976 0, .bool z3, .ptr 655616 0, .int .i64 z4] [some (.box [.list (.int .u8) z5, .own 137439020033, .int .i64 z6, .int .i64 z7, .int .i64 z8]), some (.row (.named 1) z9 true), some (.box [.int .i64 z10, .int .i64 z11, .int .i64 z12, .int .i64 z13, .bool z14]), some (.row (.named 2) z15 true), some (.box [.int .i64 z16, .str z17, .int .i64 z18, .bool z19, .bool z20]), some (.box [.int .i64 z21, .int .i64 z22, .int .i64 z23, .bool z24])])
noncomputable def f89_j16_d {R : Type} (k : Nat) : Lr D R := ldoor [.ptr 0 0, .int .i64, .ptr 65632 0, .own 137439019008, .int .i64, .int .i64, .ptr 458976 0, .bool, .ptr 655616 0, .int .i64, .bool] [some (.box [.list (.int .u8), .own 137439019009, .int .i64, .int .i64, .int .i64]), some (.row (.named 1) true), some (.box [.int .i64, .int .i64, .int .i64, .int .i64, .bool]), some (.row (.named 2) true), some (.box [.int .i64, .str, .int .i64, .bool, .bool]), some (.box [.int .i64, .int .i64, .int .i64, .bool])] (f89_j16_g k)
noncomputable def f89_j16_r {R : Type} (_k : Nat) : Lrc D R := noLrc
theorem f89_j16_d_ok {R : Type} (k : Nat) : JoinOk Try.prog cx 262 1 f89_ann (f89_j16_d (R := R) k) f89_j16_b :=
  join_ok (keep := kp) (lrc := f89_j16_r (R := R) k) cxOk mixed (f89_o_ok k) (show f89_ann (Am.keyOf f89_j16_b + 1000000) = some f89_j16_a by kernel_rfl) (L := []) (by kernel_rfl) trivial (J := []) (by kernel_rfl) trivial (LrcNat.no) (fun _x _y _K => by kernel_rfl)
noncomputable def f89_j14_b : Code := joinAt f89_ann f89_b 3
noncomputable def f89_j14_g {R : Type} (k : Nat) (x : (Unit × Int × Unit × Unit × Int × Int × Unit × Bool × Unit × Int × Bool × Unit)) (y : ((List Int × Unit × Int × Int × Int × Unit) × List D1 × (Int × Int × Int × Int × Bool × Unit) × List D2 × (Int × ByteArray × Int × Bool × Bool × Unit) × (Int × Int × Int × Bool × Unit) × Unit)) (K : KX R) : Option R := f89_j14 k x.2.1 x.2.2.2.2.1 x.2.2.2.2.2.1 x.2.2.2.2.2.2.2.1 x.2.2.2.2.2.2.2.2.2.1 x.2.2.2.2.2.2.2.2.2.2.1 y.1.1 y.1.2.2.1 y.1.2.2.2.1 y.1.2.2.2.2.1 y.2.1 y.2.2.1.1 y.2.2.1.2.1 y.2.2.1.2.2.1 y.2.2.1.2.2.2.1 y.2.2.1.2.2.2.2.1 y.2.2.2.1 y.2.2.2.2.1.1 y.2.2.2.2.1.2.1 y.2.2.2.2.1.2.2.1 y.2.2.2.2.1.2.2.2.1 y.2.2.2.2.1.2.2.2.2.1 y.2.2.2.2.2.1.1 y.2.2.2.2.2.1.2.1 y.2.2.2.2.2.1.2.2.1 y.2.2.2.2.2.1.2.2.2.1 (fun z0 z1 z2 z3 z4 z5 z6 z7 z8 z9 z10 z11 z12 z13 z14 z15 z16 z17 z18 z19 z20 z21 z22 z23 z24 => K (.normal) [.ptr 0 0, .int .i64 z0, .ptr 65632 0, .own 137439011840, .int .i64 z1, .int .i64 z2, .ptr 458976 0, .bool z3, .ptr 655616 0, .int .i64 z4] [some (.box [.list (.int .u8) z5, .own 137439011841, .int .i64 z6, .int .i64 z7, .int .i64 z8]), some (.row (.named 1) z9 true), some (.box [.int .i64 z10, .int .i64 z11, .int .i64 z12, .int .i64 z13, .bool z14]), some (.row (.named 2) z15 true), some (.box [.int .i64 z16, .str z17, .int .i64 z18, .bool z19, .bool z20]), some (.box [.int .i64 z21, .int .i64 z22, .int .i64 z23, .bool z24])])
noncomputable def f89_j14_d {R : Type} (k : Nat) : Lr D R := ldoor [.ptr 0 0, .int .i64, .ptr 65632 0, .own 137439010816, .int .i64, .int .i64, .ptr 458976 0, .bool, .ptr 655616 0, .int .i64, .bool] [some (.box [.list (.int .u8), .own 137439010817, .int .i64, .int .i64, .int .i64]), some (.row (.named 1) true), some (.box [.int .i64, .int .i64, .int .i64, .int .i64, .bool]), some (.row (.named 2) true), some (.box [.int .i64, .str, .int .i64, .bool, .bool]), some (.box [.int .i64, .int .i64, .int .i64, .bool])] (f89_j14_g k)
noncomputable def f89_j14_r {R : Type} (k : Nat) : Lrc D R := (lrcAdd 1000016 (f89_j16_d k) noLrc)
theorem f89_j14_d_ok {R : Type} (k : Nat) : JoinOk Try.prog cx 262 1 f89_ann (f89_j14_d (R := R) k) f89_j14_b :=
  join_ok (keep := kp) (lrc := f89_j14_r (R := R) k) cxOk mixed (f89_o_ok k) (show f89_ann (Am.keyOf f89_j14_b + 1000000) = some f89_j14_a by kernel_rfl) (L := []) (by kernel_rfl) trivial (J := [f89_j16_b]) (by kernel_rfl) (⟨(f89_j16_d_ok k).use (by kernel_rfl), trivial⟩) ((LrcNat.add (f89_j16_d_ok k).2 LrcNat.no)) (fun _x _y _K => by kernel_rfl)
noncomputable def f89_j33_b : Code := joinAt f89_ann f89_b 9
noncomputable def f89_j33_g {R : Type} (k : Nat) (x : (Unit × Int × Unit × Unit × Int × Unit × Bool × Int × Unit × Unit × Unit)) (y : ((List Int × Unit × Int × Int × Int × Unit) × List D1 × (Int × Int × Int × Int × Bool × Unit) × List D2 × (Int × Int × Int × Bool × Unit) × (Int × Unit × Unit × Bool × Unit) × (Int × Int × Int × Int × Bool × Unit) × Unit)) (K : KX R) : Option R := f89_j33 k x.2.1 x.2.2.2.2.1 x.2.2.2.2.2.2.1 x.2.2.2.2.2.2.2.1 y.1.1 y.1.2.2.1 y.1.2.2.2.1 y.1.2.2.2.2.1 y.2.1 y.2.2.1.1 y.2.2.1.2.1 y.2.2.1.2.2.1 y.2.2.1.2.2.2.1 y.2.2.1.2.2.2.2.1 y.2.2.2.1 y.2.2.2.2.1.1 y.2.2.2.2.1.2.1 y.2.2.2.2.1.2.2.1 y.2.2.2.2.1.2.2.2.1 y.2.2.2.2.2.1.1 y.2.2.2.2.2.1.2.2.2.1 y.2.2.2.2.2.2.1.1 y.2.2.2.2.2.2.1.2.1 y.2.2.2.2.2.2.1.2.2.1 y.2.2.2.2.2.2.1.2.2.2.1 y.2.2.2.2.2.2.1.2.2.2.2.1 (fun z0 z1 z2 z3 z4 z5 z6 z7 z8 z9 z10 z11 z12 z13 z14 z15 z16 z17 z18 z19 z20 z21 z22 => K (.normal) [.ptr 0 0, .int .i64 z0, .ptr 65632 0, .own 137439089664, .int .i64 z1, .ptr 655616 0, .bool z2, .int .i64 z3, .ptr 1835344 0, .int .i64 z4] [some (.box [.list (.int .u8) z5, .own 2231761, .int .i64 z6, .int .i64 z7, .int .i64 z8]), some (.row (.named 1) z9 true), some (.box [.int .i64 z10, .int .i64 z11, .int .i64 z12, .int .i64 z13, .bool z14]), some (.row (.named 2) z15 true), some (.box [.int .i64 z16, .int .i64 z17, .int .i64 z18, .bool z19]), some (.box [.int .i64 z20, .nil, .own 2231760, .bool z21]), some (.row (.named 2) z22 true)])
noncomputable def f89_j33_d {R : Type} (k : Nat) : Lr D R := ldoor [.ptr 0 0, .int .i64, .ptr 65632 0, .own 137439088640, .int .i64, .ptr 655616 0, .bool, .int .i64, .ptr 1835344 0, .ptr 2031984 0] [some (.box [.list (.int .u8), .own 1772400, .int .i64, .int .i64, .int .i64]), some (.row (.named 1) true), some (.box [.int .i64, .int .i64, .int .i64, .int .i64, .bool]), some (.row (.named 2) true), some (.box [.int .i64, .int .i64, .int .i64, .bool]), some (.box [.int .i64, .nil, .nil, .bool]), some (.box [.int .i64, .int .i64, .int .i64, .int .i64, .bool])] (f89_j33_g k)
noncomputable def f89_j33_r {R : Type} (_k : Nat) : Lrc D R := noLrc
theorem f89_j33_d_ok {R : Type} (k : Nat) : JoinOk Try.prog cx 262 1 f89_ann (f89_j33_d (R := R) k) f89_j33_b :=
  join_ok (keep := kp) (lrc := f89_j33_r (R := R) k) cxOk mixed (f89_o_ok k) (show f89_ann (Am.keyOf f89_j33_b + 1000000) = some f89_j33_a by kernel_rfl) (L := []) (by kernel_rfl) trivial (J := []) (by kernel_rfl) trivial (LrcNat.no) (fun _x _y _K => by kernel_rfl)
noncomputable def f89_j30_b : Code := joinAt f89_ann f89_b 8
noncomputable def f89_j30_g {R : Type} (k : Nat) (x : (Unit × Int × Unit × Unit × Int × Int × Unit × Int × Bool × Int × Unit × Int × Bool × Unit)) (y : ((List Int × Unit × Int × Int × Int × Unit) × List D1 × (Int × Int × Int × Int × Bool × Unit) × List D2 × (Int × Int × Int × Bool × Unit) × (Int × Unit × Unit × Bool × Unit) × Unit)) (K : KX R) : Option R := f89_j30 k x.2.1 x.2.2.2.2.1 x.2.2.2.2.2.1 x.2.2.2.2.2.2.2.1 x.2.2.2.2.2.2.2.2.1 x.2.2.2.2.2.2.2.2.2.1 x.2.2.2.2.2.2.2.2.2.2.2.1 x.2.2.2.2.2.2.2.2.2.2.2.2.1 y.1.1 y.1.2.2.1 y.1.2.2.2.1 y.1.2.2.2.2.1 y.2.1 y.2.2.1.1 y.2.2.1.2.1 y.2.2.1.2.2.1 y.2.2.1.2.2.2.1 y.2.2.1.2.2.2.2.1 y.2.2.2.1 y.2.2.2.2.1.1 y.2.2.2.2.1.2.1 y.2.2.2.2.1.2.2.1 y.2.2.2.2.1.2.2.2.1 y.2.2.2.2.2.1.1 y.2.2.2.2.2.1.2.2.2.1 (fun z0 z1 z2 z3 z4 z5 z6 z7 z8 z9 z10 z11 z12 z13 z14 z15 z16 z17 z18 z19 z20 z21 z22 z23 => K (.normal) [.ptr 0 0, .int .i64 z0, .ptr 65632 0, .own 137439077379, .int .i64 z1, .ptr 655616 0, .bool z2, .int .i64 z3, .ptr 1835344 0, .int .i64 z4] [some (.box [.list (.int .u8) z5, .own 137439077376, .int .i64 z6, .int .i64 z7, .int .i64 z8]), some (.row (.named 1) z9 true), some (.box [.int .i64 z10, .int .i64 z11, .int .i64 z12, .int .i64 z13, .bool z14]), some (.row (.named 2) z15 true), some (.box [.int .i64 z16, .int .i64 z17, .int .i64 z18, .bool z19]), some (.box [.int .i64 z20, .own 137439077377, .own 137439077378, .bool z21]), some (.row (.int .u8) z22 true), some (.row (.named 2) z23 true)])
noncomputable def f89_j30_d {R : Type} (k : Nat) : Lr D R := ldoor [.ptr 0 0, .int .i64, .ptr 65632 0, .own 137439076352, .int .i64, .int .i64, .ptr 655616 0, .int .i64, .bool, .int .i64, .ptr 1835344 0, .int .i64, .bool] [some (.box [.list (.int .u8), .own 1772400, .int .i64, .int .i64, .int .i64]), some (.row (.named 1) true), some (.box [.int .i64, .int .i64, .int .i64, .int .i64, .bool]), some (.row (.named 2) true), some (.box [.int .i64, .int .i64, .int .i64, .bool]), some (.box [.int .i64, .nil, .nil, .bool])] (f89_j30_g k)
noncomputable def f89_j30_r {R : Type} (k : Nat) : Lrc D R := (lrcAdd 1000033 (f89_j33_d k) noLrc)
theorem f89_j30_d_ok {R : Type} (k : Nat) : JoinOk Try.prog cx 262 1 f89_ann (f89_j30_d (R := R) k) f89_j30_b :=
  join_ok (keep := kp) (lrc := f89_j30_r (R := R) k) cxOk mixed (f89_o_ok k) (show f89_ann (Am.keyOf f89_j30_b + 1000000) = some f89_j30_a by kernel_rfl) (L := []) (by kernel_rfl) trivial (J := [f89_j33_b]) (by kernel_rfl) (⟨(f89_j33_d_ok k).use (by kernel_rfl), trivial⟩) ((LrcNat.add (f89_j33_d_ok k).2 LrcNat.no)) (fun _x _y _K => by kernel_rfl)
noncomputable def f89_j35_b : Code := joinAt f89_ann f89_b 10
noncomputable def f89_j35_g {R : Type} (k : Nat) (x : (Unit × Int × Unit × Unit × Int × Unit × Bool × Int × Unit × Int × Unit)) (y : ((List Int × Unit × Int × Int × Int × Unit) × List D1 × (Int × Int × Int × Int × Bool × Unit) × List D2 × (Int × Int × Int × Bool × Unit) × (Int × Unit × Unit × Bool × Unit) × List Int × List D2 × Unit)) (K : KX R) : Option R := f89_j35 k x.2.1 x.2.2.2.2.1 x.2.2.2.2.2.2.1 x.2.2.2.2.2.2.2.1 x.2.2.2.2.2.2.2.2.2.1 y.1.1 y.1.2.2.1 y.1.2.2.2.1 y.1.2.2.2.2.1 y.2.1 y.2.2.1.1 y.2.2.1.2.1 y.2.2.1.2.2.1 y.2.2.1.2.2.2.1 y.2.2.1.2.2.2.2.1 y.2.2.2.1 y.2.2.2.2.1.1 y.2.2.2.2.1.2.1 y.2.2.2.2.1.2.2.1 y.2.2.2.2.1.2.2.2.1 y.2.2.2.2.2.1.1 y.2.2.2.2.2.1.2.2.2.1 y.2.2.2.2.2.2.1 y.2.2.2.2.2.2.2.1 (fun z0 z1 z2 z3 z4 z5 z6 => K (.exit 0) [.int .i64 z0, .own 137439097856] [some (.row (.named 2) z1 true), some (.box [.list (.int .u8) z2, .own 137439077376, .int .i64 z3, .int .i64 z4, .int .i64 z5]), some (.row (.named 1) z6 true)]) (fun z0 z1 z2 z3 z4 z5 z6 z7 z8 z9 z10 z11 z12 => K (.normal) [.ptr 0 0, .int .i64 z0, .ptr 65632 0, .own 137439098880, .int .i64 z1] [some (.box [.list (.int .u8) z2, .own 137439077376, .int .i64 z3, .int .i64 z4, .int .i64 z5]), some (.row (.named 1) z6 true), some (.box [.int .i64 z7, .int .i64 z8, .int .i64 z9, .int .i64 z10, .bool z11]), some (.row (.named 2) z12 true)])
noncomputable def f89_j35_d {R : Type} (k : Nat) : Lr D R := ldoor [.ptr 0 0, .int .i64, .ptr 65632 0, .own 137439096832, .int .i64, .ptr 655616 0, .bool, .int .i64, .ptr 1835344 0, .int .i64] [some (.box [.list (.int .u8), .own 137439077376, .int .i64, .int .i64, .int .i64]), some (.row (.named 1) true), some (.box [.int .i64, .int .i64, .int .i64, .int .i64, .bool]), some (.row (.named 2) true), some (.box [.int .i64, .int .i64, .int .i64, .bool]), some (.box [.int .i64, .own 137439077377, .own 137439077378, .bool]), some (.row (.int .u8) true), some (.row (.named 2) true)] (f89_j35_g k)
noncomputable def f89_j35_r {R : Type} (_k : Nat) : Lrc D R := noLrc
theorem f89_j35_d_ok {R : Type} (k : Nat) : JoinOk Try.prog cx 262 1 f89_ann (f89_j35_d (R := R) k) f89_j35_b :=
  join_ok (keep := kp) (lrc := f89_j35_r (R := R) k) cxOk mixed (f89_o_ok k) (show f89_ann (Am.keyOf f89_j35_b + 1000000) = some f89_j35_a by kernel_rfl) (L := []) (by kernel_rfl) trivial (J := []) (by kernel_rfl) trivial (LrcNat.no) (fun _x _y _K => by kernel_rfl)
noncomputable def f89_j24_b : Code := joinAt f89_ann f89_b 7
noncomputable def f89_j24_g {R : Type} (k : Nat) (x : (Unit × Int × Unit × Unit × Int × Int × Unit × Unit × Int × Bool × Unit)) (y : ((List Int × Unit × Int × Int × Int × Unit) × List D1 × (Int × Int × Int × Int × Bool × Unit) × List D2 × (Int × ByteArray × Int × Bool × Bool × Unit) × (Int × Int × Int × Bool × Unit) × Unit)) (K : KX R) : Option R := f89_j24 k x.2.1 x.2.2.2.2.1 x.2.2.2.2.2.1 x.2.2.2.2.2.2.2.2.1 x.2.2.2.2.2.2.2.2.2.1 y.1.1 y.1.2.2.1 y.1.2.2.2.1 y.1.2.2.2.2.1 y.2.1 y.2.2.1.1 y.2.2.1.2.1 y.2.2.1.2.2.1 y.2.2.1.2.2.2.1 y.2.2.1.2.2.2.2.1 y.2.2.2.1 y.2.2.2.2.1.1 y.2.2.2.2.1.2.1 y.2.2.2.2.1.2.2.1 y.2.2.2.2.1.2.2.2.1 y.2.2.2.2.1.2.2.2.2.1 y.2.2.2.2.2.1.1 y.2.2.2.2.2.1.2.1 y.2.2.2.2.2.1.2.2.1 y.2.2.2.2.2.1.2.2.2.1 (fun z0 z1 z2 z3 z4 z5 z6 => K (.exit 0) [.int .i64 z0, .own 137439052801] [some (.row (.named 2) z1 true), some (.box [.list (.int .u8) z2, .own 137439052800, .int .i64 z3, .int .i64 z4, .int .i64 z5]), some (.row (.named 1) z6 true)]) (fun z0 z1 z2 z3 z4 z5 z6 z7 z8 z9 z10 z11 z12 => K (.normal) [.ptr 0 0, .int .i64 z0, .ptr 65632 0, .own 137439098880, .int .i64 z1] [some (.box [.list (.int .u8) z2, .own 137439077376, .int .i64 z3, .int .i64 z4, .int .i64 z5]), some (.row (.named 1) z6 true), some (.box [.int .i64 z7, .int .i64 z8, .int .i64 z9, .int .i64 z10, .bool z11]), some (.row (.named 2) z12 true)])
noncomputable def f89_j24_d {R : Type} (k : Nat) : Lr D R := ldoor [.ptr 0 0, .int .i64, .ptr 65632 0, .own 137439051776, .int .i64, .int .i64, .ptr 458976 0, .ptr 655616 0, .int .i64, .bool] [some (.box [.list (.int .u8), .own 137439051777, .int .i64, .int .i64, .int .i64]), some (.row (.named 1) true), some (.box [.int .i64, .int .i64, .int .i64, .int .i64, .bool]), some (.row (.named 2) true), some (.box [.int .i64, .str, .int .i64, .bool, .bool]), some (.box [.int .i64, .int .i64, .int .i64, .bool])] (f89_j24_g k)
noncomputable def f89_j24_r {R : Type} (k : Nat) : Lrc D R := (lrcAdd 1000035 (f89_j35_d k) (lrcAdd 1000033 (f89_j33_d k) (lrcAdd 1000030 (f89_j30_d k) noLrc)))
theorem f89_j24_d_ok {R : Type} (k : Nat) : JoinOk Try.prog cx 262 1 f89_ann (f89_j24_d (R := R) k) f89_j24_b :=
  join_ok (keep := kp) (lrc := f89_j24_r (R := R) k) cxOk mixed (f89_o_ok k) (show f89_ann (Am.keyOf f89_j24_b + 1000000) = some f89_j24_a by kernel_rfl) (L := []) (by kernel_rfl) trivial (J := [f89_j30_b, f89_j33_b, f89_j35_b]) (by kernel_rfl) (⟨(f89_j30_d_ok k).use (by kernel_rfl), (f89_j33_d_ok k).use (by kernel_rfl), (f89_j35_d_ok k).use (by kernel_rfl), trivial⟩) ((LrcNat.add (f89_j35_d_ok k).2 (LrcNat.add (f89_j33_d_ok k).2 (LrcNat.add (f89_j30_d_ok k).2 LrcNat.no)))) (fun _x _y _K => by kernel_rfl)
noncomputable def f89_j20_b : Code := joinAt f89_ann f89_b 6
noncomputable def f89_j20_g {R : Type} (k : Nat) (x : (Unit × Int × Unit × Unit × Int × Int × Unit × Unit × Int × Bool × Unit)) (y : ((List Int × Unit × Int × Int × Int × Unit) × List D1 × (Int × Int × Int × Int × Bool × Unit) × List D2 × (Int × ByteArray × Int × Bool × Bool × Unit) × (Int × Int × Int × Bool × Unit) × Unit)) (K : KX R) : Option R := f89_j20 k x.2.1 x.2.2.2.2.1 x.2.2.2.2.2.1 x.2.2.2.2.2.2.2.2.1 x.2.2.2.2.2.2.2.2.2.1 y.1.1 y.1.2.2.1 y.1.2.2.2.1 y.1.2.2.2.2.1 y.2.1 y.2.2.1.1 y.2.2.1.2.1 y.2.2.1.2.2.1 y.2.2.1.2.2.2.1 y.2.2.1.2.2.2.2.1 y.2.2.2.1 y.2.2.2.2.1.1 y.2.2.2.2.1.2.1 y.2.2.2.2.1.2.2.1 y.2.2.2.2.1.2.2.2.1 y.2.2.2.2.1.2.2.2.2.1 y.2.2.2.2.2.1.1 y.2.2.2.2.2.1.2.1 y.2.2.2.2.2.1.2.2.1 y.2.2.2.2.2.1.2.2.2.1 (fun z0 z1 z2 z3 z4 z5 z6 => K (.exit 0) [.int .i64 z0, .own 137439036416] [some (.row (.named 2) z1 true), some (.box [.list (.int .u8) z2, .own 137439052800, .int .i64 z3, .int .i64 z4, .int .i64 z5]), some (.row (.named 1) z6 true)]) (fun z0 z1 z2 z3 z4 z5 z6 z7 z8 z9 z10 z11 z12 => K (.normal) [.ptr 0 0, .int .i64 z0, .ptr 65632 0, .own 137439098880, .int .i64 z1] [some (.box [.list (.int .u8) z2, .own 137439077376, .int .i64 z3, .int .i64 z4, .int .i64 z5]), some (.row (.named 1) z6 true), some (.box [.int .i64 z7, .int .i64 z8, .int .i64 z9, .int .i64 z10, .bool z11]), some (.row (.named 2) z12 true)])
noncomputable def f89_j20_d {R : Type} (k : Nat) : Lr D R := ldoor [.ptr 0 0, .int .i64, .ptr 65632 0, .own 137439035392, .int .i64, .int .i64, .ptr 458976 0, .ptr 655616 0, .int .i64, .bool] [some (.box [.list (.int .u8), .own 137439035393, .int .i64, .int .i64, .int .i64]), some (.row (.named 1) true), some (.box [.int .i64, .int .i64, .int .i64, .int .i64, .bool]), some (.row (.named 2) true), some (.box [.int .i64, .str, .int .i64, .bool, .bool]), some (.box [.int .i64, .int .i64, .int .i64, .bool])] (f89_j20_g k)
noncomputable def f89_j20_r {R : Type} (k : Nat) : Lrc D R := (lrcAdd 1000035 (f89_j35_d k) (lrcAdd 1000033 (f89_j33_d k) (lrcAdd 1000030 (f89_j30_d k) (lrcAdd 1000024 (f89_j24_d k) noLrc))))
theorem f89_j20_d_ok {R : Type} (k : Nat) : JoinOk Try.prog cx 262 1 f89_ann (f89_j20_d (R := R) k) f89_j20_b :=
  join_ok (keep := kp) (lrc := f89_j20_r (R := R) k) cxOk mixed (f89_o_ok k) (show f89_ann (Am.keyOf f89_j20_b + 1000000) = some f89_j20_a by kernel_rfl) (L := []) (by kernel_rfl) trivial (J := [f89_j24_b, f89_j30_b, f89_j33_b, f89_j35_b]) (by kernel_rfl) (⟨(f89_j24_d_ok k).use (by kernel_rfl), (f89_j30_d_ok k).use (by kernel_rfl), (f89_j33_d_ok k).use (by kernel_rfl), (f89_j35_d_ok k).use (by kernel_rfl), trivial⟩) ((LrcNat.add (f89_j35_d_ok k).2 (LrcNat.add (f89_j33_d_ok k).2 (LrcNat.add (f89_j30_d_ok k).2 (LrcNat.add (f89_j24_d_ok k).2 LrcNat.no))))) (fun _x _y _K => by kernel_rfl)
noncomputable def f89_j19_b : Code := joinAt f89_ann f89_b 5
noncomputable def f89_j19_g {R : Type} (k : Nat) (x : (Unit × Int × Unit × Unit × Int × Int × Unit × Bool × Unit × Int × Unit)) (y : ((List Int × Unit × Int × Int × Int × Unit) × List D1 × (Int × Int × Int × Int × Bool × Unit) × List D2 × (Int × ByteArray × Int × Bool × Bool × Unit) × (Int × Int × Int × Bool × Unit) × Unit)) (K : KX R) : Option R := f89_j19 k x.2.1 x.2.2.2.2.1 x.2.2.2.2.2.1 x.2.2.2.2.2.2.2.1 x.2.2.2.2.2.2.2.2.2.1 y.1.1 y.1.2.2.1 y.1.2.2.2.1 y.1.2.2.2.2.1 y.2.1 y.2.2.1.1 y.2.2.1.2.1 y.2.2.1.2.2.1 y.2.2.1.2.2.2.1 y.2.2.1.2.2.2.2.1 y.2.2.2.1 y.2.2.2.2.1.1 y.2.2.2.2.1.2.1 y.2.2.2.2.1.2.2.1 y.2.2.2.2.1.2.2.2.1 y.2.2.2.2.1.2.2.2.2.1 y.2.2.2.2.2.1.1 y.2.2.2.2.2.1.2.1 y.2.2.2.2.2.1.2.2.1 y.2.2.2.2.2.1.2.2.2.1 (fun z0 z1 z2 z3 z4 z5 z6 => K (.exit 0) [.int .i64 z0, .own 137439032320] [some (.row (.named 2) z1 true), some (.box [.list (.int .u8) z2, .own 137439052800, .int .i64 z3, .int .i64 z4, .int .i64 z5]), some (.row (.named 1) z6 true)]) (fun z0 z1 z2 z3 z4 z5 z6 z7 z8 z9 z10 z11 z12 => K (.normal) [.ptr 0 0, .int .i64 z0, .ptr 65632 0, .own 137439098880, .int .i64 z1] [some (.box [.list (.int .u8) z2, .own 137439077376, .int .i64 z3, .int .i64 z4, .int .i64 z5]), some (.row (.named 1) z6 true), some (.box [.int .i64 z7, .int .i64 z8, .int .i64 z9, .int .i64 z10, .bool z11]), some (.row (.named 2) z12 true)])
noncomputable def f89_j19_d {R : Type} (k : Nat) : Lr D R := ldoor [.ptr 0 0, .int .i64, .ptr 65632 0, .own 137439031296, .int .i64, .int .i64, .ptr 458976 0, .bool, .ptr 655616 0, .int .i64] [some (.box [.list (.int .u8), .own 137439031297, .int .i64, .int .i64, .int .i64]), some (.row (.named 1) true), some (.box [.int .i64, .int .i64, .int .i64, .int .i64, .bool]), some (.row (.named 2) true), some (.box [.int .i64, .str, .int .i64, .bool, .bool]), some (.box [.int .i64, .int .i64, .int .i64, .bool])] (f89_j19_g k)
noncomputable def f89_j19_r {R : Type} (k : Nat) : Lrc D R := (lrcAdd 1000035 (f89_j35_d k) (lrcAdd 1000033 (f89_j33_d k) (lrcAdd 1000030 (f89_j30_d k) (lrcAdd 1000024 (f89_j24_d k) (lrcAdd 1000020 (f89_j20_d k) noLrc)))))
theorem f89_j19_d_ok {R : Type} (k : Nat) : JoinOk Try.prog cx 262 1 f89_ann (f89_j19_d (R := R) k) f89_j19_b :=
  join_ok (keep := kp) (lrc := f89_j19_r (R := R) k) cxOk mixed (f89_o_ok k) (show f89_ann (Am.keyOf f89_j19_b + 1000000) = some f89_j19_a by kernel_rfl) (L := []) (by kernel_rfl) trivial (J := [f89_j20_b, f89_j24_b, f89_j30_b, f89_j33_b, f89_j35_b]) (by kernel_rfl) (⟨(f89_j20_d_ok k).use (by kernel_rfl), (f89_j24_d_ok k).use (by kernel_rfl), (f89_j30_d_ok k).use (by kernel_rfl), (f89_j33_d_ok k).use (by kernel_rfl), (f89_j35_d_ok k).use (by kernel_rfl), trivial⟩) ((LrcNat.add (f89_j35_d_ok k).2 (LrcNat.add (f89_j33_d_ok k).2 (LrcNat.add (f89_j30_d_ok k).2 (LrcNat.add (f89_j24_d_ok k).2 (LrcNat.add (f89_j20_d_ok k).2 LrcNat.no)))))) (fun _x _y _K => by kernel_rfl)
noncomputable def f89_j9_b : Code := joinAt f89_ann f89_b 2
noncomputable def f89_j9_g {R : Type} (k : Nat) (x : (Unit × Int × Unit × Unit × Int × Int × Unit × Bool × Unit)) (y : ((List Int × Unit × Int × Int × Int × Unit) × List D1 × (Int × Int × Int × Int × Bool × Unit) × List D2 × (Int × ByteArray × Int × Bool × Bool × Unit) × Unit)) (K : KX R) : Option R := f89_j9 k x.2.1 x.2.2.2.2.1 x.2.2.2.2.2.1 x.2.2.2.2.2.2.2.1 y.1.1 y.1.2.2.1 y.1.2.2.2.1 y.1.2.2.2.2.1 y.2.1 y.2.2.1.1 y.2.2.1.2.1 y.2.2.1.2.2.1 y.2.2.1.2.2.2.1 y.2.2.1.2.2.2.2.1 y.2.2.2.1 y.2.2.2.2.1.1 y.2.2.2.2.1.2.1 y.2.2.2.2.1.2.2.1 y.2.2.2.2.1.2.2.2.1 y.2.2.2.2.1.2.2.2.2.1 (fun z0 z1 z2 z3 z4 z5 z6 => K (.exit 0) [.int .i64 z0, .own 137438991361] [some (.row (.named 2) z1 true), some (.box [.list (.int .u8) z2, .own 137438991360, .int .i64 z3, .int .i64 z4, .int .i64 z5]), some (.row (.named 1) z6 true)]) (fun z0 z1 z2 z3 z4 z5 z6 z7 z8 z9 z10 z11 z12 => K (.normal) [.ptr 0 0, .int .i64 z0, .ptr 65632 0, .own 137439098880, .int .i64 z1] [some (.box [.list (.int .u8) z2, .own 137439077376, .int .i64 z3, .int .i64 z4, .int .i64 z5]), some (.row (.named 1) z6 true), some (.box [.int .i64 z7, .int .i64 z8, .int .i64 z9, .int .i64 z10, .bool z11]), some (.row (.named 2) z12 true)])
noncomputable def f89_j9_d {R : Type} (k : Nat) : Lr D R := ldoor [.ptr 0 0, .int .i64, .ptr 65632 0, .own 137438990336, .int .i64, .int .i64, .ptr 458976 0, .bool] [some (.box [.list (.int .u8), .own 137438990337, .int .i64, .int .i64, .int .i64]), some (.row (.named 1) true), some (.box [.int .i64, .int .i64, .int .i64, .int .i64, .bool]), some (.row (.named 2) true), some (.box [.int .i64, .str, .int .i64, .bool, .bool])] (f89_j9_g k)
noncomputable def f89_j9_r {R : Type} (k : Nat) : Lrc D R := (lrcAdd 1000035 (f89_j35_d k) (lrcAdd 1000033 (f89_j33_d k) (lrcAdd 1000030 (f89_j30_d k) (lrcAdd 1000024 (f89_j24_d k) (lrcAdd 1000020 (f89_j20_d k) (lrcAdd 1000019 (f89_j19_d k) (lrcAdd 1000016 (f89_j16_d k) (lrcAdd 1000014 (f89_j14_d k) noLrc))))))))
theorem f89_j9_d_ok {R : Type} (k : Nat) : JoinOk Try.prog cx 262 1 f89_ann (f89_j9_d (R := R) k) f89_j9_b :=
  join_ok (keep := kp) (lrc := f89_j9_r (R := R) k) cxOk mixed (f89_o_ok k) (show f89_ann (Am.keyOf f89_j9_b + 1000000) = some f89_j9_a by kernel_rfl) (L := []) (by kernel_rfl) trivial (J := [f89_j14_b, f89_j16_b, f89_j19_b, f89_j20_b, f89_j24_b, f89_j30_b, f89_j33_b, f89_j35_b]) (by kernel_rfl) (⟨(f89_j14_d_ok k).use (by kernel_rfl), (f89_j16_d_ok k).use (by kernel_rfl), (f89_j19_d_ok k).use (by kernel_rfl), (f89_j20_d_ok k).use (by kernel_rfl), (f89_j24_d_ok k).use (by kernel_rfl), (f89_j30_d_ok k).use (by kernel_rfl), (f89_j33_d_ok k).use (by kernel_rfl), (f89_j35_d_ok k).use (by kernel_rfl), trivial⟩) ((LrcNat.add (f89_j35_d_ok k).2 (LrcNat.add (f89_j33_d_ok k).2 (LrcNat.add (f89_j30_d_ok k).2 (LrcNat.add (f89_j24_d_ok k).2 (LrcNat.add (f89_j20_d_ok k).2 (LrcNat.add (f89_j19_d_ok k).2 (LrcNat.add (f89_j16_d_ok k).2 (LrcNat.add (f89_j14_d_ok k).2 LrcNat.no))))))))) (fun _x _y _K => by kernel_rfl)
noncomputable def f89_j5_b : Code := joinAt f89_ann f89_b 0
noncomputable def f89_j5_g {R : Type} (k : Nat) (x : (Unit × Int × Unit × Unit × Int × Unit)) (y : ((List Int × Unit × Int × Int × Int × Unit) × List D1 × (Int × Int × Int × Int × Bool × Unit) × List D2 × Unit)) (K : KX R) : Option R := f89_j5 k x.2.1 x.2.2.2.2.1 y.1.1 y.1.2.2.1 y.1.2.2.2.1 y.1.2.2.2.2.1 y.2.1 y.2.2.1.1 y.2.2.1.2.1 y.2.2.1.2.2.1 y.2.2.1.2.2.2.1 y.2.2.1.2.2.2.2.1 y.2.2.2.1 (fun z0 z1 z2 z3 z4 z5 z6 => K (.exit 0) [.int .i64 z0, .own 137438974976] [some (.row (.named 2) z1 true), some (.box [.list (.int .u8) z2, .own 137438991360, .int .i64 z3, .int .i64 z4, .int .i64 z5]), some (.row (.named 1) z6 true)]) (fun z0 z1 z2 z3 z4 z5 z6 z7 z8 z9 z10 z11 z12 => K (.normal) [.ptr 0 0, .int .i64 z0, .ptr 65632 0, .own 137439098880, .int .i64 z1] [some (.box [.list (.int .u8) z2, .own 137439077376, .int .i64 z3, .int .i64 z4, .int .i64 z5]), some (.row (.named 1) z6 true), some (.box [.int .i64 z7, .int .i64 z8, .int .i64 z9, .int .i64 z10, .bool z11]), some (.row (.named 2) z12 true)]) (fun z0 z1 z2 z3 z4 z5 z6 => K (.ret) [.own 137438977024, .int .i64 z0] [some (.row (.named 2) z1 true), some (.box [.list (.int .u8) z2, .own 137438977025, .int .i64 z3, .int .i64 z4, .int .i64 z5]), some (.row (.named 1) z6 true)])
noncomputable def f89_j5_d {R : Type} (k : Nat) : Lr D R := ldoor [.ptr 0 0, .int .i64, .ptr 65632 0, .own 137438973952, .int .i64] [some (.box [.list (.int .u8), .own 137438973953, .int .i64, .int .i64, .int .i64]), some (.row (.named 1) true), some (.box [.int .i64, .int .i64, .int .i64, .int .i64, .bool]), some (.row (.named 2) true)] (f89_j5_g k)
noncomputable def f89_j5_r {R : Type} (k : Nat) : Lrc D R := (lrcAdd 1000035 (f89_j35_d k) (lrcAdd 1000033 (f89_j33_d k) (lrcAdd 1000030 (f89_j30_d k) (lrcAdd 1000024 (f89_j24_d k) (lrcAdd 1000020 (f89_j20_d k) (lrcAdd 1000019 (f89_j19_d k) (lrcAdd 1000016 (f89_j16_d k) (lrcAdd 1000014 (f89_j14_d k) (lrcAdd 1000009 (f89_j9_d k) (lrcAdd 1000008 (f89_j8_d k) noLrc))))))))))
theorem f89_j5_d_ok {R : Type} (k : Nat) : JoinOk Try.prog cx 262 1 f89_ann (f89_j5_d (R := R) k) f89_j5_b :=
  join_ok (keep := kp) (lrc := f89_j5_r (R := R) k) cxOk mixed (f89_o_ok k) (show f89_ann (Am.keyOf f89_j5_b + 1000000) = some f89_j5_a by kernel_rfl) (L := []) (by kernel_rfl) trivial (J := [f89_j8_b, f89_j9_b, f89_j14_b, f89_j16_b, f89_j19_b, f89_j20_b, f89_j24_b, f89_j30_b, f89_j33_b, f89_j35_b]) (by kernel_rfl) (⟨(f89_j8_d_ok k).use (by kernel_rfl), (f89_j9_d_ok k).use (by kernel_rfl), (f89_j14_d_ok k).use (by kernel_rfl), (f89_j16_d_ok k).use (by kernel_rfl), (f89_j19_d_ok k).use (by kernel_rfl), (f89_j20_d_ok k).use (by kernel_rfl), (f89_j24_d_ok k).use (by kernel_rfl), (f89_j30_d_ok k).use (by kernel_rfl), (f89_j33_d_ok k).use (by kernel_rfl), (f89_j35_d_ok k).use (by kernel_rfl), trivial⟩) ((LrcNat.add (f89_j35_d_ok k).2 (LrcNat.add (f89_j33_d_ok k).2 (LrcNat.add (f89_j30_d_ok k).2 (LrcNat.add (f89_j24_d_ok k).2 (LrcNat.add (f89_j20_d_ok k).2 (LrcNat.add (f89_j19_d_ok k).2 (LrcNat.add (f89_j16_d_ok k).2 (LrcNat.add (f89_j14_d_ok k).2 (LrcNat.add (f89_j9_d_ok k).2 (LrcNat.add (f89_j8_d_ok k).2 LrcNat.no))))))))))) (fun _x _y _K => by kernel_rfl)
noncomputable def f89_l3_b : Code := loopAt f89_b 0
noncomputable def f89_l3_g {R : Type} (k : Nat) (x : (Unit × Int × Unit × Unit × Int × Unit)) (y : ((List Int × Unit × Int × Int × Int × Unit) × List D1 × (Int × Int × Int × Int × Bool × Unit) × List D2 × Unit)) (K : KX R) : Option R := f89_l3 k x.2.1 x.2.2.2.2.1 y.1.1 y.1.2.2.1 y.1.2.2.2.1 y.1.2.2.2.2.1 y.2.1 y.2.2.1.1 y.2.2.1.2.1 y.2.2.1.2.2.1 y.2.2.1.2.2.2.1 y.2.2.1.2.2.2.2.1 y.2.2.2.1 (fun z0 z1 z2 z3 z4 z5 z6 => K (.exit 0) [.int .i64 z0, .own 68719490048] [some (.row (.named 2) z1 true), some (.box [.list (.int .u8) z2, .own 68719490049, .int .i64 z3, .int .i64 z4, .int .i64 z5]), some (.row (.named 1) z6 true)]) (fun z0 z1 z2 z3 z4 z5 z6 => K (.ret) [.own 137438977024, .int .i64 z0] [some (.row (.named 2) z1 true), some (.box [.list (.int .u8) z2, .own 137438977025, .int .i64 z3, .int .i64 z4, .int .i64 z5]), some (.row (.named 1) z6 true)])
noncomputable def f89_l3_d {R : Type} (k : Nat) : Lr D R := ldoor [.ptr 0 0, .int .i64, .ptr 65632 0, .own 68719489024, .int .i64] [some (.box [.list (.int .u8), .own 68719489025, .int .i64, .int .i64, .int .i64]), some (.row (.named 1) true), some (.box [.int .i64, .int .i64, .int .i64, .int .i64, .bool]), some (.row (.named 2) true)] (f89_l3_g k)
noncomputable def f89_l3_r {R : Type} (k : Nat) : Lrc D R := (lrcAdd 1000035 (f89_j35_d k) (lrcAdd 1000033 (f89_j33_d k) (lrcAdd 1000030 (f89_j30_d k) (lrcAdd 1000024 (f89_j24_d k) (lrcAdd 1000020 (f89_j20_d k) (lrcAdd 1000019 (f89_j19_d k) (lrcAdd 1000016 (f89_j16_d k) (lrcAdd 1000014 (f89_j14_d k) (lrcAdd 1000009 (f89_j9_d k) (lrcAdd 1000008 (f89_j8_d k) (lrcAdd 1000005 (f89_j5_d k) noLrc)))))))))))
theorem f89_l3_d_ok {R : Type} : ∀ k, LoopOk Try.prog cx 262 1 f89_ann (f89_l3_d (R := R) k) f89_l3_b :=
  loop_ok (keep := kp) (lrc := f89_l3_r (R := R)) cxOk mixed (f89_o_ok) (show f89_ann (Am.keyOf f89_l3_b) = some f89_l3_a by kernel_rfl) (L := []) (by kernel_rfl) (fun _k => trivial) (J := [f89_j5_b, f89_j8_b, f89_j9_b, f89_j14_b, f89_j16_b, f89_j19_b, f89_j20_b, f89_j24_b, f89_j30_b, f89_j33_b, f89_j35_b]) (by kernel_rfl) (fun k => ⟨(f89_j5_d_ok k).use (by kernel_rfl), (f89_j8_d_ok k).use (by kernel_rfl), (f89_j9_d_ok k).use (by kernel_rfl), (f89_j14_d_ok k).use (by kernel_rfl), (f89_j16_d_ok k).use (by kernel_rfl), (f89_j19_d_ok k).use (by kernel_rfl), (f89_j20_d_ok k).use (by kernel_rfl), (f89_j24_d_ok k).use (by kernel_rfl), (f89_j30_d_ok k).use (by kernel_rfl), (f89_j33_d_ok k).use (by kernel_rfl), (f89_j35_d_ok k).use (by kernel_rfl), trivial⟩) (fun k => (LrcNat.add (f89_j35_d_ok k).2 (LrcNat.add (f89_j33_d_ok k).2 (LrcNat.add (f89_j30_d_ok k).2 (LrcNat.add (f89_j24_d_ok k).2 (LrcNat.add (f89_j20_d_ok k).2 (LrcNat.add (f89_j19_d_ok k).2 (LrcNat.add (f89_j16_d_ok k).2 (LrcNat.add (f89_j14_d_ok k).2 (LrcNat.add (f89_j9_d_ok k).2 (LrcNat.add (f89_j8_d_ok k).2 (LrcNat.add (f89_j5_d_ok k).2 LrcNat.no)))))))))))) (fun _x _y _K => by kernel_rfl) (fun _k _x _y _K => by kernel_rfl)
noncomputable def f89_r {R : Type} (k : Nat) : Lrc D R := (lrcAdd 1000035 (f89_j35_d k) (lrcAdd 1000033 (f89_j33_d k) (lrcAdd 1000030 (f89_j30_d k) (lrcAdd 1000024 (f89_j24_d k) (lrcAdd 1000020 (f89_j20_d k) (lrcAdd 1000019 (f89_j19_d k) (lrcAdd 1000016 (f89_j16_d k) (lrcAdd 1000014 (f89_j14_d k) (lrcAdd 1000009 (f89_j9_d k) (lrcAdd 1000008 (f89_j8_d k) (lrcAdd 1000005 (f89_j5_d k) (lrcAdd 3 (f89_l3_d k) noLrc))))))))))))
theorem f89_ok {R : Type} (k : Nat) {e : Dr D R} (he : FnOk Try.prog cx 89 e) : FnOk Try.prog cx 89 (f89_d (f89 k) e) :=
  he.door fun _x _y => body_ok (keep := kp) (ann := f89_ann) (lrc := f89_r (R := R) k) (N := 262) (n0 := 1) (c := []) cxOk mixed (f89_o_ok k) (body := f89_b) (by kernel_rfl : Try.prog.funcs[89]? = some Try.f89) (by kernel_rfl) (by kernel_rfl) (by kernel_rfl) (by kernel_rfl) (of_decide_eq_true (by kernel_rfl)) (L := [f89_l3_b]) (by kernel_rfl) (⟨(f89_l3_d_ok k).use (by kernel_rfl), trivial⟩) (J := [f89_j5_b, f89_j8_b, f89_j9_b, f89_j14_b, f89_j16_b, f89_j19_b, f89_j20_b, f89_j24_b, f89_j30_b, f89_j33_b, f89_j35_b]) (by kernel_rfl) (⟨(f89_j5_d_ok k).use (by kernel_rfl), (f89_j8_d_ok k).use (by kernel_rfl), (f89_j9_d_ok k).use (by kernel_rfl), (f89_j14_d_ok k).use (by kernel_rfl), (f89_j16_d_ok k).use (by kernel_rfl), (f89_j19_d_ok k).use (by kernel_rfl), (f89_j20_d_ok k).use (by kernel_rfl), (f89_j24_d_ok k).use (by kernel_rfl), (f89_j30_d_ok k).use (by kernel_rfl), (f89_j33_d_ok k).use (by kernel_rfl), (f89_j35_d_ok k).use (by kernel_rfl), trivial⟩) ((LrcNat.add (f89_j35_d_ok k).2 (LrcNat.add (f89_j33_d_ok k).2 (LrcNat.add (f89_j30_d_ok k).2 (LrcNat.add (f89_j24_d_ok k).2 (LrcNat.add (f89_j20_d_ok k).2 (LrcNat.add (f89_j19_d_ok k).2 (LrcNat.add (f89_j16_d_ok k).2 (LrcNat.add (f89_j14_d_ok k).2 (LrcNat.add (f89_j9_d_ok k).2 (LrcNat.add (f89_j8_d_ok k).2 (LrcNat.add (f89_j5_d_ok k).2 (LrcNat.add (f89_l3_d_ok k).2 LrcNat.no))))))))))))) (fun _K => by delta f89 f89_o; generalize @f30 R = a0; generalize @f26 R = a1; generalize @f98 R = a2; generalize @f105_2 R = a3; generalize @f102_2 R = a4; generalize @f103_2 R = a5; generalize @f104_2 R = a6; generalize @f89_2 R = a7; revert a0 a1 a2 a3 a4 a5 a6 a7; refine id ?_; intros; kernel_rfl)


end Go.Proofs.Ytklhjegfkpmdoaa

/-! What the functions do, as plain functions; and that they do. -/
namespace Go.Proofs.Ytklhjegfkpmdoaa
open Go Go.Am
abbrev f57_T (R : Type) : Type := List Int → (List D2 → List Int → Int → Int → Int → List D1 → Option R) → Option R
/-! ## 57: diorama/dioramaref04.read -/
noncomputable def f57 {R : Type} (k : Nat) (a0 : List Int) (K : List D2 → List Int → Int → Int → Int → List D1 → Option R) : Option R :=
 bif decide ((a0.length : Int) > 1048576) then
  K ([] : List D2) a0 0 2 0 ([] : List D1)
 else
  f89 k 0 0 (a0.length : Int) (-1) 1 false a0 0 0 0 (fun _v1 v2 v3 v4 v5 v6 v7 =>
   K v6 v2 v3 v4 v5 v7)
noncomputable def f57_d {R : Type} (g : f57_T R) (e : Dr D R) : Dr D R := door [.list (.int .u8)] [] (fun (x : (List Int × Unit)) (y : (Unit)) K => g x.1 (fun z0 z1 z2 z3 z4 z5 => K ⟨.tup [.own 0, .ptr 1 0], [some (.row (.named 2) z0 true), some (.box [.list (.int .u8) z1, .own 2, .int .i64 z2, .int .i64 z3, .int .i64 z4]), some (.row (.named 1) z5 true)]⟩)) e
noncomputable def f57_o {R : Type} (k : Nat) : Orc D R := (orcAdd 89 (f89_d (f89 k) noDr) noOrc)
theorem f57_o_ok {R : Type} (k : Nat) : OrcOk Try.prog cx (f57_o (R := R) k) := (OrcOk.add (f89_ok k FnOk.no) OrcOk.no)
noncomputable def f57_b : Code := bodyOf Try.f57
noncomputable def f57_ann : Nat → Option LAnn := fun _key => none
noncomputable def f57_r {R : Type} (_k : Nat) : Lrc D R := noLrc
theorem f57_ok {R : Type} (k : Nat) {e : Dr D R} (he : FnOk Try.prog cx 57 e) : FnOk Try.prog cx 57 (f57_d (f57 k) e) :=
  he.door fun _x _y => body_ok (keep := kp) (ann := f57_ann) (lrc := f57_r (R := R) k) (N := 27) (n0 := 0) (c := [(.tmp 2, .own 1099511627776 (.named 2)), (.cell 131232 1, .own 1099511627777 (.named 1))]) cxOk mixed (f57_o_ok k) (body := f57_b) (by kernel_rfl : Try.prog.funcs[57]? = some Try.f57) (by kernel_rfl) (by kernel_rfl) (by kernel_rfl) (by kernel_rfl) (of_decide_eq_true (by kernel_rfl)) (L := []) (by kernel_rfl) trivial (J := []) (by kernel_rfl) trivial (LrcNat.no) (fun _K => by delta f57 f57_o; generalize @f89 R = a0; revert a0; refine id ?_; intros; kernel_rfl)

abbrev f20_T (R : Type) : Type := List Int → (Int → Int → List D2 → Option R) → Option R
/-! ## 20: diorama/dioramaref04.Parse -/
noncomputable def f20 {R : Type} (k : Nat) (a0 : List Int) (K : Int → Int → List D2 → Option R) : Option R :=
 f57 k a0 (fun v1 _v2 _v3 v4 v5 _v6 =>
  bif (v4 != 0) then
   K v5 v4 ([] : List D2)
  else
   K 0 0 v1)
noncomputable def f20_d {R : Type} (g : f20_T R) (e : Dr D R) : Dr D R := door [.list (.int .u8)] [] (fun (x : (List Int × Unit)) (y : (Unit)) K => g x.1 (fun z0 z1 z2 => K ⟨.tup [.own 0, .int .i64 z0, .int .i64 z1], [some (.row (.named 2) z2 true)]⟩)) e
noncomputable def f20_o {R : Type} (k : Nat) : Orc D R := (orcAdd 57 (f57_d (f57 k) noDr) noOrc)
theorem f20_o_ok {R : Type} (k : Nat) : OrcOk Try.prog cx (f20_o (R := R) k) := (OrcOk.add (f57_ok k FnOk.no) OrcOk.no)
noncomputable def f20_b : Code := bodyOf Try.f20
noncomputable def f20_ann : Nat → Option LAnn := fun _key => none
noncomputable def f20_r {R : Type} (_k : Nat) : Lrc D R := noLrc
theorem f20_ok {R : Type} (k : Nat) {e : Dr D R} (he : FnOk Try.prog cx 20 e) : FnOk Try.prog cx 20 (f20_d (f20 k) e) :=
  he.door fun _x _y => body_ok (keep := kp) (ann := f20_ann) (lrc := f20_r (R := R) k) (N := 26) (n0 := 0) (c := [(.tmp 2, .own 1099511627776 (.named 2))]) cxOk mixed (f20_o_ok k) (body := f20_b) (by kernel_rfl : Try.prog.funcs[20]? = some Try.f20) (by kernel_rfl) (by kernel_rfl) (by kernel_rfl) (by kernel_rfl) (of_decide_eq_true (by kernel_rfl)) (L := []) (by kernel_rfl) trivial (J := []) (by kernel_rfl) trivial (LrcNat.no) (fun _K => by delta f20 f20_o; generalize @f57 R = a0; revert a0; refine id ?_; intros; kernel_rfl)

abbrev f21_T (R : Type) : Type := List Int → (Int → Int → List D1 → Option R) → Option R
/-! ## 21: diorama/element.Places -/
noncomputable def f21 {R : Type} (k : Nat) (a0 : List Int) (K : Int → Int → List D1 → Option R) : Option R :=
 f55 k a0 (fun v1 v2 v3 v4 v5 v6 _v7 =>
  f56_2 k v1 v2 v3 v4 v5 v6 (fun v8 _v9 _v10 _v11 v12 v13 v14 =>
   bif (!v8) then
    K v13 v12 ([] : List D1)
   else
    K 0 0 v14))
noncomputable def f21_d {R : Type} (g : f21_T R) (e : Dr D R) : Dr D R := door [.list (.int .u8)] [] (fun (x : (List Int × Unit)) (y : (Unit)) K => g x.1 (fun z0 z1 z2 => K ⟨.tup [.own 0, .int .i64 z0, .int .i64 z1], [some (.row (.named 1) z2 true)]⟩)) e
noncomputable def f21_o {R : Type} (k : Nat) : Orc D R := (orcAdd 55 (f55_d (f55 k) noDr) (orcAdd 56 (f56_2_d (f56_2 k) noDr) noOrc))
theorem f21_o_ok {R : Type} (k : Nat) : OrcOk Try.prog cx (f21_o (R := R) k) := (OrcOk.add (f55_ok k FnOk.no) (OrcOk.add (f56_2_ok k FnOk.no) OrcOk.no))
noncomputable def f21_b : Code := bodyOf Try.f21
noncomputable def f21_ann : Nat → Option LAnn := fun _key => none
noncomputable def f21_r {R : Type} (_k : Nat) : Lrc D R := noLrc
theorem f21_ok {R : Type} (k : Nat) {e : Dr D R} (he : FnOk Try.prog cx 21 e) : FnOk Try.prog cx 21 (f21_d (f21 k) e) :=
  he.door fun _x _y => body_ok (keep := kp) (ann := f21_ann) (lrc := f21_r (R := R) k) (N := 29) (n0 := 0) (c := [(.tmp 2, .own 1099511627776 (.named 1))]) cxOk mixed (f21_o_ok k) (body := f21_b) (by kernel_rfl : Try.prog.funcs[21]? = some Try.f21) (by kernel_rfl) (by kernel_rfl) (by kernel_rfl) (by kernel_rfl) (of_decide_eq_true (by kernel_rfl)) (L := []) (by kernel_rfl) trivial (J := []) (by kernel_rfl) trivial (LrcNat.no) (fun _K => by delta f21 f21_o; generalize @f56_2 R = a0; generalize @f55 R = a1; revert a0 a1; refine id ?_; intros; kernel_rfl)

abbrev f22_T (R : Type) : Type := List Int → (Int → Int → List D1 → Option R) → Option R
/-! ## 22: diorama/dioramaref04.Places -/
noncomputable def f22 {R : Type} (k : Nat) (a0 : List Int) (K : Int → Int → List D1 → Option R) : Option R :=
 f57 k a0 (fun _v1 _v2 _v3 v4 v5 v6 =>
  bif (v4 != 0) then
   K v5 v4 ([] : List D1)
  else
   K 0 0 v6)
noncomputable def f22_d {R : Type} (g : f22_T R) (e : Dr D R) : Dr D R := door [.list (.int .u8)] [] (fun (x : (List Int × Unit)) (y : (Unit)) K => g x.1 (fun z0 z1 z2 => K ⟨.tup [.own 0, .int .i64 z0, .int .i64 z1], [some (.row (.named 1) z2 true)]⟩)) e
noncomputable def f22_o {R : Type} (k : Nat) : Orc D R := (orcAdd 57 (f57_d (f57 k) noDr) noOrc)
theorem f22_o_ok {R : Type} (k : Nat) : OrcOk Try.prog cx (f22_o (R := R) k) := (OrcOk.add (f57_ok k FnOk.no) OrcOk.no)
noncomputable def f22_b : Code := bodyOf Try.f22
noncomputable def f22_ann : Nat → Option LAnn := fun _key => none
noncomputable def f22_r {R : Type} (_k : Nat) : Lrc D R := noLrc
theorem f22_ok {R : Type} (k : Nat) {e : Dr D R} (he : FnOk Try.prog cx 22 e) : FnOk Try.prog cx 22 (f22_d (f22 k) e) :=
  he.door fun _x _y => body_ok (keep := kp) (ann := f22_ann) (lrc := f22_r (R := R) k) (N := 29) (n0 := 0) (c := [(.tmp 2, .own 1099511627776 (.named 1))]) cxOk mixed (f22_o_ok k) (body := f22_b) (by kernel_rfl : Try.prog.funcs[22]? = some Try.f22) (by kernel_rfl) (by kernel_rfl) (by kernel_rfl) (by kernel_rfl) (of_decide_eq_true (by kernel_rfl)) (L := []) (by kernel_rfl) trivial (J := []) (by kernel_rfl) trivial (LrcNat.no) (fun _K => by delta f22 f22_o; generalize @f57 R = a0; revert a0; refine id ?_; intros; kernel_rfl)

abbrev f23_T (R : Type) : Type := List D2 → List D2 → (Bool → Option R) → Option R
/-! ## 23: diorama/dioramaref04.Same -/
noncomputable def f23_l4 {R : Type} (g_f23 : Nat → f23_T R) : Nat → List D2 → List D2 → Int → Option R → (Bool → Option R) → Option R
  | 0, _, _, _, _, _ => none
  | k + 1, v1, v2, v3, X0, X1 =>
  bif decide (v3 < (v1.length : Int)) then
   bif inb v3 v1.length then
    bif inb v3 v2.length then
     bif ((D2.c0 (v1.getD v3.toNat zero2)) != (D2.c0 (v2.getD v3.toNat zero2))) then
      X1 false
     else
      bif inb v3 v1.length then
      bif inb v3 v2.length then
      bif (!((D2.c3 (v1.getD v3.toNat zero2)) == (D2.c3 (v2.getD v3.toNat zero2)))) then
      X1 false
      else
      bif inb v3 v1.length then
      bif inb v3 v2.length then
      f17 k (D2.c1 (v1.getD v3.toNat zero2)) (D2.c1 (v2.getD v3.toNat zero2)) (fun v4 =>
      bif (!v4) then
      X1 false
      else
      bif inb v3 v1.length then
      bif inb v3 v2.length then
      g_f23 k (D2.c2 (v1.getD v3.toNat zero2)) (D2.c2 (v2.getD v3.toNat zero2)) (fun v5 =>
      bif (!v5) then
      X1 false
      else
      f23_l4 g_f23 k v1 v2 (IntKind.i64.wrap (v3 + 1)) X0 X1)
      else
      none
      else
      none)
      else
      none
      else
      none
      else
      none
      else
      none
    else
     none
   else
    none
  else
   X0
noncomputable def f23_s {R : Type} (g_f23 : Nat → f23_T R) (k : Nat) (a0 a1 : List D2) (K : Bool → Option R) : Option R :=
 bif ((a0.length : Int) != (a1.length : Int)) then
  K false
 else
  f23_l4 g_f23 k a0 a1 0 (
   K true) K
noncomputable def f23_d {R : Type} (g : f23_T R) (e : Dr D R) : Dr D R := door [.list (.named 2), .list (.named 2)] [] (fun (x : (List D2 × List D2 × Unit)) (y : (Unit)) K => g x.1 x.2.1 (fun z0 => K ⟨.bool z0, []⟩)) e
noncomputable def f23_o {R : Type} (g_f23 : Nat → f23_T R) (k : Nat) : Orc D R := (orcAdd 23 (f23_d (g_f23 k) noDr) (orcAdd 17 (f17_d (f17 k) noDr) noOrc))
theorem f23_o_ok {R : Type} (g_f23 : Nat → f23_T R) (h_f23 : ∀ (k : Nat) (e : Dr D R), FnOk Try.prog cx 23 e → FnOk Try.prog cx 23 (f23_d (g_f23 k) e)) (k : Nat) : OrcOk Try.prog cx (f23_o (R := R) g_f23 k) := (OrcOk.add (h_f23 k _ FnOk.no) (OrcOk.add (f17_ok k FnOk.no) OrcOk.no))
noncomputable def f23_b : Code := bodyOf Try.f23
noncomputable def f23_l4_a : LAnn := ⟨⟨[], [0, 1, 5], []⟩, exOf (some ⟨[], [4], []⟩) [(0, ⟨[], [], []⟩)]⟩
noncomputable def f23_ann : Nat → Option LAnn := fun key => bif Nat.beq key 4 then some f23_l4_a else none
noncomputable def f23_l4_b : Code := loopAt f23_b 0
noncomputable def f23_l4_g {R : Type} (g_f23 : Nat → f23_T R) (k : Nat) (x : (List D2 × List D2 × Int × Unit)) (_y : (Unit)) (K : KX R) : Option R := f23_l4 g_f23 k x.1 x.2.1 x.2.2.1 (K (.exit 0) [] []) (fun z0 => K (.ret) [.bool z0] [])
noncomputable def f23_l4_d {R : Type} (g_f23 : Nat → f23_T R) (k : Nat) : Lr D R := ldoor [.list (.named 2), .list (.named 2), .int .i64] [] (f23_l4_g g_f23 k)
noncomputable def f23_l4_r {R : Type} (_g_f23 : Nat → f23_T R) (_k : Nat) : Lrc D R := noLrc
theorem f23_l4_d_ok {R : Type} (g_f23 : Nat → f23_T R) (h_f23 : ∀ (k : Nat) (e : Dr D R), FnOk Try.prog cx 23 e → FnOk Try.prog cx 23 (f23_d (g_f23 k) e)) : ∀ k, LoopOk Try.prog cx 69 0 f23_ann (f23_l4_d (R := R) g_f23 k) f23_l4_b :=
  loop_ok (keep := kp) (lrc := f23_l4_r (R := R) g_f23) cxOk mixed (f23_o_ok g_f23 h_f23) (show f23_ann (Am.keyOf f23_l4_b) = some f23_l4_a by kernel_rfl) (L := []) (by kernel_rfl) (fun _k => trivial) (J := []) (by kernel_rfl) (fun _k => trivial) (fun _k => LrcNat.no) (fun _x _y _K => by kernel_rfl) (fun _k _x _y _K => by kernel_rfl)
noncomputable def f23_r {R : Type} (g_f23 : Nat → f23_T R) (k : Nat) : Lrc D R := (lrcAdd 4 (f23_l4_d g_f23 k) noLrc)
noncomputable def rec_f23 {R : Type} : Nat → (f23_T R)
  | 0 => (fun _ _ _ => none)
  | k + 1 => (f23_s (fun _ => (rec_f23 (R := R) k)) k)
theorem rec_f23_succ {R : Type} (k : Nat) : rec_f23 (R := R) (k + 1) = (f23_s (fun _ => (rec_f23 (R := R) k)) k) := rfl
theorem rec_f23_ok {R : Type} : ∀ k, (∀ e : Dr D R, FnOk Try.prog cx 23 e → FnOk Try.prog cx 23 (f23_d (rec_f23 (R := R) k) e))
  | 0 => fun e he => he.door0 fun x y _K => rfl
  | k + 1 => by
    rw [rec_f23_succ]
    exact fun e he => he.door fun _x _y => body_ok (keep := kp) (ann := f23_ann) (lrc := f23_r (R := R) (fun _ => (rec_f23 (R := R) k)) k) (N := 69) (n0 := 0) (c := []) cxOk mixed (f23_o_ok (fun _ => (rec_f23 (R := R) k)) (fun _ e he => (rec_f23_ok (R := R) k) e he) k) (body := f23_b) (by kernel_rfl : Try.prog.funcs[23]? = some Try.f23) (by kernel_rfl) (by kernel_rfl) (by kernel_rfl) (by kernel_rfl) (of_decide_eq_true (by kernel_rfl)) (L := [f23_l4_b]) (by kernel_rfl) (⟨(f23_l4_d_ok (fun _ => (rec_f23 (R := R) k)) (fun _ e he => (rec_f23_ok (R := R) k) e he) k).use (by kernel_rfl), trivial⟩) (J := []) (by kernel_rfl) trivial ((LrcNat.add (f23_l4_d_ok (fun _ => (rec_f23 (R := R) k)) (fun _ e he => (rec_f23_ok (R := R) k) e he) k).2 LrcNat.no)) (fun _K => by delta f23_s f23_o; generalize @f17 R = a0; revert a0; refine id ?_; intros; kernel_rfl)
noncomputable def f23 {R : Type} (k : Nat) (a0 a1 : List D2) (K : Bool → Option R) : Option R := (rec_f23 (R := R) k) a0 a1 K
theorem f23_ok {R : Type} (k : Nat) {e : Dr D R} (he : FnOk Try.prog cx 23 e) : FnOk Try.prog cx 23 (f23_d (f23 k) e) := (rec_f23_ok (R := R) k) e he
theorem f23_step {R : Type} (k : Nat) (a0 a1 : List D2) (K : Bool → Option R) : f23 (k + 1) a0 a1 K = f23_s (fun _ => f23 (R := R) k) k a0 a1 K := rfl

abbrev f24_T (R : Type) : Type := List D1 → List D1 → (Bool → Option R) → Option R
/-! ## 24: diorama/dioramalaw04.eqPlaces -/
noncomputable def f24_l4 {R : Type} : Nat → List D1 → List D1 → Int → Option R → (Bool → Option R) → Option R
  | 0, _, _, _, _, _ => none
  | k + 1, v1, v2, v3, X0, X1 =>
  bif decide (v3 < (v1.length : Int)) then
   bif inb v3 v1.length then
    bif inb v3 v2.length then
     bif (!((((v1.getD v3.toNat zero1).1) == ((v2.getD v3.toNat zero1).1)) && ((((v1.getD v3.toNat zero1).2.1) == ((v2.getD v3.toNat zero1).2.1)) && ((((v1.getD v3.toNat zero1).2.2.1) == ((v2.getD v3.toNat zero1).2.2.1)) && ((((v1.getD v3.toNat zero1).2.2.2.1) == ((v2.getD v3.toNat zero1).2.2.2.1)) && ((((v1.getD v3.toNat zero1).2.2.2.2.1) == ((v2.getD v3.toNat zero1).2.2.2.2.1)) && ((((v1.getD v3.toNat zero1).2.2.2.2.2) == ((v2.getD v3.toNat zero1).2.2.2.2.2)) && true))))))) then
      X1 false
     else
      f24_l4 k v1 v2 (IntKind.i64.wrap (v3 + 1)) X0 X1
    else
     none
   else
    none
  else
   X0
noncomputable def f24 {R : Type} (k : Nat) (a0 a1 : List D1) (K : Bool → Option R) : Option R :=
 bif ((a0.length : Int) != (a1.length : Int)) then
  K false
 else
  f24_l4 k a0 a1 0 (
   K true) K
noncomputable def f24_d {R : Type} (g : f24_T R) (e : Dr D R) : Dr D R := door [.list (.named 1), .list (.named 1)] [] (fun (x : (List D1 × List D1 × Unit)) (y : (Unit)) K => g x.1 x.2.1 (fun z0 => K ⟨.bool z0, []⟩)) e
noncomputable def f24_o {R : Type} (_k : Nat) : Orc D R := noOrc
theorem f24_o_ok {R : Type} (k : Nat) : OrcOk Try.prog cx (f24_o (R := R) k) := OrcOk.no
noncomputable def f24_b : Code := bodyOf Try.f24
noncomputable def f24_l4_a : LAnn := ⟨⟨[], [0, 1, 5], []⟩, exOf (some ⟨[], [4], []⟩) [(0, ⟨[], [], []⟩)]⟩
noncomputable def f24_ann : Nat → Option LAnn := fun key => bif Nat.beq key 4 then some f24_l4_a else none
noncomputable def f24_l4_b : Code := loopAt f24_b 0
noncomputable def f24_l4_g {R : Type} (k : Nat) (x : (List D1 × List D1 × Int × Unit)) (_y : (Unit)) (K : KX R) : Option R := f24_l4 k x.1 x.2.1 x.2.2.1 (K (.exit 0) [] []) (fun z0 => K (.ret) [.bool z0] [])
noncomputable def f24_l4_d {R : Type} (k : Nat) : Lr D R := ldoor [.list (.named 1), .list (.named 1), .int .i64] [] (f24_l4_g k)
noncomputable def f24_l4_r {R : Type} (_k : Nat) : Lrc D R := noLrc
theorem f24_l4_d_ok {R : Type} : ∀ k, LoopOk Try.prog cx 26 0 f24_ann (f24_l4_d (R := R) k) f24_l4_b :=
  loop_ok (keep := kp) (lrc := f24_l4_r (R := R)) cxOk mixed (f24_o_ok) (show f24_ann (Am.keyOf f24_l4_b) = some f24_l4_a by kernel_rfl) (L := []) (by kernel_rfl) (fun _k => trivial) (J := []) (by kernel_rfl) (fun _k => trivial) (fun _k => LrcNat.no) (fun _x _y _K => by kernel_rfl) (fun _k _x _y _K => by kernel_rfl)
noncomputable def f24_r {R : Type} (k : Nat) : Lrc D R := (lrcAdd 4 (f24_l4_d k) noLrc)
theorem f24_ok {R : Type} (k : Nat) {e : Dr D R} (he : FnOk Try.prog cx 24 e) : FnOk Try.prog cx 24 (f24_d (f24 k) e) :=
  he.door fun _x _y => body_ok (keep := kp) (ann := f24_ann) (lrc := f24_r (R := R) k) (N := 26) (n0 := 0) (c := []) cxOk mixed (f24_o_ok k) (body := f24_b) (by kernel_rfl : Try.prog.funcs[24]? = some Try.f24) (by kernel_rfl) (by kernel_rfl) (by kernel_rfl) (by kernel_rfl) (of_decide_eq_true (by kernel_rfl)) (L := [f24_l4_b]) (by kernel_rfl) (⟨(f24_l4_d_ok k).use (by kernel_rfl), trivial⟩) (J := []) (by kernel_rfl) trivial ((LrcNat.add (f24_l4_d_ok k).2 LrcNat.no)) (fun _K => by kernel_rfl)

abbrev f4_T (R : Type) : Type := List Int → (Bool → Option R) → Option R
/-! ## 4: diorama/dioramalaw04.ElementParses -/
noncomputable def f4 {R : Type} (k : Nat) (a0 : List Int) (K : Bool → Option R) : Option R :=
 f19 k a0 (fun v1 v2 v3 =>
  f20 k a0 (fun v4 v5 v6 =>
   f21 k a0 (fun v7 v8 v9 =>
    f22 k a0 (fun v10 v11 v12 =>
     f23 k v3 v6 (fun v13 =>
      bif v13 then
      bif (v1 == v4) then
      bif (v2 == v5) then
      f24 k v9 v12 (fun v14 =>
      bif v14 then
      bif (v7 == v10) then
      bif (v8 == v11) then
      f18 k K
      else
      K false
      else
      K false
      else
      K false)
      else
      K false
      else
      K false
      else
      K false)))))
noncomputable def f4_d {R : Type} (g : f4_T R) (e : Dr D R) : Dr D R := door [.list (.int .u8)] [] (fun (x : (List Int × Unit)) (y : (Unit)) K => g x.1 (fun z0 => K ⟨.bool z0, []⟩)) e
noncomputable def f4_o {R : Type} (k : Nat) : Orc D R := (orcAdd 24 (f24_d (f24 k) noDr) (orcAdd 23 (f23_d (f23 k) noDr) (orcAdd 22 (f22_d (f22 k) noDr) (orcAdd 21 (f21_d (f21 k) noDr) (orcAdd 20 (f20_d (f20 k) noDr) (orcAdd 18 (f18_d (f18 k) noDr) (orcAdd 19 (f19_d (f19 k) noDr) noOrc)))))))
theorem f4_o_ok {R : Type} (k : Nat) : OrcOk Try.prog cx (f4_o (R := R) k) := (OrcOk.add (f24_ok k FnOk.no) (OrcOk.add (f23_ok k FnOk.no) (OrcOk.add (f22_ok k FnOk.no) (OrcOk.add (f21_ok k FnOk.no) (OrcOk.add (f20_ok k FnOk.no) (OrcOk.add (f18_ok k FnOk.no) (OrcOk.add (f19_ok k FnOk.no) OrcOk.no)))))))
noncomputable def f4_b : Code := bodyOf Try.f4
noncomputable def f4_ann : Nat → Option LAnn := fun _key => none
noncomputable def f4_r {R : Type} (_k : Nat) : Lrc D R := noLrc
theorem f4_ok {R : Type} (k : Nat) {e : Dr D R} (he : FnOk Try.prog cx 4 e) : FnOk Try.prog cx 4 (f4_d (f4 k) e) :=
  he.door fun _x _y => body_ok (keep := kp) (ann := f4_ann) (lrc := f4_r (R := R) k) (N := 70) (n0 := 0) (c := []) cxOk mixed (f4_o_ok k) (body := f4_b) (by kernel_rfl : Try.prog.funcs[4]? = some Try.f4) (by kernel_rfl) (by kernel_rfl) (by kernel_rfl) (by kernel_rfl) (of_decide_eq_true (by kernel_rfl)) (L := []) (by kernel_rfl) trivial (J := []) (by kernel_rfl) trivial (LrcNat.no) (fun _K => by delta f4 f4_o; generalize @f19 R = a0; generalize @f18 R = a1; generalize @f20 R = a2; generalize @f21 R = a3; generalize @f22 R = a4; generalize @f23 R = a5; generalize @f24 R = a6; revert a0 a1 a2 a3 a4 a5 a6; refine id ?_; intros; kernel_rfl)

abbrev f61_T (R : Type) : Type := Int → Int → (Int → List Int → Option R) → Option R
/-! ## 61: diorama/bits.PutInt -/
noncomputable def f61 {R : Type} (k : Nat) (a0 a1 : Int) (K : Int → List Int → Option R) : Option R :=
 bif decide (a1 < 1) then
  K 1 ([] : List Int)
 else
  bif decide (a1 > 8) then
   K 1 ([] : List Int)
  else
   bif decide (a0 < 0) then
    K 1 ([] : List Int)
   else
    bif decide (a1 < 8) then
     bif decide ((IntKind.i64.wrap (8 * a1)) < 0) then
      none
     else
      bif decide ((shrI .i64 a0 (IntKind.i64.wrap (8 * a1))) > 0) then
      K 1 ([] : List Int)
      else
      f91 k (IntKind.u64.wrap (a0)) a1 (fun v1 =>
      K 0 v1)
    else
     f91 k (IntKind.u64.wrap (a0)) a1 (fun v2 =>
      K 0 v2)
noncomputable def f61_d {R : Type} (g : f61_T R) (e : Dr D R) : Dr D R := door [.int .i64, .int .i64] [] (fun (x : (Int × Int × Unit)) (y : (Unit)) K => g x.1 x.2.1 (fun z0 z1 => K ⟨.tup [.own 0, .int .i64 z0], [some (.row (.int .u8) z1 true)]⟩)) e
noncomputable def f61_o {R : Type} (k : Nat) : Orc D R := (orcAdd 91 (f91_d (f91 k) noDr) noOrc)
theorem f61_o_ok {R : Type} (k : Nat) : OrcOk Try.prog cx (f61_o (R := R) k) := (OrcOk.add (f91_ok k FnOk.no) OrcOk.no)
noncomputable def f61_b : Code := bodyOf Try.f61
noncomputable def f61_ann : Nat → Option LAnn := fun _key => none
noncomputable def f61_r {R : Type} (_k : Nat) : Lrc D R := noLrc
theorem f61_ok {R : Type} (k : Nat) {e : Dr D R} (he : FnOk Try.prog cx 61 e) : FnOk Try.prog cx 61 (f61_d (f61 k) e) :=
  he.door fun _x _y => body_ok (keep := kp) (ann := f61_ann) (lrc := f61_r (R := R) k) (N := 31) (n0 := 0) (c := [(.tmp 4, .own 1099511627776 (.int .u8))]) cxOk mixed (f61_o_ok k) (body := f61_b) (by kernel_rfl : Try.prog.funcs[61]? = some Try.f61) (by kernel_rfl) (by kernel_rfl) (by kernel_rfl) (by kernel_rfl) (of_decide_eq_true (by kernel_rfl)) (L := []) (by kernel_rfl) trivial (J := []) (by kernel_rfl) trivial (LrcNat.no) (fun _K => by delta f61 f61_o; generalize @f91 R = a0; revert a0; refine id ?_; intros; kernel_rfl)

abbrev f27_T (R : Type) : Type := Int → (Int → List Int → Option R) → Option R
/-! ## 27: diorama/element.PutId -/
noncomputable def f27_l2 {R : Type} : Nat → Int → Int → Option R → (Int → List Int → Option R) → Option R
  | 0, _, _, _, _ => none
  | k + 1, v1, v2, X0, X1 =>
  bif decide (v2 ≤ 4) then
   bif decide ((IntKind.i64.wrap (7 * v2)) < 0) then
    none
   else
    bif ((shrI .i64 v1 (IntKind.i64.wrap (7 * v2))) == 1) then
     f60 k v1 v2 (fun v3 =>
      bif v3 then
      f61 k v1 v2 X1
      else
      f27_l2 k v1 (IntKind.i64.wrap (v2 + 1)) X0 X1)
    else
     f27_l2 k v1 (IntKind.i64.wrap (v2 + 1)) X0 X1
  else
   X0
noncomputable def f27 {R : Type} (k : Nat) (a0 : Int) (K : Int → List Int → Option R) : Option R :=
 f27_l2 k a0 1 (
  K 40 ([] : List Int)) K
noncomputable def f27_d {R : Type} (g : f27_T R) (e : Dr D R) : Dr D R := door [.int .i64] [] (fun (x : (Int × Unit)) (y : (Unit)) K => g x.1 (fun z0 z1 => K ⟨.tup [.own 0, .int .i64 z0], [some (.row (.int .u8) z1 true)]⟩)) e
noncomputable def f27_o {R : Type} (k : Nat) : Orc D R := (orcAdd 61 (f61_d (f61 k) noDr) (orcAdd 60 (f60_d (f60 k) noDr) noOrc))
theorem f27_o_ok {R : Type} (k : Nat) : OrcOk Try.prog cx (f27_o (R := R) k) := (OrcOk.add (f61_ok k FnOk.no) (OrcOk.add (f60_ok k FnOk.no) OrcOk.no))
noncomputable def f27_b : Code := bodyOf Try.f27
noncomputable def f27_l2_a : LAnn := ⟨⟨[], [0, 4], []⟩, exOf (some ⟨[], [2, 3], [393568]⟩) [(0, ⟨[], [], []⟩)]⟩
noncomputable def f27_ann : Nat → Option LAnn := fun key => bif Nat.beq key 2 then some f27_l2_a else none
noncomputable def f27_l2_b : Code := loopAt f27_b 0
noncomputable def f27_l2_g {R : Type} (k : Nat) (x : (Int × Int × Unit)) (_y : (Unit)) (K : KX R) : Option R := f27_l2 k x.1 x.2.1 (K (.exit 0) [] []) (fun z0 z1 => K (.ret) [.own 393568, .int .i64 z0] [some (.row (.int .u8) z1 true)])
noncomputable def f27_l2_d {R : Type} (k : Nat) : Lr D R := ldoor [.int .i64, .int .i64] [] (f27_l2_g k)
noncomputable def f27_l2_r {R : Type} (_k : Nat) : Lrc D R := noLrc
theorem f27_l2_d_ok {R : Type} : ∀ k, LoopOk Try.prog cx 24 0 f27_ann (f27_l2_d (R := R) k) f27_l2_b :=
  loop_ok (keep := kp) (lrc := f27_l2_r (R := R)) cxOk mixed (f27_o_ok) (show f27_ann (Am.keyOf f27_l2_b) = some f27_l2_a by kernel_rfl) (L := []) (by kernel_rfl) (fun _k => trivial) (J := []) (by kernel_rfl) (fun _k => trivial) (fun _k => LrcNat.no) (fun _x _y _K => by kernel_rfl) (fun _k _x _y _K => by kernel_rfl)
noncomputable def f27_r {R : Type} (k : Nat) : Lrc D R := (lrcAdd 2 (f27_l2_d k) noLrc)
theorem f27_ok {R : Type} (k : Nat) {e : Dr D R} (he : FnOk Try.prog cx 27 e) : FnOk Try.prog cx 27 (f27_d (f27 k) e) :=
  he.door fun _x _y => body_ok (keep := kp) (ann := f27_ann) (lrc := f27_r (R := R) k) (N := 24) (n0 := 0) (c := [(.tmp 2, .own 1099511627776 (.int .u8))]) cxOk mixed (f27_o_ok k) (body := f27_b) (by kernel_rfl : Try.prog.funcs[27]? = some Try.f27) (by kernel_rfl) (by kernel_rfl) (by kernel_rfl) (by kernel_rfl) (of_decide_eq_true (by kernel_rfl)) (L := [f27_l2_b]) (by kernel_rfl) (⟨(f27_l2_d_ok k).use (by kernel_rfl), trivial⟩) (J := []) (by kernel_rfl) trivial ((LrcNat.add (f27_l2_d_ok k).2 LrcNat.no)) (fun _K => by delta f27 f27_o; generalize @f60 R = a0; generalize @f61 R = a1; revert a0 a1; refine id ?_; intros; kernel_rfl)

abbrev f28_T (R : Type) : Type := Int → (Int → List Int → Option R) → Option R
/-! ## 28: diorama/dioramaref04.PutId -/
noncomputable def f28_l7 {R : Type} : Nat → Int → Int → List Int → (List Int → Option R) → Option R
  | 0, _, _, _, _ => none
  | k + 1, v4, v5, v6, X0 =>
  bif decide (v5 ≥ 0) then
   bif inb v5 v6.length then
    f28_l7 k (IntKind.i64.wrap (v4.tdiv 256)) (IntKind.i64.wrap (v5 - 1)) (v6.set v5.toNat (IntKind.u8.wrap ((v4.tmod 256)))) X0
   else
    none
  else
   X0 v6
noncomputable def f28_l2 {R : Type} : Nat → Int → Int → Option R → (Int → List Int → Option R) → Option R
  | 0, _, _, _, _ => none
  | k + 1, v1, v2, X0, X1 =>
  bif decide (v2 ≤ 4) then
   f62 k v1 v2 (fun v3 =>
    bif (!v3) then
     f28_l2 k v1 (IntKind.i64.wrap (v2 + 1)) X0 X1
    else
     bif (decide ((0 : Int) ≤ v2)) && (decide (v2 ≤ v2)) && (decide (v2 * ((1 : Nat) : Int) ≤ 140737488355328)) then
      f28_l7 k v1 (IntKind.i64.wrap (v2 - 1)) (List.replicate v2.toNat (0 : Int)) (fun v7 =>
      X1 0 v7)
     else
      none)
  else
   X0
noncomputable def f28 {R : Type} (k : Nat) (a0 : Int) (K : Int → List Int → Option R) : Option R :=
 f28_l2 k a0 1 (
  K 40 ([] : List Int)) K
noncomputable def f28_d {R : Type} (g : f28_T R) (e : Dr D R) : Dr D R := door [.int .i64] [] (fun (x : (Int × Unit)) (y : (Unit)) K => g x.1 (fun z0 z1 => K ⟨.tup [.own 0, .int .i64 z0], [some (.row (.int .u8) z1 true)]⟩)) e
noncomputable def f28_o {R : Type} (k : Nat) : Orc D R := (orcAdd 62 (f62_d (f62 k) noDr) noOrc)
theorem f28_o_ok {R : Type} (k : Nat) : OrcOk Try.prog cx (f28_o (R := R) k) := (OrcOk.add (f62_ok k FnOk.no) OrcOk.no)
noncomputable def f28_b : Code := bodyOf Try.f28
noncomputable def f28_l7_a : LAnn := ⟨⟨[], [0, 5, 6], [393488]⟩, exOf (none) [(2, ⟨[], [5], [393488]⟩)]⟩
noncomputable def f28_l2_a : LAnn := ⟨⟨[], [0, 4], []⟩, exOf (some ⟨[], [2, 3], [393488]⟩) [(0, ⟨[], [], []⟩)]⟩
noncomputable def f28_ann : Nat → Option LAnn := fun key => bif Nat.beq key 2 then some f28_l2_a else bif Nat.beq key 7 then some f28_l7_a else none
noncomputable def f28_l7_b : Code := loopAt f28_b 1
noncomputable def f28_l7_g {R : Type} (k : Nat) (x : (Int × Unit × Int × Unit)) (y : (List Int × Unit)) (K : KX R) : Option R := f28_l7 k x.1 x.2.2.1 y.1 (fun z0 => K (.exit 2) [.own 393488] [some (.row (.int .u8) z0 true)])
noncomputable def f28_l7_d {R : Type} (k : Nat) : Lr D R := ldoor [.int .i64, .own 393488, .int .i64] [some (.row (.int .u8) true)] (f28_l7_g k)
noncomputable def f28_l7_r {R : Type} (_k : Nat) : Lrc D R := noLrc
theorem f28_l7_d_ok {R : Type} : ∀ k, LoopOk Try.prog cx 32 0 f28_ann (f28_l7_d (R := R) k) f28_l7_b :=
  loop_ok (keep := kp) (lrc := f28_l7_r (R := R)) cxOk mixed (f28_o_ok) (show f28_ann (Am.keyOf f28_l7_b) = some f28_l7_a by kernel_rfl) (L := []) (by kernel_rfl) (fun _k => trivial) (J := []) (by kernel_rfl) (fun _k => trivial) (fun _k => LrcNat.no) (fun _x _y _K => by kernel_rfl) (fun _k _x _y _K => by kernel_rfl)
noncomputable def f28_l2_b : Code := loopAt f28_b 0
noncomputable def f28_l2_g {R : Type} (k : Nat) (x : (Int × Int × Unit)) (_y : (Unit)) (K : KX R) : Option R := f28_l2 k x.1 x.2.1 (K (.exit 0) [] []) (fun z0 z1 => K (.ret) [.own 393488, .int .i64 z0] [some (.row (.int .u8) z1 true)])
noncomputable def f28_l2_d {R : Type} (k : Nat) : Lr D R := ldoor [.int .i64, .int .i64] [] (f28_l2_g k)
noncomputable def f28_l2_r {R : Type} (k : Nat) : Lrc D R := (lrcAdd 7 (f28_l7_d k) noLrc)
theorem f28_l2_d_ok {R : Type} : ∀ k, LoopOk Try.prog cx 32 0 f28_ann (f28_l2_d (R := R) k) f28_l2_b :=
  loop_ok (keep := kp) (lrc := f28_l2_r (R := R)) cxOk mixed (f28_o_ok) (show f28_ann (Am.keyOf f28_l2_b) = some f28_l2_a by kernel_rfl) (L := [f28_l7_b]) (by kernel_rfl) (fun k => ⟨(f28_l7_d_ok k).use (by kernel_rfl), trivial⟩) (J := []) (by kernel_rfl) (fun _k => trivial) (fun k => (LrcNat.add (f28_l7_d_ok k).2 LrcNat.no)) (fun _x _y _K => by kernel_rfl) (fun _k _x _y _K => by kernel_rfl)
noncomputable def f28_r {R : Type} (k : Nat) : Lrc D R := (lrcAdd 7 (f28_l7_d k) (lrcAdd 2 (f28_l2_d k) noLrc))
theorem f28_ok {R : Type} (k : Nat) {e : Dr D R} (he : FnOk Try.prog cx 28 e) : FnOk Try.prog cx 28 (f28_d (f28 k) e) :=
  he.door fun _x _y => body_ok (keep := kp) (ann := f28_ann) (lrc := f28_r (R := R) k) (N := 32) (n0 := 0) (c := [(.tmp 2, .own 1099511627776 (.int .u8))]) cxOk mixed (f28_o_ok k) (body := f28_b) (by kernel_rfl : Try.prog.funcs[28]? = some Try.f28) (by kernel_rfl) (by kernel_rfl) (by kernel_rfl) (by kernel_rfl) (of_decide_eq_true (by kernel_rfl)) (L := [f28_l2_b, f28_l7_b]) (by kernel_rfl) (⟨(f28_l2_d_ok k).use (by kernel_rfl), (f28_l7_d_ok k).use (by kernel_rfl), trivial⟩) (J := []) (by kernel_rfl) trivial ((LrcNat.add (f28_l7_d_ok k).2 (LrcNat.add (f28_l2_d_ok k).2 LrcNat.no))) (fun _K => by delta f28 f28_o; generalize @f62 R = a0; revert a0; refine id ?_; intros; kernel_rfl)

abbrev f6_T (R : Type) : Type := Int → (Bool → Option R) → Option R
/-! ## 6: diorama/dioramalaw04.ElementKnows -/
noncomputable def f6 {R : Type} (k : Nat) (a0 : Int) (K : Bool → Option R) : Option R :=
 f25 k a0 (fun v1 v2 v3 v4 v5 v6 =>
  f26 k a0 (fun v7 v8 v9 v10 v11 v12 =>
   f27 k a0 (fun v13 v14 =>
    f28 k a0 (fun v15 v16 =>
     bif ((v1 == v7) && ((v2 == v8) && ((v3 == v9) && ((v4 == v10) && ((v5 == v11) && true))))) then
      bif (v6 == v12) then
      f17 k v14 v16 (fun v17 =>
      bif v17 then
      bif (v13 == v15) then
      f18 k K
      else
      K false
      else
      K false)
      else
      K false
     else
      K false))))
noncomputable def f6_d {R : Type} (g : f6_T R) (e : Dr D R) : Dr D R := door [.int .i64] [] (fun (x : (Int × Unit)) (y : (Unit)) K => g x.1 (fun z0 => K ⟨.bool z0, []⟩)) e
noncomputable def f6_o {R : Type} (k : Nat) : Orc D R := (orcAdd 28 (f28_d (f28 k) noDr) (orcAdd 27 (f27_d (f27 k) noDr) (orcAdd 26 (f26_d (f26 k) noDr) (orcAdd 18 (f18_d (f18 k) noDr) (orcAdd 25 (f25_d (f25 k) noDr) (orcAdd 17 (f17_d (f17 k) noDr) noOrc))))))
theorem f6_o_ok {R : Type} (k : Nat) : OrcOk Try.prog cx (f6_o (R := R) k) := (OrcOk.add (f28_ok k FnOk.no) (OrcOk.add (f27_ok k FnOk.no) (OrcOk.add (f26_ok k FnOk.no) (OrcOk.add (f18_ok k FnOk.no) (OrcOk.add (f25_ok k FnOk.no) (OrcOk.add (f17_ok k FnOk.no) OrcOk.no))))))
noncomputable def f6_b : Code := bodyOf Try.f6
noncomputable def f6_ann : Nat → Option LAnn := fun _key => none
noncomputable def f6_r {R : Type} (_k : Nat) : Lrc D R := noLrc
theorem f6_ok {R : Type} (k : Nat) {e : Dr D R} (he : FnOk Try.prog cx 6 e) : FnOk Try.prog cx 6 (f6_d (f6 k) e) :=
  he.door fun _x _y => body_ok (keep := kp) (ann := f6_ann) (lrc := f6_r (R := R) k) (N := 52) (n0 := 0) (c := []) cxOk mixed (f6_o_ok k) (body := f6_b) (by kernel_rfl : Try.prog.funcs[6]? = some Try.f6) (by kernel_rfl) (by kernel_rfl) (by kernel_rfl) (by kernel_rfl) (of_decide_eq_true (by kernel_rfl)) (L := []) (by kernel_rfl) trivial (J := []) (by kernel_rfl) trivial (LrcNat.no) (fun _K => by delta f6 f6_o; generalize @f17 R = a0; generalize @f25 R = a1; generalize @f18 R = a2; generalize @f26 R = a3; generalize @f27 R = a4; generalize @f28 R = a5; revert a0 a1 a2 a3 a4 a5; refine id ?_; intros; kernel_rfl)

abbrev f29_T (R : Type) : Type := List Int → Int → (Int → Int → Int → Option R) → Option R
/-! ## 29: diorama/element.Id -/
noncomputable def f29 {R : Type} (k : Nat) (a0 : List Int) (a1 : Int) (K : Int → Int → Int → Option R) : Option R :=
 bif decide (a1 < 0) then
  K 0 0 1
 else
  bif decide (a1 ≥ (a0.length : Int)) then
   K 0 0 3
  else
   bif inb a1 a0.length then
    f63 k (a0.getD a1.toNat 0) (fun v1 =>
     bif (v1 == 0) then
      K 0 0 40
     else
      f64 k a0 a1 v1 (fun v2 v3 =>
      bif (v3 != 0) then
      K 0 0 3
      else
      f60 k v2 v1 (fun v4 =>
      bif (!v4) then
      K 0 0 40
      else
      K v2 v1 0)))
   else
    none
noncomputable def f29_d {R : Type} (g : f29_T R) (e : Dr D R) : Dr D R := door [.list (.int .u8), .int .i64] [] (fun (x : (List Int × Int × Unit)) (y : (Unit)) K => g x.1 x.2.1 (fun z0 z1 z2 => K ⟨.tup [.int .i64 z0, .int .i64 z1, .int .i64 z2], []⟩)) e
noncomputable def f29_o {R : Type} (k : Nat) : Orc D R := (orcAdd 60 (f60_d (f60 k) noDr) (orcAdd 64 (f64_d (f64 k) noDr) (orcAdd 63 (f63_d (f63 k) noDr) noOrc)))
theorem f29_o_ok {R : Type} (k : Nat) : OrcOk Try.prog cx (f29_o (R := R) k) := (OrcOk.add (f60_ok k FnOk.no) (OrcOk.add (f64_ok k FnOk.no) (OrcOk.add (f63_ok k FnOk.no) OrcOk.no)))
noncomputable def f29_b : Code := bodyOf Try.f29
noncomputable def f29_ann : Nat → Option LAnn := fun _key => none
noncomputable def f29_r {R : Type} (_k : Nat) : Lrc D R := noLrc
theorem f29_ok {R : Type} (k : Nat) {e : Dr D R} (he : FnOk Try.prog cx 29 e) : FnOk Try.prog cx 29 (f29_d (f29 k) e) :=
  he.door fun _x _y => body_ok (keep := kp) (ann := f29_ann) (lrc := f29_r (R := R) k) (N := 38) (n0 := 0) (c := []) cxOk mixed (f29_o_ok k) (body := f29_b) (by kernel_rfl : Try.prog.funcs[29]? = some Try.f29) (by kernel_rfl) (by kernel_rfl) (by kernel_rfl) (by kernel_rfl) (of_decide_eq_true (by kernel_rfl)) (L := []) (by kernel_rfl) trivial (J := []) (by kernel_rfl) trivial (LrcNat.no) (fun _K => by delta f29 f29_o; generalize @f63 R = a0; generalize @f64 R = a1; generalize @f60 R = a2; revert a0 a1 a2; refine id ?_; intros; kernel_rfl)

abbrev f7_T (R : Type) : Type := List Int → Int → (Bool → Option R) → Option R
/-! ## 7: diorama/dioramalaw04.ElementIds -/
noncomputable def f7 {R : Type} (k : Nat) (a0 : List Int) (a1 : Int) (K : Bool → Option R) : Option R :=
 f29 k a0 a1 (fun v1 v2 v3 =>
  f30 k a0 a1 (fun v4 v5 v6 =>
   bif (v1 == v4) then
    bif (v2 == v5) then
     bif (v3 == v6) then
      f18 k K
     else
      K false
    else
     K false
   else
    K false))
noncomputable def f7_d {R : Type} (g : f7_T R) (e : Dr D R) : Dr D R := door [.list (.int .u8), .int .i64] [] (fun (x : (List Int × Int × Unit)) (y : (Unit)) K => g x.1 x.2.1 (fun z0 => K ⟨.bool z0, []⟩)) e
noncomputable def f7_o {R : Type} (k : Nat) : Orc D R := (orcAdd 29 (f29_d (f29 k) noDr) (orcAdd 30 (f30_d (f30 k) noDr) (orcAdd 18 (f18_d (f18 k) noDr) noOrc)))
theorem f7_o_ok {R : Type} (k : Nat) : OrcOk Try.prog cx (f7_o (R := R) k) := (OrcOk.add (f29_ok k FnOk.no) (OrcOk.add (f30_ok k FnOk.no) (OrcOk.add (f18_ok k FnOk.no) OrcOk.no)))
noncomputable def f7_b : Code := bodyOf Try.f7
noncomputable def f7_ann : Nat → Option LAnn := fun _key => none
noncomputable def f7_r {R : Type} (_k : Nat) : Lrc D R := noLrc
theorem f7_ok {R : Type} (k : Nat) {e : Dr D R} (he : FnOk Try.prog cx 7 e) : FnOk Try.prog cx 7 (f7_d (f7 k) e) :=
  he.door fun _x _y => body_ok (keep := kp) (ann := f7_ann) (lrc := f7_r (R := R) k) (N := 41) (n0 := 0) (c := []) cxOk mixed (f7_o_ok k) (body := f7_b) (by kernel_rfl : Try.prog.funcs[7]? = some Try.f7) (by kernel_rfl) (by kernel_rfl) (by kernel_rfl) (by kernel_rfl) (of_decide_eq_true (by kernel_rfl)) (L := []) (by kernel_rfl) trivial (J := []) (by kernel_rfl) trivial (LrcNat.no) (fun _K => by delta f7 f7_o; generalize @f18 R = a0; generalize @f30 R = a1; generalize @f29 R = a2; revert a0 a1 a2; refine id ?_; intros; kernel_rfl)


end Go.Proofs.Ytklhjegfkpmdoaa
