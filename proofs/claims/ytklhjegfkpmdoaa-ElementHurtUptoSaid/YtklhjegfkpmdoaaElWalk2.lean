/- Proved: each of these functions does what a plain function says. Conditions: none. -/
import Derived.Test.YtklhjegfkpmdoaaElWalk1

/-! What the functions do, as plain functions; and that they do. -/
namespace Go.Proofs.Ytklhjegfkpmdoaa
open Go Go.Am
abbrev f94_T (R : Type) : Type := List Int → (Int → Option R) → Option R
/-! ## 94: diorama/dioramaref01.Sum -/
noncomputable def f94_l7 {R : Type} : Nat → List Int → Int → Int → Int → (List Int → Int → Int → Option R) → Option R
  | 0, _, _, _, _, _ => none
  | k + 1, v4, v5, v6, v7, X0 =>
  bif decide (v7 < 8) then
   bif ((andI .u32 v5 1) == 1) then
    f94_l7 k v4 (xorI .u32 (shrI .u32 v5 1) 3558460437) v6 (IntKind.i64.wrap (v7 + 1)) X0
   else
    f94_l7 k v4 (shrI .u32 v5 1) v6 (IntKind.i64.wrap (v7 + 1)) X0
  else
   X0 v4 v5 v6
noncomputable def f94_l3 {R : Type} : Nat → List Int → Int → Int → (Int → Option R) → Option R
  | 0, _, _, _, _ => none
  | k + 1, v1, v2, v3, X0 =>
  bif decide (v3 < (v1.length : Int)) then
   bif inb v3 v1.length then
    f94_l7 k v1 (xorI .u32 v2 (IntKind.u32.wrap ((v1.getD v3.toNat 0)))) v3 0 (fun v8 v9 v10 =>
     f94_l3 k v8 v9 (IntKind.i64.wrap (v10 + 1)) X0)
   else
    none
  else
   X0 v2
noncomputable def f94 {R : Type} (k : Nat) (a0 : List Int) (K : Int → Option R) : Option R :=
 f94_l3 k a0 4294967295 0 (fun v11 =>
  K (xorI .u32 v11 4294967295))
noncomputable def f94_d {R : Type} (g : f94_T R) (e : Dr D R) : Dr D R := door [.list (.int .u8)] [] (fun (x : (List Int × Unit)) (y : (Unit)) K => g x.1 (fun z0 => K ⟨.int .u32 z0, []⟩)) e
noncomputable def f94_o {R : Type} (_k : Nat) : Orc D R := noOrc
theorem f94_o_ok {R : Type} (k : Nat) : OrcOk Try.prog cx (f94_o (R := R) k) := OrcOk.no
noncomputable def f94_b : Code := bodyOf Try.f94
noncomputable def f94_l7_a : LAnn := ⟨⟨[], [0, 3, 4, 5], [], []⟩, exOf (none) [(2, ⟨[], [0, 3, 4], [], []⟩)]⟩
noncomputable def f94_l3_a : LAnn := ⟨⟨[], [0, 3, 4], [], []⟩, exOf (none) [(0, ⟨[], [3], [], []⟩)]⟩
noncomputable def f94_ann : Nat → Option LAnn := fun key => bif Nat.beq key 3 then some f94_l3_a else bif Nat.beq key 7 then some f94_l7_a else none
noncomputable def f94_l7_b : Code := loopAt f94_b 1
noncomputable def f94_l7_g {R : Type} (k : Nat) (x : (List Int × Int × Int × Int × Unit)) (_y : (Unit)) (K : KX R) : Option R := f94_l7 k x.1 x.2.1 x.2.2.1 x.2.2.2.1 (fun z0 z1 z2 => K (.exit 2) [.list (.int .u8) z0, .int .u32 z1, .int .i64 z2] [])
noncomputable def f94_l7_d {R : Type} (k : Nat) : Lr D R := ldoor [.list (.int .u8), .int .u32, .int .i64, .int .i64] [] (f94_l7_g k)
noncomputable def f94_l7_r {R : Type} (_k : Nat) : Lrc D R := noLrc
theorem f94_l7_d_ok {R : Type} : ∀ k, LoopOk Try.prog cx 34 0 f94_ann (f94_l7_d (R := R) k) f94_l7_b :=
  loop_ok (keep := kp) (lrc := f94_l7_r (R := R)) cxOk mixed (f94_o_ok) (show f94_ann (Am.keyOf f94_l7_b) = some f94_l7_a by kernel_rfl) (L := []) (by kernel_rfl) (fun _k => trivial) (J := []) (by kernel_rfl) (fun _k => trivial) (fun _k => LrcNat.no) (fun _x _y _K => by kernel_rfl) (fun _k _x _y _K => by kernel_rfl)
noncomputable def f94_l3_b : Code := loopAt f94_b 0
noncomputable def f94_l3_g {R : Type} (k : Nat) (x : (List Int × Int × Int × Unit)) (_y : (Unit)) (K : KX R) : Option R := f94_l3 k x.1 x.2.1 x.2.2.1 (fun z0 => K (.exit 0) [.int .u32 z0] [])
noncomputable def f94_l3_d {R : Type} (k : Nat) : Lr D R := ldoor [.list (.int .u8), .int .u32, .int .i64] [] (f94_l3_g k)
noncomputable def f94_l3_r {R : Type} (k : Nat) : Lrc D R := (lrcAdd 7 (f94_l7_d k) noLrc)
theorem f94_l3_d_ok {R : Type} : ∀ k, LoopOk Try.prog cx 34 0 f94_ann (f94_l3_d (R := R) k) f94_l3_b :=
  loop_ok (keep := kp) (lrc := f94_l3_r (R := R)) cxOk mixed (f94_o_ok) (show f94_ann (Am.keyOf f94_l3_b) = some f94_l3_a by kernel_rfl) (L := [f94_l7_b]) (by kernel_rfl) (fun k => ⟨(f94_l7_d_ok k).use (by kernel_rfl), trivial⟩) (J := []) (by kernel_rfl) (fun _k => trivial) (fun k => (LrcNat.add (f94_l7_d_ok k).2 LrcNat.no)) (fun _x _y _K => by kernel_rfl) (fun _k _x _y _K => by kernel_rfl)
noncomputable def f94_r {R : Type} (k : Nat) : Lrc D R := (lrcAdd 7 (f94_l7_d k) (lrcAdd 3 (f94_l3_d k) noLrc))
theorem f94_ok {R : Type} (k : Nat) {e : Dr D R} (he : FnOk Try.prog cx 94 e) : FnOk Try.prog cx 94 (f94_d (f94 k) e) :=
  he.door fun _x _y => body_ok (keep := kp) (ann := f94_ann) (lrc := f94_r (R := R) k) (N := 34) (n0 := 0) (c := []) cxOk mixed (f94_o_ok k) (body := f94_b) (by kernel_rfl : Try.prog.funcs[94]? = some Try.f94) (by kernel_rfl) (by kernel_rfl) (by kernel_rfl) (by kernel_rfl) (of_decide_eq_true (by kernel_rfl)) (L := [f94_l3_b, f94_l7_b]) (by kernel_rfl) (⟨(f94_l3_d_ok k).use (by kernel_rfl), (f94_l7_d_ok k).use (by kernel_rfl), trivial⟩) (J := []) (by kernel_rfl) trivial ((LrcNat.add (f94_l7_d_ok k).2 (LrcNat.add (f94_l3_d_ok k).2 LrcNat.no))) (fun _K => by kernel_rfl)

abbrev f105_2_T (R : Type) : Type := Int → Int → List Int → Int → Int → Int → List D1 → (List Int → Int → Int → Int → List D1 → Option R) → Option R
/-! ## 105: (*diorama/dioramaref04.walker).fail -/
noncomputable def f105_2 {R : Type} (_k : Nat) (a0 a1 : Int) (a2 : List Int) (a3 a4 a5 : Int) (a6 : List D1) (K : List Int → Int → Int → Int → List D1 → Option R) : Option R :=
 bif (a4 == 0) then
  K a2 a3 a1 a0 a6
 else
  K a2 a3 a4 a5 a6
noncomputable def f105_2_d {R : Type} (g : f105_2_T R) (e : Dr D R) : Dr D R := door [.ptr 0 0, .int .i64, .int .i64] [.box [.list (.int .u8), .own 1, .int .i64, .int .i64, .int .i64], .row (.named 1) true] (fun (x : (Unit × Int × Int × Unit)) (y : ((List Int × Unit × Int × Int × Int × Unit) × List D1 × Unit)) K => g x.2.1 x.2.2.1 y.1.1 y.1.2.2.1 y.1.2.2.2.1 y.1.2.2.2.2.1 y.2.1 (fun z0 z1 z2 z3 z4 => K ⟨.tup [], [some (.box [.list (.int .u8) z0, .own 1, .int .i64 z1, .int .i64 z2, .int .i64 z3]), some (.row (.named 1) z4 true)]⟩)) e
noncomputable def f105_2_o {R : Type} (_k : Nat) : Orc D R := noOrc
theorem f105_2_o_ok {R : Type} (k : Nat) : OrcOk Try.prog cx (f105_2_o (R := R) k) := OrcOk.no
noncomputable def f105_2_b : Code := bodyOf Try.f105
noncomputable def f105_2_ann : Nat → Option LAnn := fun _key => none
noncomputable def f105_2_r {R : Type} (_k : Nat) : Lrc D R := noLrc
theorem f105_2_ok {R : Type} (k : Nat) {e : Dr D R} (he : FnOk Try.prog cx 105 e) : FnOk Try.prog cx 105 (f105_2_d (f105_2 k) e) :=
  he.door fun _x _y => body_ok (keep := kp) (ann := f105_2_ann) (lrc := f105_2_r (R := R) k) (N := 19) (n0 := 2) (c := []) cxOk mixed (f105_2_o_ok k) (body := f105_2_b) (by kernel_rfl : Try.prog.funcs[105]? = some Try.f105) (by kernel_rfl) (by kernel_rfl) (by kernel_rfl) (by kernel_rfl) (of_decide_eq_true (by kernel_rfl)) (L := []) (by kernel_rfl) trivial (J := []) (by kernel_rfl) trivial (LrcNat.no) (fun _K => by kernel_rfl)

abbrev f102_2_T (R : Type) : Type := Int → List Int → Int → Int → Int → List D1 → (Int → Int → Int → Bool → Bool → List Int → Int → Int → Int → List D1 → Option R) → Option R
/-! ## 102: (*diorama/dioramaref04.walker).head -/
noncomputable def f102_2 {R : Type} (k : Nat) (a0 : Int) (a1 : List Int) (a2 a3 a4 : Int) (a5 : List D1) (K : Int → Int → Int → Bool → Bool → List Int → Int → Int → Int → List D1 → Option R) : Option R :=
 bif inb a0 a1.length then
  f65 k (a1.getD a0.toNat 0) (fun v1 =>
   bif (v1 == 0) then
    f105_2 k a0 40 a1 a2 a3 a4 a5 (fun v2 v3 v4 v5 v6 =>
     K 0 0 0 false false v2 v3 v4 v5 v6)
   else
    bif decide (v1 ≥ (IntKind.i64.wrap ((a1.length : Int) - a0))) then
     f105_2 k a0 3 a1 a2 a3 a4 a5 (fun v7 v8 v9 v10 v11 =>
      K 0 0 0 false false v7 v8 v9 v10 v11)
    else
     f30 k a1 a0 (fun v12 _v13 v14 =>
      bif (v14 != 0) then
      f105_2 k a0 v14 a1 a2 a3 a4 a5 (fun v15 v16 v17 v18 v19 =>
      K 0 0 0 false false v15 v16 v17 v18 v19)
      else
      bif inb (IntKind.i64.wrap (a0 + v1)) a1.length then
      bif ((a1.getD ((IntKind.i64.wrap (a0 + v1)).toNat) 0) == 0) then
      f105_2 k a0 4 a1 a2 a3 a4 a5 (fun v20 v21 v22 v23 v24 =>
      K 0 0 0 false false v20 v21 v22 v23 v24)
      else
      f109 k a1 (IntKind.i64.wrap (a0 + v1)) (fun v25 v26 v27 v28 =>
      bif (v28 != 0) then
      f105_2 k a0 3 a1 a2 a3 a4 a5 (fun v29 v30 v31 v32 v33 =>
      K 0 0 0 false false v29 v30 v31 v32 v33)
      else
      K v12 (IntKind.i64.wrap (v1 + v26)) v25 v27 true a1 a2 a3 a4 a5)
      else
      none))
 else
  none
noncomputable def f102_2_d {R : Type} (g : f102_2_T R) (e : Dr D R) : Dr D R := door [.ptr 0 0, .int .i64] [.box [.list (.int .u8), .own 1, .int .i64, .int .i64, .int .i64], .row (.named 1) true] (fun (x : (Unit × Int × Unit)) (y : ((List Int × Unit × Int × Int × Int × Unit) × List D1 × Unit)) K => g x.2.1 y.1.1 y.1.2.2.1 y.1.2.2.2.1 y.1.2.2.2.2.1 y.2.1 (fun z0 z1 z2 z3 z4 z5 z6 z7 z8 z9 => K ⟨.tup [.agg [.int .i64 z0, .int .i64 z1, .int .i64 z2, .bool z3], .bool z4], [some (.box [.list (.int .u8) z5, .own 1, .int .i64 z6, .int .i64 z7, .int .i64 z8]), some (.row (.named 1) z9 true)]⟩)) e
noncomputable def f102_2_o {R : Type} (k : Nat) : Orc D R := (orcAdd 105 (f105_2_d (f105_2 k) noDr) (orcAdd 109 (f109_d (f109 k) noDr) (orcAdd 30 (f30_d (f30 k) noDr) (orcAdd 65 (f65_d (f65 k) noDr) noOrc))))
theorem f102_2_o_ok {R : Type} (k : Nat) : OrcOk Try.prog cx (f102_2_o (R := R) k) := (OrcOk.add (f105_2_ok k FnOk.no) (OrcOk.add (f109_ok k FnOk.no) (OrcOk.add (f30_ok k FnOk.no) (OrcOk.add (f65_ok k FnOk.no) OrcOk.no))))
noncomputable def f102_2_b : Code := bodyOf Try.f102
noncomputable def f102_2_ann : Nat → Option LAnn := fun _key => none
noncomputable def f102_2_r {R : Type} (_k : Nat) : Lrc D R := noLrc
theorem f102_2_ok {R : Type} (k : Nat) {e : Dr D R} (he : FnOk Try.prog cx 102 e) : FnOk Try.prog cx 102 (f102_2_d (f102_2 k) e) :=
  he.door fun _x _y => body_ok (keep := kp) (ann := f102_2_ann) (lrc := f102_2_r (R := R) k) (N := 89) (n0 := 2) (c := []) cxOk mixed (f102_2_o_ok k) (body := f102_2_b) (by kernel_rfl : Try.prog.funcs[102]? = some Try.f102) (by kernel_rfl) (by kernel_rfl) (by kernel_rfl) (by kernel_rfl) (of_decide_eq_true (by kernel_rfl)) (L := []) (by kernel_rfl) trivial (J := []) (by kernel_rfl) trivial (LrcNat.no) (fun _K => by delta f102_2 f102_2_o; generalize @f65 R = a0; generalize @f30 R = a1; generalize @f109 R = a2; generalize @f105_2 R = a3; revert a0 a1 a2 a3; refine id ?_; intros; kernel_rfl)

abbrev f103_2_T (R : Type) : Type := Int → Int → Int → Int → Bool → Int → ByteArray → Int → Bool → Bool → Int → Int → Int → Int → Bool → List Int → Int → Int → Int → List D1 → (Int → List Int → Int → Int → Int → List D1 → Option R) → Option R
/-! ## 103: (*diorama/dioramaref04.walker).size -/
noncomputable def f103_2 {R : Type} (k : Nat) (a0 _a1 a2 a3 : Int) (a4 : Bool) (_a5 : Int) (_a6 : ByteArray) (_a7 : Int) (_a8 a9 : Bool) (_a10 _a11 a12 _a13 : Int) (_a14 : Bool) (a15 : List Int) (a16 a17 a18 : Int) (a19 : List D1) (K : Int → List Int → Int → Int → Int → List D1 → Option R) : Option R :=
 bif decide (a12 ≥ 0) then
  bif decide ((IntKind.i64.wrap (a0 + a2)) > a12) then
   f105_2 k a0 41 a15 a16 a17 a18 a19 (fun v1 v2 v3 v4 v5 =>
    K (-1) v1 v2 v3 v4 v5)
  else
   bif a4 then
    bif (!a9) then
     f105_2 k a0 41 a15 a16 a17 a18 a19 (fun v6 v7 v8 v9 v10 =>
      K (-1) v6 v7 v8 v9 v10)
    else
     bif a4 then
      K (-1) a15 a16 a17 a18 a19
     else
      bif decide (a12 ≥ 0) then
      bif decide (a3 > (IntKind.i64.wrap (a12 - (IntKind.i64.wrap (a0 + a2))))) then
      f105_2 k a0 41 a15 a16 a17 a18 a19 (fun v11 v12 v13 v14 v15 =>
      K (-1) v11 v12 v13 v14 v15)
      else
      bif decide (a3 > (IntKind.i64.wrap ((a15.length : Int) - (IntKind.i64.wrap (a0 + a2))))) then
      f105_2 k a0 3 a15 a16 a17 a18 a19 (fun v16 v17 v18 v19 v20 =>
      K (-1) v16 v17 v18 v19 v20)
      else
      K (IntKind.i64.wrap ((IntKind.i64.wrap (a0 + a2)) + a3)) a15 a16 a17 a18 a19
      else
      bif decide (a3 > (IntKind.i64.wrap ((a15.length : Int) - (IntKind.i64.wrap (a0 + a2))))) then
      f105_2 k a0 3 a15 a16 a17 a18 a19 (fun v21 v22 v23 v24 v25 =>
      K (-1) v21 v22 v23 v24 v25)
      else
      K (IntKind.i64.wrap ((IntKind.i64.wrap (a0 + a2)) + a3)) a15 a16 a17 a18 a19
   else
    bif a4 then
     K (-1) a15 a16 a17 a18 a19
    else
     bif decide (a12 ≥ 0) then
      bif decide (a3 > (IntKind.i64.wrap (a12 - (IntKind.i64.wrap (a0 + a2))))) then
      f105_2 k a0 41 a15 a16 a17 a18 a19 (fun v26 v27 v28 v29 v30 =>
      K (-1) v26 v27 v28 v29 v30)
      else
      bif decide (a3 > (IntKind.i64.wrap ((a15.length : Int) - (IntKind.i64.wrap (a0 + a2))))) then
      f105_2 k a0 3 a15 a16 a17 a18 a19 (fun v31 v32 v33 v34 v35 =>
      K (-1) v31 v32 v33 v34 v35)
      else
      K (IntKind.i64.wrap ((IntKind.i64.wrap (a0 + a2)) + a3)) a15 a16 a17 a18 a19
     else
      bif decide (a3 > (IntKind.i64.wrap ((a15.length : Int) - (IntKind.i64.wrap (a0 + a2))))) then
      f105_2 k a0 3 a15 a16 a17 a18 a19 (fun v36 v37 v38 v39 v40 =>
      K (-1) v36 v37 v38 v39 v40)
      else
      K (IntKind.i64.wrap ((IntKind.i64.wrap (a0 + a2)) + a3)) a15 a16 a17 a18 a19
 else
  bif a4 then
   bif (!a9) then
    f105_2 k a0 41 a15 a16 a17 a18 a19 (fun v41 v42 v43 v44 v45 =>
     K (-1) v41 v42 v43 v44 v45)
   else
    bif a4 then
     K (-1) a15 a16 a17 a18 a19
    else
     bif decide (a12 ≥ 0) then
      bif decide (a3 > (IntKind.i64.wrap (a12 - (IntKind.i64.wrap (a0 + a2))))) then
      f105_2 k a0 41 a15 a16 a17 a18 a19 (fun v46 v47 v48 v49 v50 =>
      K (-1) v46 v47 v48 v49 v50)
      else
      bif decide (a3 > (IntKind.i64.wrap ((a15.length : Int) - (IntKind.i64.wrap (a0 + a2))))) then
      f105_2 k a0 3 a15 a16 a17 a18 a19 (fun v51 v52 v53 v54 v55 =>
      K (-1) v51 v52 v53 v54 v55)
      else
      K (IntKind.i64.wrap ((IntKind.i64.wrap (a0 + a2)) + a3)) a15 a16 a17 a18 a19
     else
      bif decide (a3 > (IntKind.i64.wrap ((a15.length : Int) - (IntKind.i64.wrap (a0 + a2))))) then
      f105_2 k a0 3 a15 a16 a17 a18 a19 (fun v56 v57 v58 v59 v60 =>
      K (-1) v56 v57 v58 v59 v60)
      else
      K (IntKind.i64.wrap ((IntKind.i64.wrap (a0 + a2)) + a3)) a15 a16 a17 a18 a19
  else
   bif a4 then
    K (-1) a15 a16 a17 a18 a19
   else
    bif decide (a12 ≥ 0) then
     bif decide (a3 > (IntKind.i64.wrap (a12 - (IntKind.i64.wrap (a0 + a2))))) then
      f105_2 k a0 41 a15 a16 a17 a18 a19 (fun v61 v62 v63 v64 v65 =>
      K (-1) v61 v62 v63 v64 v65)
     else
      bif decide (a3 > (IntKind.i64.wrap ((a15.length : Int) - (IntKind.i64.wrap (a0 + a2))))) then
      f105_2 k a0 3 a15 a16 a17 a18 a19 (fun v66 v67 v68 v69 v70 =>
      K (-1) v66 v67 v68 v69 v70)
      else
      K (IntKind.i64.wrap ((IntKind.i64.wrap (a0 + a2)) + a3)) a15 a16 a17 a18 a19
    else
     bif decide (a3 > (IntKind.i64.wrap ((a15.length : Int) - (IntKind.i64.wrap (a0 + a2))))) then
      f105_2 k a0 3 a15 a16 a17 a18 a19 (fun v71 v72 v73 v74 v75 =>
      K (-1) v71 v72 v73 v74 v75)
     else
      K (IntKind.i64.wrap ((IntKind.i64.wrap (a0 + a2)) + a3)) a15 a16 a17 a18 a19
noncomputable def f103_2_d {R : Type} (g : f103_2_T R) (e : Dr D R) : Dr D R := door [.ptr 0 0, .int .i64, .agg [.int .i64, .int .i64, .int .i64, .bool], .agg [.int .i64, .str, .int .i64, .bool, .bool], .agg [.int .i64, .int .i64, .int .i64, .int .i64, .bool]] [.box [.list (.int .u8), .own 1, .int .i64, .int .i64, .int .i64], .row (.named 1) true] (fun (x : (Unit × Int × (Int × Int × Int × Bool × Unit) × (Int × ByteArray × Int × Bool × Bool × Unit) × (Int × Int × Int × Int × Bool × Unit) × Unit)) (y : ((List Int × Unit × Int × Int × Int × Unit) × List D1 × Unit)) K => g x.2.1 x.2.2.1.1 x.2.2.1.2.1 x.2.2.1.2.2.1 x.2.2.1.2.2.2.1 x.2.2.2.1.1 x.2.2.2.1.2.1 x.2.2.2.1.2.2.1 x.2.2.2.1.2.2.2.1 x.2.2.2.1.2.2.2.2.1 x.2.2.2.2.1.1 x.2.2.2.2.1.2.1 x.2.2.2.2.1.2.2.1 x.2.2.2.2.1.2.2.2.1 x.2.2.2.2.1.2.2.2.2.1 y.1.1 y.1.2.2.1 y.1.2.2.2.1 y.1.2.2.2.2.1 y.2.1 (fun z0 z1 z2 z3 z4 z5 => K ⟨.int .i64 z0, [some (.box [.list (.int .u8) z1, .own 1, .int .i64 z2, .int .i64 z3, .int .i64 z4]), some (.row (.named 1) z5 true)]⟩)) e
noncomputable def f103_2_o {R : Type} (k : Nat) : Orc D R := (orcAdd 105 (f105_2_d (f105_2 k) noDr) noOrc)
theorem f103_2_o_ok {R : Type} (k : Nat) : OrcOk Try.prog cx (f103_2_o (R := R) k) := (OrcOk.add (f105_2_ok k FnOk.no) OrcOk.no)
noncomputable def f103_2_b : Code := bodyOf Try.f103
noncomputable def f103_2_ann : Nat → Option LAnn := fun _key => none
noncomputable def f103_2_r {R : Type} (_k : Nat) : Lrc D R := noLrc
theorem f103_2_ok {R : Type} (k : Nat) {e : Dr D R} (he : FnOk Try.prog cx 103 e) : FnOk Try.prog cx 103 (f103_2_d (f103_2 k) e) :=
  he.door fun _x _y => body_ok (keep := kp) (ann := f103_2_ann) (lrc := f103_2_r (R := R) k) (N := 71) (n0 := 2) (c := []) cxOk mixed (f103_2_o_ok k) (body := f103_2_b) (by kernel_rfl : Try.prog.funcs[103]? = some Try.f103) (by kernel_rfl) (by kernel_rfl) (by kernel_rfl) (by kernel_rfl) (of_decide_eq_true (by kernel_rfl)) (L := []) (by kernel_rfl) trivial (J := []) (by kernel_rfl) trivial (LrcNat.no) (fun _K => by delta f103_2 f103_2_o; generalize @f105_2 R = a0; revert a0; refine id ?_; intros; kernel_rfl)

abbrev f104_2_T (R : Type) : Type := Int → Int → Int → Int → Int → Int → Int → Int → Bool → List Int → Int → Int → Int → List D1 → (List Int → Int → Int → Int → List D1 → Option R) → Option R
/-! ## 104: (*diorama/dioramaref04.walker).sum -/
noncomputable def f104_2_l3 {R : Type} : Nat → Int → Int → Int → Int → List Int → Int → Int → Int → List D1 → Int → Int → Int → Int → Bool → (Int → Int → Int → List Int → Int → Int → Int → List D1 → Int → Int → Int → Int → Bool → Option R) → Option R
  | 0, _, _, _, _, _, _, _, _, _, _, _, _, _, _, _ => none
  | k + 1, v26, v27, v28, v29, v30, v31, v32, v33, v34, v35, v36, v37, v38, v39, X0 =>
  bif decide (v29 < v27) then
   bif inb v29 v30.length then
    f104_2_l3 k v26 v27 (IntKind.i64.wrap ((IntKind.i64.wrap (v28 * 256)) + (IntKind.i64.wrap ((v30.getD v29.toNat 0))))) (IntKind.i64.wrap (v29 + 1)) v30 v31 v32 v33 v34 v35 v36 v37 v38 v39 X0
   else
    none
  else
   X0 v26 v27 v28 v30 v31 v32 v33 v34 v35 v36 v37 v38 v39
noncomputable def f104_2 {R : Type} (k : Nat) (a0 a1 a2 a3 a4 a5 a6 a7 : Int) (a8 : Bool) (a9 : List Int) (a10 a11 a12 : Int) (a13 : List D1) (K : List Int → Int → Int → Int → List D1 → Option R) : Option R :=
 bif (a4 == 0) then
  f105_2 k a0 42 a9 a10 a11 a12 a13 K
 else
  bif decide (a3 > 0) then
   f105_2 k a0 42 a9 a10 a11 a12 a13 K
  else
   bif decide (a7 > 8) then
    f105_2 k a0 43 a9 a10 a11 a12 a13 K
   else
    bif a8 then
     f105_2 k a0 4 a9 a10 a11 a12 a13 K
    else
     bif ((IntKind.i64.wrap (a2 - a1)) != 4) then
      f105_2 k a0 4 a9 a10 a11 a12 a13 K
     else
      f104_2_l3 k a0 a2 0 a1 a9 a10 a11 a12 a13 a4 a5 a6 a7 a8 (fun v40 v41 v42 v43 v44 v45 v46 v47 _v48 v49 _v50 _v51 _v52 =>
      bif upto v49 v43.length then
      bif (decide (0 ≤ v41)) && (decide (v41 ≤ v49)) then
      f94 k ((v43.take v49.toNat).drop v41.toNat) (fun v53 =>
      bif (v42 != (IntKind.i64.wrap (v53))) then
      f105_2 k v40 6 v43 v44 v45 v46 v47 K
      else
      K v43 v44 v45 v46 v47)
      else
      none
      else
      none)
noncomputable def f104_2_d {R : Type} (g : f104_2_T R) (e : Dr D R) : Dr D R := door [.ptr 0 0, .int .i64, .int .i64, .int .i64, .int .i64, .agg [.int .i64, .int .i64, .int .i64, .int .i64, .bool]] [.box [.list (.int .u8), .own 1, .int .i64, .int .i64, .int .i64], .row (.named 1) true] (fun (x : (Unit × Int × Int × Int × Int × (Int × Int × Int × Int × Bool × Unit) × Unit)) (y : ((List Int × Unit × Int × Int × Int × Unit) × List D1 × Unit)) K => g x.2.1 x.2.2.1 x.2.2.2.1 x.2.2.2.2.1 x.2.2.2.2.2.1.1 x.2.2.2.2.2.1.2.1 x.2.2.2.2.2.1.2.2.1 x.2.2.2.2.2.1.2.2.2.1 x.2.2.2.2.2.1.2.2.2.2.1 y.1.1 y.1.2.2.1 y.1.2.2.2.1 y.1.2.2.2.2.1 y.2.1 (fun z0 z1 z2 z3 z4 => K ⟨.tup [], [some (.box [.list (.int .u8) z0, .own 1, .int .i64 z1, .int .i64 z2, .int .i64 z3]), some (.row (.named 1) z4 true)]⟩)) e
noncomputable def f104_2_o {R : Type} (k : Nat) : Orc D R := (orcAdd 105 (f105_2_d (f105_2 k) noDr) (orcAdd 94 (f94_d (f94 k) noDr) noOrc))
theorem f104_2_o_ok {R : Type} (k : Nat) : OrcOk Try.prog cx (f104_2_o (R := R) k) := (OrcOk.add (f105_2_ok k FnOk.no) (OrcOk.add (f94_ok k FnOk.no) OrcOk.no))
noncomputable def f104_2_b : Code := bodyOf Try.f104
noncomputable def f104_2_l3_a : LAnn := ⟨⟨[], [0, 1, 3, 11, 12, 13], [0, 1, 65728], []⟩, exOf (none) [(1, ⟨[], [0, 1, 3, 11, 12], [0, 1, 65728], []⟩)]⟩
noncomputable def f104_2_ann : Nat → Option LAnn := fun key => bif Nat.beq key 3 then some f104_2_l3_a else none
noncomputable def f104_2_l3_b : Code := loopAt f104_2_b 0
noncomputable def f104_2_l3_g {R : Type} (k : Nat) (x : (Unit × Int × Int × Unit × Int × Int × Unit)) (y : ((List Int × Unit × Int × Int × Int × Unit) × List D1 × (Int × Int × Int × Int × Bool × Unit) × Unit)) (K : KX R) : Option R := f104_2_l3 k x.2.1 x.2.2.1 x.2.2.2.2.1 x.2.2.2.2.2.1 y.1.1 y.1.2.2.1 y.1.2.2.2.1 y.1.2.2.2.2.1 y.2.1 y.2.2.1.1 y.2.2.1.2.1 y.2.2.1.2.2.1 y.2.2.1.2.2.2.1 y.2.2.1.2.2.2.2.1 (fun z0 z1 z2 z3 z4 z5 z6 z7 z8 z9 z10 z11 z12 => K (.exit 1) [.ptr 0 0, .int .i64 z0, .int .i64 z1, .ptr 65728 0, .int .i64 z2] [some (.box [.list (.int .u8) z3, .own 1, .int .i64 z4, .int .i64 z5, .int .i64 z6]), some (.row (.named 1) z7 true), some (.box [.int .i64 z8, .int .i64 z9, .int .i64 z10, .int .i64 z11, .bool z12])])
noncomputable def f104_2_l3_d {R : Type} (k : Nat) : Lr D R := ldoor [.ptr 0 0, .int .i64, .int .i64, .ptr 65728 0, .int .i64, .int .i64] [some (.box [.list (.int .u8), .own 1, .int .i64, .int .i64, .int .i64]), some (.row (.named 1) true), some (.box [.int .i64, .int .i64, .int .i64, .int .i64, .bool])] (f104_2_l3_g k)
noncomputable def f104_2_l3_r {R : Type} (_k : Nat) : Lrc D R := noLrc
theorem f104_2_l3_d_ok {R : Type} : ∀ k, LoopOk Try.prog cx 76 2 f104_2_ann (f104_2_l3_d (R := R) k) f104_2_l3_b :=
  loop_ok (keep := kp) (lrc := f104_2_l3_r (R := R)) cxOk mixed (f104_2_o_ok) (show f104_2_ann (Am.keyOf f104_2_l3_b) = some f104_2_l3_a by kernel_rfl) (L := []) (by kernel_rfl) (fun _k => trivial) (J := []) (by kernel_rfl) (fun _k => trivial) (fun _k => LrcNat.no) (fun _x _y _K => by kernel_rfl) (fun _k _x _y _K => by kernel_rfl)
noncomputable def f104_2_r {R : Type} (k : Nat) : Lrc D R := (lrcAdd 3 (f104_2_l3_d k) noLrc)
theorem f104_2_ok {R : Type} (k : Nat) {e : Dr D R} (he : FnOk Try.prog cx 104 e) : FnOk Try.prog cx 104 (f104_2_d (f104_2 k) e) :=
  he.door fun _x _y => body_ok (keep := kp) (ann := f104_2_ann) (lrc := f104_2_r (R := R) k) (N := 76) (n0 := 2) (c := []) cxOk mixed (f104_2_o_ok k) (body := f104_2_b) (by kernel_rfl : Try.prog.funcs[104]? = some Try.f104) (by kernel_rfl) (by kernel_rfl) (by kernel_rfl) (by kernel_rfl) (of_decide_eq_true (by kernel_rfl)) (L := [f104_2_l3_b]) (by kernel_rfl) (⟨(f104_2_l3_d_ok k).use (by kernel_rfl), trivial⟩) (J := []) (by kernel_rfl) trivial ((LrcNat.add (f104_2_l3_d_ok k).2 LrcNat.no)) (fun _K => by delta f104_2 f104_2_o; generalize @f94 R = a0; generalize @f105_2 R = a1; revert a0 a1; refine id ?_; intros; kernel_rfl)


end Go.Proofs.Ytklhjegfkpmdoaa

/-! What the functions do, as plain functions; and that they do. -/
namespace Go.Proofs.Ytklhjegfkpmdoaa
open Go Go.Am
abbrev f89_2_T (R : Type) : Type := Int → Int → Int → Int → Int → Bool → List Int → Int → Int → Int → List D1 → (Int → List Int → Int → Int → Int → List D2 → List D1 → Option R) → Option R
/-! ## 89: (*diorama/dioramaref04.walker).list -/
noncomputable def f89_2_j8 {R : Type} (_g_f89_2 : Nat → f89_2_T R) (_k : Nat) (v37 v38 v39 : Int) (v40 v41 : Bool) (v42 : List Int) (v43 v44 v45 : Int) (v46 : List D1) (v47 v48 v49 v50 : Int) (v51 : Bool) (v52 : List D2) (v53 : Int) (v54 : ByteArray) (v55 : Int) (v56 v57 : Bool) (X0 : Int → Int → Int → Bool → List Int → Int → Int → Int → List D1 → Int → Int → Int → Int → Bool → List D2 → Int → ByteArray → Int → Bool → Bool → Option R) (X1 : Int → List D2 → List Int → Int → Int → Int → List D1 → Option R) : Option R :=
 bif v41 then
  X1 v37 v52 v42 v43 v44 v45 v46
 else
  X0 v37 v38 v39 v40 v42 v43 v44 v45 v46 v47 v48 v49 v50 v51 v52 v53 v54 v55 v56 v57
noncomputable def f89_2_j16 {R : Type} (_g_f89_2 : Nat → f89_2_T R) (k : Nat) (v146 v147 v148 : Int) (v149 : Bool) (v150 : Int) (v151 : Bool) (v152 : List Int) (v153 v154 v155 : Int) (v156 : List D1) (v157 v158 v159 v160 : Int) (v161 : Bool) (v162 : List D2) (v163 : Int) (v164 : ByteArray) (v165 : Int) (v166 v167 : Bool) (v168 v169 v170 : Int) (v171 : Bool) (X0 : Int → Int → Int → Bool → Int → List Int → Int → Int → Int → List D1 → Int → Int → Int → Int → Bool → List D2 → Int → ByteArray → Int → Bool → Bool → Int → Int → Int → Bool → Option R) : Option R :=
 bif v151 then
  f105_2 k v146 42 v152 v153 v154 v155 v156 (fun v172 v173 v174 v175 v176 =>
   X0 v146 v147 v148 v149 v150 v172 v173 v174 v175 v176 v157 v158 v159 v160 v161 v162 v163 v164 v165 v166 v167 v168 v169 v170 v171)
 else
  bif decide (v160 > 8) then
   f105_2 k v146 43 v152 v153 v154 v155 v156 (fun v177 v178 v179 v180 v181 =>
    X0 v146 v147 v148 v149 v150 v177 v178 v179 v180 v181 v157 v158 v159 v160 v161 v162 v163 v164 v165 v166 v167 v168 v169 v170 v171)
  else
   X0 v146 v147 v148 v149 v150 v152 v153 v154 v155 v156 v157 v158 v159 v160 v161 v162 v163 v164 v165 v166 v167 v168 v169 v170 v171
noncomputable def f89_2_j14 {R : Type} (g_f89_2 : Nat → f89_2_T R) (k : Nat) (v114 v115 v116 : Int) (v117 : Bool) (v118 : Int) (v119 : Bool) (v120 : List Int) (v121 v122 v123 : Int) (v124 : List D1) (v125 v126 v127 v128 : Int) (v129 : Bool) (v130 : List D2) (v131 : Int) (v132 : ByteArray) (v133 : Int) (v134 v135 : Bool) (v136 v137 v138 : Int) (v139 : Bool) (X0 : Int → Int → Int → Bool → Int → List Int → Int → Int → Int → List D1 → Int → Int → Int → Int → Bool → List D2 → Int → ByteArray → Int → Bool → Bool → Int → Int → Int → Bool → Option R) : Option R :=
 bif v119 then
  f104_2 k v114 (IntKind.i64.wrap (v114 + v137)) v118 v115 v125 v126 v127 v128 v129 v120 v121 v122 v123 v124 (fun v140 v141 v142 v143 v144 =>
   X0 v114 v115 v116 v117 v118 v140 v141 v142 v143 v144 v125 v126 v127 v128 v129 v130 v131 v132 v133 v134 v135 v136 v137 v138 v139)
 else
  bif v117 then
   bif (v116 != 236) then
    f98 k v131 v132 v133 v134 v135 v125 (fun v145 =>
     f89_2_j16 g_f89_2 k v114 v115 v116 v117 v118 (!v145) v120 v121 v122 v123 v124 v125 v126 v127 v128 v129 v130 v131 v132 v133 v134 v135 v136 v137 v138 v139 X0)
   else
    f89_2_j16 g_f89_2 k v114 v115 v116 v117 v118 false v120 v121 v122 v123 v124 v125 v126 v127 v128 v129 v130 v131 v132 v133 v134 v135 v136 v137 v138 v139 X0
  else
   f89_2_j16 g_f89_2 k v114 v115 v116 v117 v118 false v120 v121 v122 v123 v124 v125 v126 v127 v128 v129 v130 v131 v132 v133 v134 v135 v136 v137 v138 v139 X0
noncomputable def f89_2_j33 {R : Type} (g_f89_2 : Nat → f89_2_T R) (k : Nat) (v387 v388 : Int) (v389 : Bool) (v390 : Int) (v391 : List Int) (v392 v393 v394 : Int) (v395 : List D1) (v396 v397 v398 v399 : Int) (v400 : Bool) (v401 : List D2) (v402 v403 v404 : Int) (v405 : Bool) (v406 : Int) (v407 : Bool) (v408 v409 v410 v411 : Int) (v412 : Bool) (X0 : Int → Int → Bool → Int → Int → List Int → Int → Int → Int → List D1 → Int → Int → Int → Int → Bool → List D2 → Int → Int → Int → Bool → Int → Bool → List D2 → Option R) : Option R :=
 g_f89_2 k (IntKind.i64.wrap (v387 + v403)) v408 v409 v410 v411 v412 v391 v392 v393 v394 v395 (fun v413 v414 v415 v416 v417 v418 v419 =>
  X0 v387 v388 v389 v390 v413 v414 v415 v416 v417 v419 v396 v397 v398 v399 v400 v401 v402 v403 v404 v405 v406 v407 v418)
noncomputable def f89_2_j30 {R : Type} (g_f89_2 : Nat → f89_2_T R) (k : Nat) (v362 v363 v364 v365 : Int) (v366 : Bool) (v367 v368 : Int) (v369 : Bool) (v370 : List Int) (v371 v372 v373 : Int) (v374 : List D1) (v375 v376 v377 v378 : Int) (v379 : Bool) (v380 : List D2) (v381 v382 v383 : Int) (v384 : Bool) (v385 : Int) (v386 : Bool) (X0 : Int → Int → Bool → Int → Int → List Int → Int → Int → Int → List D1 → Int → Int → Int → Int → Bool → List D2 → Int → Int → Int → Bool → Int → Bool → List Int → List D2 → Option R) : Option R :=
 bif v369 then
  bif v384 then
   f89_2_j33 g_f89_2 k v362 v363 v366 v367 v370 v371 v372 v373 v374 v375 v376 v377 v378 v379 v380 v381 v382 v383 v384 v385 v386 v364 v376 v377 (IntKind.i64.wrap (v378 + 1)) true (fun v420 v421 v422 v423 v424 v425 v426 v427 v428 v429 v430 v431 v432 v433 v434 v435 v436 v437 v438 v439 v440 v441 v442 =>
    X0 v420 v421 v422 v423 v424 v425 v426 v427 v428 v429 v430 v431 v432 v433 v434 v435 v436 v437 v438 v439 v440 v441 ([] : List Int) v442)
  else
   f89_2_j33 g_f89_2 k v362 v363 v366 v367 v370 v371 v372 v373 v374 v375 v376 v377 v378 v379 v380 v381 v382 v383 v384 v385 v386 v364 v365 v365 (IntKind.i64.wrap (v378 + 1)) false (fun v443 v444 v445 v446 v447 v448 v449 v450 v451 v452 v453 v454 v455 v456 v457 v458 v459 v460 v461 v462 v463 v464 v465 =>
    X0 v443 v444 v445 v446 v447 v448 v449 v450 v451 v452 v453 v454 v455 v456 v457 v458 v459 v460 v461 v462 v463 v464 ([] : List Int) v465)
 else
  bif upto v365 v370.length then
   bif (decide (0 ≤ (IntKind.i64.wrap (v362 + v382)))) && (decide ((IntKind.i64.wrap (v362 + v382)) ≤ v365)) then
    bif room 1 (((v370.take v365.toNat).drop ((IntKind.i64.wrap (v362 + v382)).toNat)).length) then
     X0 v362 v363 v366 v367 v368 v370 v371 v372 v373 v374 v375 v376 v377 v378 v379 v380 v381 v382 v383 v384 v385 v386 ((v370.take v365.toNat).drop ((IntKind.i64.wrap (v362 + v382)).toNat)) ([] : List D2)
    else
     none
   else
    none
  else
   none
noncomputable def f89_2_j35 {R : Type} (_g_f89_2 : Nat → f89_2_T R) (_k : Nat) (v490 v491 : Int) (v492 : Bool) (v493 v494 : Int) (v495 : List Int) (v496 v497 v498 : Int) (v499 : List D1) (v500 v501 v502 v503 : Int) (v504 : Bool) (v505 : List D2) (_v506 v507 _v508 : Int) (_v509 : Bool) (v510 : Int) (v511 : Bool) (v512 : List Int) (v513 : List D2) (X0 : Int → List D2 → List Int → Int → Int → Int → List D1 → Option R) (X1 : Int → Int → List Int → Int → Int → Int → List D1 → Int → Int → Int → Int → Bool → List D2 → Option R) : Option R :=
 bif (v497 != 0) then
  X0 v490 v505 v495 v496 v497 v498 v499
 else
  bif inb v493 v499.length then
   bif v492 then
    bif room 64 (v505.length + ([(D2.mk v510 v512 v513 v511)]).length) then
     X1 v494 v491 v495 v496 v497 v498 (v499.set v493.toNat ((v499.getD v493.toNat zero1).1, (v499.getD v493.toNat zero1).2.1, (v499.getD v493.toNat zero1).2.2.1, (IntKind.i64.wrap ((IntKind.i64.wrap (v494 - v490)) - v507)), (v499.getD v493.toNat zero1).2.2.2.2.1, (v499.getD v493.toNat zero1).2.2.2.2.2)) v500 v501 v502 v503 v504 (v505 ++ ([(D2.mk v510 v512 v513 v511)]))
    else
     none
   else
    X1 v494 v491 v495 v496 v497 v498 (v499.set v493.toNat ((v499.getD v493.toNat zero1).1, (v499.getD v493.toNat zero1).2.1, (v499.getD v493.toNat zero1).2.2.1, (IntKind.i64.wrap ((IntKind.i64.wrap (v494 - v490)) - v507)), (v499.getD v493.toNat zero1).2.2.2.2.1, (v499.getD v493.toNat zero1).2.2.2.2.2)) v500 v501 v502 v503 v504 v505
  else
   none
noncomputable def f89_2_j24 {R : Type} (g_f89_2 : Nat → f89_2_T R) (k : Nat) (v337 v338 v339 v340 : Int) (v341 : Bool) (v342 : List Int) (v343 v344 v345 : Int) (v346 : List D1) (v347 v348 v349 v350 : Int) (v351 : Bool) (v352 : List D2) (_v353 : Int) (_v354 : ByteArray) (_v355 : Int) (v356 _v357 : Bool) (v358 v359 v360 : Int) (v361 : Bool) (X0 : Int → List D2 → List Int → Int → Int → Int → List D1 → Option R) (X1 : Int → Int → List Int → Int → Int → Int → List D1 → Int → Int → Int → Int → Bool → List D2 → Option R) : Option R :=
 bif (v344 != 0) then
  X0 v337 v352 v342 v343 v344 v345 v346
 else
  bif room 48 (v346.length + ([(v339, v337, v359, 0, v350, v361)]).length) then
   bif v341 then
    f89_2_j30 g_f89_2 k v337 v338 v339 v340 v341 (v346.length : Int) v340 v356 v342 v343 v344 v345 (v346 ++ ([(v339, v337, v359, 0, v350, v361)])) v347 v348 v349 v350 v351 v352 v358 v359 v360 v361 v339 v356 (fun v466 v467 v468 v469 v470 v471 v472 v473 v474 v475 v476 v477 v478 v479 v480 v481 v482 v483 v484 v485 v486 v487 v488 v489 =>
     f89_2_j35 g_f89_2 k v466 v467 v468 v469 v470 v471 v472 v473 v474 v475 v476 v477 v478 v479 v480 v481 v482 v483 v484 v485 v486 v487 v488 v489 X0 X1)
   else
    f89_2_j30 g_f89_2 k v337 v338 v339 v340 v341 (v346.length : Int) v340 false v342 v343 v344 v345 (v346 ++ ([(v339, v337, v359, 0, v350, v361)])) v347 v348 v349 v350 v351 v352 v358 v359 v360 v361 v339 v356 (fun v534 v535 v536 v537 v538 v539 v540 v541 v542 v543 v544 v545 v546 v547 v548 v549 v550 v551 v552 v553 v554 v555 v556 v557 =>
     f89_2_j35 g_f89_2 k v534 v535 v536 v537 v538 v539 v540 v541 v542 v543 v544 v545 v546 v547 v548 v549 v550 v551 v552 v553 v554 v555 v556 v557 X0 X1)
  else
   none
noncomputable def f89_2_j20 {R : Type} (g_f89_2 : Nat → f89_2_T R) (k : Nat) (v307 v308 v309 v310 : Int) (v311 : Bool) (v312 : List Int) (v313 v314 v315 : Int) (v316 : List D1) (v317 v318 v319 v320 : Int) (v321 : Bool) (v322 : List D2) (v323 : Int) (v324 : ByteArray) (v325 : Int) (v326 v327 : Bool) (v328 v329 v330 : Int) (v331 : Bool) (X0 : Int → List D2 → List Int → Int → Int → Int → List D1 → Option R) (X1 : Int → Int → List Int → Int → Int → Int → List D1 → Int → Int → Int → Int → Bool → List D2 → Option R) : Option R :=
 bif v311 then
  bif decide ((IntKind.i64.wrap (v313 + 1)) > 4000) then
   f105_2 k v307 2 v312 (IntKind.i64.wrap (v313 + 1)) v314 v315 v316 (fun v332 v333 v334 v335 v336 =>
    f89_2_j24 g_f89_2 k v307 v308 v309 v310 v311 v332 v333 v334 v335 v336 v317 v318 v319 v320 v321 v322 v323 v324 v325 v326 v327 v328 v329 v330 v331 X0 X1)
  else
   f89_2_j24 g_f89_2 k v307 v308 v309 v310 v311 v312 (IntKind.i64.wrap (v313 + 1)) v314 v315 v316 v317 v318 v319 v320 v321 v322 v323 v324 v325 v326 v327 v328 v329 v330 v331 X0 X1
 else
  f89_2_j24 g_f89_2 k v307 v308 v309 v310 v311 v312 v313 v314 v315 v316 v317 v318 v319 v320 v321 v322 v323 v324 v325 v326 v327 v328 v329 v330 v331 X0 X1
noncomputable def f89_2_j19 {R : Type} (g_f89_2 : Nat → f89_2_T R) (k : Nat) (v282 v283 v284 : Int) (v285 : Bool) (v286 : Int) (v287 : List Int) (v288 v289 v290 : Int) (v291 : List D1) (v292 v293 v294 v295 : Int) (v296 : Bool) (v297 : List D2) (v298 : Int) (v299 : ByteArray) (v300 : Int) (v301 v302 : Bool) (v303 v304 v305 : Int) (v306 : Bool) (X0 : Int → List D2 → List Int → Int → Int → Int → List D1 → Option R) (X1 : Int → Int → List Int → Int → Int → Int → List D1 → Int → Int → Int → Int → Bool → List D2 → Option R) : Option R :=
 bif v285 then
  bif (v284 != 236) then
   f89_2_j20 g_f89_2 k v282 v283 v284 v286 (v284 != 237) v287 v288 v289 v290 v291 v292 v293 v294 v295 v296 v297 v298 v299 v300 v301 v302 v303 v304 v305 v306 X0 X1
  else
   f89_2_j20 g_f89_2 k v282 v283 v284 v286 false v287 v288 v289 v290 v291 v292 v293 v294 v295 v296 v297 v298 v299 v300 v301 v302 v303 v304 v305 v306 X0 X1
 else
  f89_2_j20 g_f89_2 k v282 v283 v284 v286 false v287 v288 v289 v290 v291 v292 v293 v294 v295 v296 v297 v298 v299 v300 v301 v302 v303 v304 v305 v306 X0 X1
noncomputable def f89_2_j9 {R : Type} (g_f89_2 : Nat → f89_2_T R) (k : Nat) (v78 v79 v80 : Int) (v81 : Bool) (v82 : List Int) (v83 v84 v85 : Int) (v86 : List D1) (v87 v88 v89 v90 : Int) (v91 : Bool) (v92 : List D2) (v93 : Int) (v94 : ByteArray) (v95 : Int) (v96 v97 : Bool) (X0 : Int → List D2 → List Int → Int → Int → Int → List D1 → Option R) (X1 : Int → Int → List Int → Int → Int → Int → List D1 → Int → Int → Int → Int → Bool → List D2 → Option R) : Option R :=
 f102_2 k v78 v82 v83 v84 v85 v86 (fun v98 v99 v100 v101 v102 v103 v104 v105 v106 v107 =>
  bif (!v102) then
   X0 v78 v92 v103 v104 v105 v106 v107
  else
   f103_2 k v78 v98 v99 v100 v101 v93 v94 v95 v96 v97 v87 v88 v89 v90 v91 v103 v104 v105 v106 v107 (fun v108 v109 v110 v111 v112 v113 =>
    bif (v111 != 0) then
     X0 v78 v92 v109 v110 v111 v112 v113
    else
     bif v81 then
      f89_2_j14 g_f89_2 k v78 v79 v80 v81 v108 (v80 == 237) v109 v110 v111 v112 v113 v87 v88 v89 v90 v91 v92 v93 v94 v95 v96 v97 v98 v99 v100 v101 (fun v257 v258 v259 v260 v261 v262 v263 v264 v265 v266 v267 v268 v269 v270 v271 v272 v273 v274 v275 v276 v277 v278 v279 v280 v281 =>
      f89_2_j19 g_f89_2 k v257 v258 v259 v260 v261 v262 v263 v264 v265 v266 v267 v268 v269 v270 v271 v272 v273 v274 v275 v276 v277 v278 v279 v280 v281 X0 X1)
     else
      f89_2_j14 g_f89_2 k v78 v79 v80 v81 v108 false v109 v110 v111 v112 v113 v87 v88 v89 v90 v91 v92 v93 v94 v95 v96 v97 v98 v99 v100 v101 (fun v718 v719 v720 v721 v722 v723 v724 v725 v726 v727 v728 v729 v730 v731 v732 v733 v734 v735 v736 v737 v738 v739 v740 v741 v742 =>
      f89_2_j19 g_f89_2 k v718 v719 v720 v721 v722 v723 v724 v725 v726 v727 v728 v729 v730 v731 v732 v733 v734 v735 v736 v737 v738 v739 v740 v741 v742 X0 X1)))
noncomputable def f89_2_j5 {R : Type} (g_f89_2 : Nat → f89_2_T R) (k : Nat) (v14 v15 : Int) (v16 : List Int) (v17 v18 v19 : Int) (v20 : List D1) (v21 v22 v23 v24 : Int) (v25 : Bool) (v26 : List D2) (X0 : Int → List D2 → List Int → Int → Int → Int → List D1 → Option R) (X1 : Int → Int → List Int → Int → Int → Int → List D1 → Int → Int → Int → Int → Bool → List D2 → Option R) (X2 : Int → List D2 → List Int → Int → Int → Int → List D1 → Option R) : Option R :=
 f30 k v16 v14 (fun v27 _v28 v29 =>
  f26 k v27 (fun v30 v31 v32 v33 v34 v35 =>
   bif v25 then
    bif (v29 == 0) then
     bif v35 then
      bif (v27 != 236) then
      bif (v27 != 237) then
      f98 k v30 v31 v32 v33 v34 v21 (fun v36 =>
      f89_2_j8 g_f89_2 k v14 v15 v27 v35 (!v36) v16 v17 v18 v19 v20 v21 v22 v23 v24 v25 v26 v30 v31 v32 v33 v34 (fun v58 v59 v60 v61 v62 v63 v64 v65 v66 v67 v68 v69 v70 v71 v72 v73 v74 v75 v76 v77 =>
      f89_2_j9 g_f89_2 k v58 v59 v60 v61 v62 v63 v64 v65 v66 v67 v68 v69 v70 v71 v72 v73 v74 v75 v76 v77 X0 (fun v770 v771 v772 v773 v774 v775 v776 v777 v778 v779 v780 v781 v782 =>
      X1 v770 (IntKind.i64.wrap (v771 + 1)) v772 v773 v774 v775 v776 v777 v778 v779 v780 v781 v782)) X2)
      else
      f89_2_j8 g_f89_2 k v14 v15 v27 v35 false v16 v17 v18 v19 v20 v21 v22 v23 v24 v25 v26 v30 v31 v32 v33 v34 (fun v790 v791 v792 v793 v794 v795 v796 v797 v798 v799 v800 v801 v802 v803 v804 v805 v806 v807 v808 v809 =>
      f89_2_j9 g_f89_2 k v790 v791 v792 v793 v794 v795 v796 v797 v798 v799 v800 v801 v802 v803 v804 v805 v806 v807 v808 v809 X0 (fun v817 v818 v819 v820 v821 v822 v823 v824 v825 v826 v827 v828 v829 =>
      X1 v817 (IntKind.i64.wrap (v818 + 1)) v819 v820 v821 v822 v823 v824 v825 v826 v827 v828 v829)) X2
      else
      f89_2_j8 g_f89_2 k v14 v15 v27 v35 false v16 v17 v18 v19 v20 v21 v22 v23 v24 v25 v26 v30 v31 v32 v33 v34 (fun v837 v838 v839 v840 v841 v842 v843 v844 v845 v846 v847 v848 v849 v850 v851 v852 v853 v854 v855 v856 =>
      f89_2_j9 g_f89_2 k v837 v838 v839 v840 v841 v842 v843 v844 v845 v846 v847 v848 v849 v850 v851 v852 v853 v854 v855 v856 X0 (fun v864 v865 v866 v867 v868 v869 v870 v871 v872 v873 v874 v875 v876 =>
      X1 v864 (IntKind.i64.wrap (v865 + 1)) v866 v867 v868 v869 v870 v871 v872 v873 v874 v875 v876)) X2
     else
      f89_2_j8 g_f89_2 k v14 v15 v27 v35 false v16 v17 v18 v19 v20 v21 v22 v23 v24 v25 v26 v30 v31 v32 v33 v34 (fun v884 v885 v886 v887 v888 v889 v890 v891 v892 v893 v894 v895 v896 v897 v898 v899 v900 v901 v902 v903 =>
      f89_2_j9 g_f89_2 k v884 v885 v886 v887 v888 v889 v890 v891 v892 v893 v894 v895 v896 v897 v898 v899 v900 v901 v902 v903 X0 (fun v911 v912 v913 v914 v915 v916 v917 v918 v919 v920 v921 v922 v923 =>
      X1 v911 (IntKind.i64.wrap (v912 + 1)) v913 v914 v915 v916 v917 v918 v919 v920 v921 v922 v923)) X2
    else
     f89_2_j8 g_f89_2 k v14 v15 v27 v35 false v16 v17 v18 v19 v20 v21 v22 v23 v24 v25 v26 v30 v31 v32 v33 v34 (fun v931 v932 v933 v934 v935 v936 v937 v938 v939 v940 v941 v942 v943 v944 v945 v946 v947 v948 v949 v950 =>
      f89_2_j9 g_f89_2 k v931 v932 v933 v934 v935 v936 v937 v938 v939 v940 v941 v942 v943 v944 v945 v946 v947 v948 v949 v950 X0 (fun v958 v959 v960 v961 v962 v963 v964 v965 v966 v967 v968 v969 v970 =>
      X1 v958 (IntKind.i64.wrap (v959 + 1)) v960 v961 v962 v963 v964 v965 v966 v967 v968 v969 v970)) X2
   else
    f89_2_j8 g_f89_2 k v14 v15 v27 v35 false v16 v17 v18 v19 v20 v21 v22 v23 v24 v25 v26 v30 v31 v32 v33 v34 (fun v978 v979 v980 v981 v982 v983 v984 v985 v986 v987 v988 v989 v990 v991 v992 v993 v994 v995 v996 v997 =>
     f89_2_j9 g_f89_2 k v978 v979 v980 v981 v982 v983 v984 v985 v986 v987 v988 v989 v990 v991 v992 v993 v994 v995 v996 v997 X0 (fun v1005 v1006 v1007 v1008 v1009 v1010 v1011 v1012 v1013 v1014 v1015 v1016 v1017 =>
      X1 v1005 (IntKind.i64.wrap (v1006 + 1)) v1007 v1008 v1009 v1010 v1011 v1012 v1013 v1014 v1015 v1016 v1017)) X2))
noncomputable def f89_2_l3 {R : Type} (g_f89_2 : Nat → f89_2_T R) : Nat → Int → Int → List Int → Int → Int → Int → List D1 → Int → Int → Int → Int → Bool → List D2 → (Int → List D2 → List Int → Int → Int → Int → List D1 → Option R) → (Int → List D2 → List Int → Int → Int → Int → List D1 → Option R) → Option R
  | 0, _, _, _, _, _, _, _, _, _, _, _, _, _, _, _ => none
  | k + 1, v1, v2, v3, v4, v5, v6, v7, v8, v9, v10, v11, v12, v13, X0, X1 =>
  bif decide (v1 < v9) then
   bif (v5 == 0) then
    f89_2_j5 g_f89_2 k v1 v2 v3 v4 v5 v6 v7 v8 v9 v10 v11 v12 v13 X0 (fun v1032 v1033 v1034 v1035 v1036 v1037 v1038 v1039 v1040 v1041 v1042 v1043 v1044 =>
     f89_2_l3 g_f89_2 k v1032 v1033 v1034 v1035 v1036 v1037 v1038 v1039 v1040 v1041 v1042 v1043 v1044 X0 X1) X1
   else
    X0 v1 v13 v3 v4 v5 v6 v7
  else
   X0 v1 v13 v3 v4 v5 v6 v7
noncomputable def f89_2_s {R : Type} (g_f89_2 : Nat → f89_2_T R) (k : Nat) (a0 a1 a2 a3 a4 : Int) (a5 : Bool) (a6 : List Int) (a7 a8 a9 : Int) (a10 : List D1) (K : Int → List Int → Int → Int → Int → List D2 → List D1 → Option R) : Option R :=
 f89_2_l3 g_f89_2 k a0 0 a6 a7 a8 a9 a10 a1 a2 a3 a4 a5 ([] : List D2) (fun v1052 v1053 v1054 v1055 v1056 v1057 v1058 =>
  K v1052 v1054 v1055 v1056 v1057 v1053 v1058) (fun v1059 v1060 v1061 v1062 v1063 v1064 v1065 =>
  K v1059 v1061 v1062 v1063 v1064 v1060 v1065)
noncomputable def f89_2_d {R : Type} (g : f89_2_T R) (e : Dr D R) : Dr D R := door [.ptr 0 0, .int .i64, .agg [.int .i64, .int .i64, .int .i64, .int .i64, .bool]] [.box [.list (.int .u8), .own 1, .int .i64, .int .i64, .int .i64], .row (.named 1) true] (fun (x : (Unit × Int × (Int × Int × Int × Int × Bool × Unit) × Unit)) (y : ((List Int × Unit × Int × Int × Int × Unit) × List D1 × Unit)) K => g x.2.1 x.2.2.1.1 x.2.2.1.2.1 x.2.2.1.2.2.1 x.2.2.1.2.2.2.1 x.2.2.1.2.2.2.2.1 y.1.1 y.1.2.2.1 y.1.2.2.2.1 y.1.2.2.2.2.1 y.2.1 (fun z0 z1 z2 z3 z4 z5 z6 => K ⟨.tup [.own 2, .int .i64 z0], [some (.box [.list (.int .u8) z1, .own 3, .int .i64 z2, .int .i64 z3, .int .i64 z4]), none, some (.row (.named 2) z5 true), some (.row (.named 1) z6 true)]⟩)) e
noncomputable def f89_2_o {R : Type} (g_f89_2 : Nat → f89_2_T R) (k : Nat) : Orc D R := (orcAdd 89 (f89_2_d (g_f89_2 k) noDr) (orcAdd 104 (f104_2_d (f104_2 k) noDr) (orcAdd 103 (f103_2_d (f103_2 k) noDr) (orcAdd 102 (f102_2_d (f102_2 k) noDr) (orcAdd 105 (f105_2_d (f105_2 k) noDr) (orcAdd 98 (f98_d (f98 k) noDr) (orcAdd 26 (f26_d (f26 k) noDr) (orcAdd 30 (f30_d (f30 k) noDr) noOrc))))))))
theorem f89_2_o_ok {R : Type} (g_f89_2 : Nat → f89_2_T R) (h_f89_2 : ∀ (k : Nat) (e : Dr D R), FnOk Try.prog cx 89 e → FnOk Try.prog cx 89 (f89_2_d (g_f89_2 k) e)) (k : Nat) : OrcOk Try.prog cx (f89_2_o (R := R) g_f89_2 k) := (OrcOk.add (h_f89_2 k _ FnOk.no) (OrcOk.add (f104_2_ok k FnOk.no) (OrcOk.add (f103_2_ok k FnOk.no) (OrcOk.add (f102_2_ok k FnOk.no) (OrcOk.add (f105_2_ok k FnOk.no) (OrcOk.add (f98_ok k FnOk.no) (OrcOk.add (f26_ok k FnOk.no) (OrcOk.add (f30_ok k FnOk.no) OrcOk.no))))))))
noncomputable def f89_2_b : Code := bodyOf Try.f89
noncomputable def f89_2_j8_a : LAnn := ⟨⟨[(.tmp 8, .own 137438986240 (.named 2)), (.cell 0 1, .own 137438986241 (.named 1)), (.cell 1 0, .drop)], [0, 1, 5, 8, 9, 10, 13, 14, 74], [0, 137438986241, 65632, 137438986240, 458976], []⟩, exOfJ (some ⟨[(.tmp 8, .own 137438988288 (.named 2)), (.cell 0 1, .own 137438988289 (.named 1)), (.cell 1 0, .drop)], [0, 1, 5, 8, 9, 10, 13, 14], [0, 137438988289, 65632, 137438988288, 458976], []⟩) (some ⟨[(.tmp 6, .own 137438987264 (.named 2)), (.cell 0 1, .own 137438987265 (.named 1)), (.cell 1 0, .drop)], [6, 7], [137438987264, 0, 137438987265], []⟩) []⟩
noncomputable def f89_2_j16_a : LAnn := ⟨⟨[(.tmp 8, .own 137439019008 (.named 2)), (.cell 0 1, .own 137439019009 (.named 1)), (.cell 1 0, .drop)], [0, 1, 5, 8, 9, 10, 13, 14, 15, 17, 122], [0, 137439019009, 65632, 137439019008, 458976, 655616], []⟩, exOfJ (some ⟨[(.tmp 8, .own 137439020032 (.named 2)), (.cell 0 1, .own 137439020033 (.named 1)), (.cell 1 0, .drop)], [0, 1, 5, 8, 9, 10, 13, 14, 15, 17], [0, 137439020033, 65632, 137439020032, 458976, 655616], []⟩) (none) []⟩
noncomputable def f89_2_j14_a : LAnn := ⟨⟨[(.tmp 8, .own 137439010816 (.named 2)), (.cell 0 1, .own 137439010817 (.named 1)), (.cell 1 0, .drop)], [0, 1, 5, 8, 9, 10, 13, 14, 15, 17, 100], [0, 137439010817, 65632, 137439010816, 458976, 655616], []⟩, exOfJ (some ⟨[(.tmp 8, .own 137439011840 (.named 2)), (.cell 0 1, .own 137439011841 (.named 1)), (.cell 1 0, .drop)], [0, 1, 5, 8, 9, 10, 13, 14, 15, 17], [0, 137439011841, 65632, 137439011840, 458976, 655616], []⟩) (none) []⟩
noncomputable def f89_2_j33_a : LAnn := ⟨⟨[(.tmp 8, .own 137439088640 (.named 2))], [0, 1, 5, 8, 9, 15, 18, 19, 20, 22], [0, 1772400, 65632, 137439088640, 655616, 1835344, 2031984], []⟩, exOfJ (some ⟨[(.tmp 8, .own 137439089664 (.named 2))], [0, 1, 5, 8, 9, 15, 18, 19, 20, 21], [0, 2231761, 65632, 137439089664, 655616, 1835344, 2231760], []⟩) (none) []⟩
noncomputable def f89_2_j30_a : LAnn := ⟨⟨[(.tmp 8, .own 137439076352 (.named 2))], [0, 1, 5, 8, 9, 10, 15, 17, 18, 19, 20, 21, 194], [0, 1772400, 65632, 137439076352, 655616, 1835344], []⟩, exOfJ (some ⟨[(.cell 0 1, .own 137439077376 (.named 1)), (.cell 1835344 1, .own 137439077377 (.int .u8)), (.cell 1835344 2, .own 137439077378 (.named 2)), (.tmp 8, .own 137439077379 (.named 2))], [0, 1, 5, 8, 9, 15, 18, 19, 20, 21], [0, 137439077376, 65632, 137439077379, 655616, 1835344, 137439077377, 137439077378], []⟩) (none) []⟩
noncomputable def f89_2_j35_a : LAnn := ⟨⟨[(.tmp 8, .own 137439096832 (.named 2))], [0, 1, 5, 8, 9, 15, 18, 19, 20, 21], [0, 137439077376, 65632, 137439096832, 655616, 1835344, 137439077377, 137439077378], []⟩, exOfJ (some ⟨[(.tmp 8, .own 137439098880 (.named 2))], [0, 1, 5, 8, 9], [0, 137439077376, 65632, 137439098880], []⟩) (none) [(0, ⟨[(.tmp 8, .own 137439097856 (.named 2))], [1, 8], [137439097856, 0, 137439077376], []⟩)]⟩
noncomputable def f89_2_j24_a : LAnn := ⟨⟨[(.tmp 8, .own 137439051776 (.named 2)), (.cell 0 1, .own 137439051777 (.named 1)), (.cell 1 0, .drop)], [0, 1, 5, 8, 9, 10, 13, 15, 17, 18], [0, 137439051777, 65632, 137439051776, 458976, 655616], []⟩, exOfJ (some ⟨[], [0, 1, 5, 8, 9], [0, 137439077376, 65632, 137439098880], []⟩) (none) [(0, ⟨[(.cell 0 1, .own 137439052800 (.named 1)), (.tmp 8, .own 137439052802 (.named 2)), (.cell 1 0, .drop)], [1, 8], [137439052802, 0, 137439052800], []⟩)]⟩
noncomputable def f89_2_j20_a : LAnn := ⟨⟨[(.tmp 8, .own 137439035392 (.named 2)), (.cell 0 1, .own 137439035393 (.named 1)), (.cell 1 0, .drop)], [0, 1, 5, 8, 9, 10, 13, 15, 17, 18], [0, 137439035393, 65632, 137439035392, 458976, 655616], []⟩, exOfJ (some ⟨[], [0, 1, 5, 8, 9], [0, 137439077376, 65632, 137439098880], []⟩) (none) [(0, ⟨[(.tmp 8, .own 137439036416 (.named 2))], [1, 8], [137439036416, 0, 137439052800], []⟩)]⟩
noncomputable def f89_2_j19_a : LAnn := ⟨⟨[(.tmp 8, .own 137439031296 (.named 2)), (.cell 0 1, .own 137439031297 (.named 1)), (.cell 1 0, .drop)], [0, 1, 5, 8, 9, 10, 13, 14, 15, 17], [0, 137439031297, 65632, 137439031296, 458976, 655616], []⟩, exOfJ (some ⟨[], [0, 1, 5, 8, 9], [0, 137439077376, 65632, 137439098880], []⟩) (none) [(0, ⟨[(.tmp 8, .own 137439032320 (.named 2))], [1, 8], [137439032320, 0, 137439052800], []⟩)]⟩
noncomputable def f89_2_j9_a : LAnn := ⟨⟨[(.tmp 8, .own 137438990336 (.named 2)), (.cell 0 1, .own 137438990337 (.named 1)), (.cell 1 0, .drop)], [0, 1, 5, 8, 9, 10, 13, 14], [0, 137438990337, 65632, 137438990336, 458976], []⟩, exOfJ (some ⟨[], [0, 1, 5, 8, 9], [0, 137439077376, 65632, 137439098880], []⟩) (none) [(0, ⟨[(.cell 0 1, .own 137438991360 (.named 1)), (.tmp 8, .own 137438991362 (.named 2)), (.cell 1 0, .drop)], [1, 8], [137438991362, 0, 137438991360], []⟩)]⟩
noncomputable def f89_2_j5_a : LAnn := ⟨⟨[(.tmp 8, .own 137438973952 (.named 2)), (.cell 0 1, .own 137438973953 (.named 1)), (.cell 1 0, .drop)], [0, 1, 5, 8, 9], [0, 137438973953, 65632, 137438973952], []⟩, exOfJ (some ⟨[], [0, 1, 5, 8, 9], [0, 137439077376, 65632, 137439098880], []⟩) (some ⟨[(.tmp 6, .own 137438977024 (.named 2)), (.cell 0 1, .own 137438977025 (.named 1)), (.cell 1 0, .drop)], [6, 7], [137438977024, 0, 137438977025], []⟩) [(0, ⟨[(.tmp 8, .own 137438974976 (.named 2))], [1, 8], [137438974976, 0, 137438991360], []⟩)]⟩
noncomputable def f89_2_l3_a : LAnn := ⟨⟨[(.tmp 8, .own 68719489024 (.named 2)), (.cell 0 1, .own 68719489025 (.named 1)), (.cell 1 0, .drop)], [0, 1, 5, 8, 9], [0, 68719489025, 65632, 68719489024], []⟩, exOf (some ⟨[], [6, 7], [137438977024, 0, 137438977025], []⟩) [(0, ⟨[(.tmp 8, .own 68719490048 (.named 2)), (.cell 0 1, .own 68719490049 (.named 1))], [1, 8], [68719490048, 0, 68719490049], []⟩)]⟩
noncomputable def f89_2_ann : Nat → Option LAnn := fun key => bif Nat.beq key 3 then some f89_2_l3_a else bif Nat.beq key 1000005 then some f89_2_j5_a else bif Nat.beq key 1000009 then some f89_2_j9_a else bif Nat.beq key 1000019 then some f89_2_j19_a else bif Nat.beq key 1000020 then some f89_2_j20_a else bif Nat.beq key 1000024 then some f89_2_j24_a else bif Nat.beq key 1000035 then some f89_2_j35_a else bif Nat.beq key 1000030 then some f89_2_j30_a else bif Nat.beq key 1000033 then some f89_2_j33_a else bif Nat.beq key 1000014 then some f89_2_j14_a else bif Nat.beq key 1000016 then some f89_2_j16_a else bif Nat.beq key 1000008 then some f89_2_j8_a else none
noncomputable def f89_2_j8_b : Code := joinAt f89_2_ann f89_2_b 1
noncomputable def f89_2_j8_g {R : Type} (g_f89_2 : Nat → f89_2_T R) (k : Nat) (x : (Unit × Int × Unit × Unit × Int × Int × Unit × Bool × Bool × Unit)) (y : ((List Int × Unit × Int × Int × Int × Unit) × List D1 × (Int × Int × Int × Int × Bool × Unit) × List D2 × (Int × ByteArray × Int × Bool × Bool × Unit) × Unit)) (K : KX R) : Option R := f89_2_j8 g_f89_2 k x.2.1 x.2.2.2.2.1 x.2.2.2.2.2.1 x.2.2.2.2.2.2.2.1 x.2.2.2.2.2.2.2.2.1 y.1.1 y.1.2.2.1 y.1.2.2.2.1 y.1.2.2.2.2.1 y.2.1 y.2.2.1.1 y.2.2.1.2.1 y.2.2.1.2.2.1 y.2.2.1.2.2.2.1 y.2.2.1.2.2.2.2.1 y.2.2.2.1 y.2.2.2.2.1.1 y.2.2.2.2.1.2.1 y.2.2.2.2.1.2.2.1 y.2.2.2.2.1.2.2.2.1 y.2.2.2.2.1.2.2.2.2.1 (fun z0 z1 z2 z3 z4 z5 z6 z7 z8 z9 z10 z11 z12 z13 z14 z15 z16 z17 z18 z19 => K (.normal) [.ptr 0 0, .int .i64 z0, .ptr 65632 0, .own 137438988288, .int .i64 z1, .int .i64 z2, .ptr 458976 0, .bool z3] [some (.box [.list (.int .u8) z4, .own 137438988289, .int .i64 z5, .int .i64 z6, .int .i64 z7]), some (.row (.named 1) z8 true), some (.box [.int .i64 z9, .int .i64 z10, .int .i64 z11, .int .i64 z12, .bool z13]), some (.row (.named 2) z14 true), some (.box [.int .i64 z15, .str z16, .int .i64 z17, .bool z18, .bool z19])]) (fun z0 z1 z2 z3 z4 z5 z6 => K (.ret) [.own 137438987264, .int .i64 z0] [some (.row (.named 2) z1 true), some (.box [.list (.int .u8) z2, .own 137438987265, .int .i64 z3, .int .i64 z4, .int .i64 z5]), some (.row (.named 1) z6 true)])
noncomputable def f89_2_j8_d {R : Type} (g_f89_2 : Nat → f89_2_T R) (k : Nat) : Lr D R := ldoor [.ptr 0 0, .int .i64, .ptr 65632 0, .own 137438986240, .int .i64, .int .i64, .ptr 458976 0, .bool, .bool] [some (.box [.list (.int .u8), .own 137438986241, .int .i64, .int .i64, .int .i64]), some (.row (.named 1) true), some (.box [.int .i64, .int .i64, .int .i64, .int .i64, .bool]), some (.row (.named 2) true), some (.box [.int .i64, .str, .int .i64, .bool, .bool])] (f89_2_j8_g g_f89_2 k)
noncomputable def f89_2_j8_r {R : Type} (_g_f89_2 : Nat → f89_2_T R) (_k : Nat) : Lrc D R := noLrc
theorem f89_2_j8_d_ok {R : Type} (g_f89_2 : Nat → f89_2_T R) (h_f89_2 : ∀ (k : Nat) (e : Dr D R), FnOk Try.prog cx 89 e → FnOk Try.prog cx 89 (f89_2_d (g_f89_2 k) e)) (k : Nat) : JoinOk Try.prog cx 262 2 f89_2_ann (f89_2_j8_d (R := R) g_f89_2 k) f89_2_j8_b :=
  join_ok (keep := kp) (lrc := f89_2_j8_r (R := R) g_f89_2 k) cxOk mixed (f89_2_o_ok g_f89_2 h_f89_2 k) (show f89_2_ann (Am.keyOf f89_2_j8_b + 1000000) = some f89_2_j8_a by kernel_rfl) (L := []) (by kernel_rfl) trivial (J := []) (by kernel_rfl) trivial (LrcNat.no) (fun _x _y _K => by kernel_rfl)
noncomputable def f89_2_j16_b : Code := joinAt f89_2_ann f89_2_b 4
noncomputable def f89_2_j16_g {R : Type} (g_f89_2 : Nat → f89_2_T R) (k : Nat) (x : (Unit × Int × Unit × Unit × Int × Int × Unit × Bool × Unit × Int × Bool × Unit)) (y : ((List Int × Unit × Int × Int × Int × Unit) × List D1 × (Int × Int × Int × Int × Bool × Unit) × List D2 × (Int × ByteArray × Int × Bool × Bool × Unit) × (Int × Int × Int × Bool × Unit) × Unit)) (K : KX R) : Option R := f89_2_j16 g_f89_2 k x.2.1 x.2.2.2.2.1 x.2.2.2.2.2.1 x.2.2.2.2.2.2.2.1 x.2.2.2.2.2.2.2.2.2.1 x.2.2.2.2.2.2.2.2.2.2.1 y.1.1 y.1.2.2.1 y.1.2.2.2.1 y.1.2.2.2.2.1 y.2.1 y.2.2.1.1 y.2.2.1.2.1 y.2.2.1.2.2.1 y.2.2.1.2.2.2.1 y.2.2.1.2.2.2.2.1 y.2.2.2.1 y.2.2.2.2.1.1 y.2.2.2.2.1.2.1 y.2.2.2.2.1.2.2.1 y.2.2.2.2.1.2.2.2.1 y.2.2.2.2.1.2.2.2.2.1 y.2.2.2.2.2.1.1 y.2.2.2.2.2.1.2.1 y.2.2.2.2.2.1.2.2.1 y.2.2.2.2.2.1.2.2.2.1 (fun z0 z1 z2 z3 z4 z5 z6 z7 z8 z9 z10 z11 z12 z13 z14 z15 z16 z17 z18 z19 z20 z21 z22 z23 z24 => K (.normal) [.ptr 0 0, .int .i64 z0, .ptr 65632 0, .own 137439020032, .int .i64 z1, .int .i64 z2, .ptr 458976 0, .bool z3, .ptr 655616 0, .int .i64 z4] [some (.box [.list (.int .u8) z5, .own 137439020033, .int .i64 z6, .int .i64 z7, .int .i64 z8]), some (.row (.named 1) z9 true), some (.box [.int .i64 z10, .int .i64 z11, .int .i64 z12, .int .i64 z13, .bool z14]), some (.row (.named 2) z15 true), some (.box [.int .i64 z16, .str z17, .int .i64 z18, .bool z19, .bool z20]), some (.box [.int .i64 z21, .int .i64 z22, .int .i64 z23, .bool z24])])
noncomputable def f89_2_j16_d {R : Type} (g_f89_2 : Nat → f89_2_T R) (k : Nat) : Lr D R := ldoor [.ptr 0 0, .int .i64, .ptr 65632 0, .own 137439019008, .int .i64, .int .i64, .ptr 458976 0, .bool, .ptr 655616 0, .int .i64, .bool] [some (.box [.list (.int .u8), .own 137439019009, .int .i64, .int .i64, .int .i64]), some (.row (.named 1) true), some (.box [.int .i64, .int .i64, .int .i64, .int .i64, .bool]), some (.row (.named 2) true), some (.box [.int .i64, .str, .int .i64, .bool, .bool]), some (.box [.int .i64, .int .i64, .int .i64, .bool])] (f89_2_j16_g g_f89_2 k)
noncomputable def f89_2_j16_r {R : Type} (_g_f89_2 : Nat → f89_2_T R) (_k : Nat) : Lrc D R := noLrc
theorem f89_2_j16_d_ok {R : Type} (g_f89_2 : Nat → f89_2_T R) (h_f89_2 : ∀ (k : Nat) (e : Dr D R), FnOk Try.prog cx 89 e → FnOk Try.prog cx 89 (f89_2_d (g_f89_2 k) e)) (k : Nat) : JoinOk Try.prog cx 262 2 f89_2_ann (f89_2_j16_d (R := R) g_f89_2 k) f89_2_j16_b :=
  join_ok (keep := kp) (lrc := f89_2_j16_r (R := R) g_f89_2 k) cxOk mixed (f89_2_o_ok g_f89_2 h_f89_2 k) (show f89_2_ann (Am.keyOf f89_2_j16_b + 1000000) = some f89_2_j16_a by kernel_rfl) (L := []) (by kernel_rfl) trivial (J := []) (by kernel_rfl) trivial (LrcNat.no) (fun _x _y _K => by kernel_rfl)
noncomputable def f89_2_j14_b : Code := joinAt f89_2_ann f89_2_b 3
noncomputable def f89_2_j14_g {R : Type} (g_f89_2 : Nat → f89_2_T R) (k : Nat) (x : (Unit × Int × Unit × Unit × Int × Int × Unit × Bool × Unit × Int × Bool × Unit)) (y : ((List Int × Unit × Int × Int × Int × Unit) × List D1 × (Int × Int × Int × Int × Bool × Unit) × List D2 × (Int × ByteArray × Int × Bool × Bool × Unit) × (Int × Int × Int × Bool × Unit) × Unit)) (K : KX R) : Option R := f89_2_j14 g_f89_2 k x.2.1 x.2.2.2.2.1 x.2.2.2.2.2.1 x.2.2.2.2.2.2.2.1 x.2.2.2.2.2.2.2.2.2.1 x.2.2.2.2.2.2.2.2.2.2.1 y.1.1 y.1.2.2.1 y.1.2.2.2.1 y.1.2.2.2.2.1 y.2.1 y.2.2.1.1 y.2.2.1.2.1 y.2.2.1.2.2.1 y.2.2.1.2.2.2.1 y.2.2.1.2.2.2.2.1 y.2.2.2.1 y.2.2.2.2.1.1 y.2.2.2.2.1.2.1 y.2.2.2.2.1.2.2.1 y.2.2.2.2.1.2.2.2.1 y.2.2.2.2.1.2.2.2.2.1 y.2.2.2.2.2.1.1 y.2.2.2.2.2.1.2.1 y.2.2.2.2.2.1.2.2.1 y.2.2.2.2.2.1.2.2.2.1 (fun z0 z1 z2 z3 z4 z5 z6 z7 z8 z9 z10 z11 z12 z13 z14 z15 z16 z17 z18 z19 z20 z21 z22 z23 z24 => K (.normal) [.ptr 0 0, .int .i64 z0, .ptr 65632 0, .own 137439011840, .int .i64 z1, .int .i64 z2, .ptr 458976 0, .bool z3, .ptr 655616 0, .int .i64 z4] [some (.box [.list (.int .u8) z5, .own 137439011841, .int .i64 z6, .int .i64 z7, .int .i64 z8]), some (.row (.named 1) z9 true), some (.box [.int .i64 z10, .int .i64 z11, .int .i64 z12, .int .i64 z13, .bool z14]), some (.row (.named 2) z15 true), some (.box [.int .i64 z16, .str z17, .int .i64 z18, .bool z19, .bool z20]), some (.box [.int .i64 z21, .int .i64 z22, .int .i64 z23, .bool z24])])
noncomputable def f89_2_j14_d {R : Type} (g_f89_2 : Nat → f89_2_T R) (k : Nat) : Lr D R := ldoor [.ptr 0 0, .int .i64, .ptr 65632 0, .own 137439010816, .int .i64, .int .i64, .ptr 458976 0, .bool, .ptr 655616 0, .int .i64, .bool] [some (.box [.list (.int .u8), .own 137439010817, .int .i64, .int .i64, .int .i64]), some (.row (.named 1) true), some (.box [.int .i64, .int .i64, .int .i64, .int .i64, .bool]), some (.row (.named 2) true), some (.box [.int .i64, .str, .int .i64, .bool, .bool]), some (.box [.int .i64, .int .i64, .int .i64, .bool])] (f89_2_j14_g g_f89_2 k)
noncomputable def f89_2_j14_r {R : Type} (g_f89_2 : Nat → f89_2_T R) (k : Nat) : Lrc D R := (lrcAdd 1000016 (f89_2_j16_d g_f89_2 k) noLrc)
theorem f89_2_j14_d_ok {R : Type} (g_f89_2 : Nat → f89_2_T R) (h_f89_2 : ∀ (k : Nat) (e : Dr D R), FnOk Try.prog cx 89 e → FnOk Try.prog cx 89 (f89_2_d (g_f89_2 k) e)) (k : Nat) : JoinOk Try.prog cx 262 2 f89_2_ann (f89_2_j14_d (R := R) g_f89_2 k) f89_2_j14_b :=
  join_ok (keep := kp) (lrc := f89_2_j14_r (R := R) g_f89_2 k) cxOk mixed (f89_2_o_ok g_f89_2 h_f89_2 k) (show f89_2_ann (Am.keyOf f89_2_j14_b + 1000000) = some f89_2_j14_a by kernel_rfl) (L := []) (by kernel_rfl) trivial (J := [f89_2_j16_b]) (by kernel_rfl) (⟨(f89_2_j16_d_ok g_f89_2 h_f89_2 k).use (by kernel_rfl), trivial⟩) ((LrcNat.add (f89_2_j16_d_ok g_f89_2 h_f89_2 k).2 LrcNat.no)) (fun _x _y _K => by kernel_rfl)
noncomputable def f89_2_j33_b : Code := joinAt f89_2_ann f89_2_b 9
noncomputable def f89_2_j33_g {R : Type} (g_f89_2 : Nat → f89_2_T R) (k : Nat) (x : (Unit × Int × Unit × Unit × Int × Unit × Bool × Int × Unit × Unit × Unit)) (y : ((List Int × Unit × Int × Int × Int × Unit) × List D1 × (Int × Int × Int × Int × Bool × Unit) × List D2 × (Int × Int × Int × Bool × Unit) × (Int × Unit × Unit × Bool × Unit) × (Int × Int × Int × Int × Bool × Unit) × Unit)) (K : KX R) : Option R := f89_2_j33 g_f89_2 k x.2.1 x.2.2.2.2.1 x.2.2.2.2.2.2.1 x.2.2.2.2.2.2.2.1 y.1.1 y.1.2.2.1 y.1.2.2.2.1 y.1.2.2.2.2.1 y.2.1 y.2.2.1.1 y.2.2.1.2.1 y.2.2.1.2.2.1 y.2.2.1.2.2.2.1 y.2.2.1.2.2.2.2.1 y.2.2.2.1 y.2.2.2.2.1.1 y.2.2.2.2.1.2.1 y.2.2.2.2.1.2.2.1 y.2.2.2.2.1.2.2.2.1 y.2.2.2.2.2.1.1 y.2.2.2.2.2.1.2.2.2.1 y.2.2.2.2.2.2.1.1 y.2.2.2.2.2.2.1.2.1 y.2.2.2.2.2.2.1.2.2.1 y.2.2.2.2.2.2.1.2.2.2.1 y.2.2.2.2.2.2.1.2.2.2.2.1 (fun z0 z1 z2 z3 z4 z5 z6 z7 z8 z9 z10 z11 z12 z13 z14 z15 z16 z17 z18 z19 z20 z21 z22 => K (.normal) [.ptr 0 0, .int .i64 z0, .ptr 65632 0, .own 137439089664, .int .i64 z1, .ptr 655616 0, .bool z2, .int .i64 z3, .ptr 1835344 0, .int .i64 z4] [some (.box [.list (.int .u8) z5, .own 2231761, .int .i64 z6, .int .i64 z7, .int .i64 z8]), some (.row (.named 1) z9 true), some (.box [.int .i64 z10, .int .i64 z11, .int .i64 z12, .int .i64 z13, .bool z14]), some (.row (.named 2) z15 true), some (.box [.int .i64 z16, .int .i64 z17, .int .i64 z18, .bool z19]), some (.box [.int .i64 z20, .nil, .own 2231760, .bool z21]), some (.row (.named 2) z22 true)])
noncomputable def f89_2_j33_d {R : Type} (g_f89_2 : Nat → f89_2_T R) (k : Nat) : Lr D R := ldoor [.ptr 0 0, .int .i64, .ptr 65632 0, .own 137439088640, .int .i64, .ptr 655616 0, .bool, .int .i64, .ptr 1835344 0, .ptr 2031984 0] [some (.box [.list (.int .u8), .own 1772400, .int .i64, .int .i64, .int .i64]), some (.row (.named 1) true), some (.box [.int .i64, .int .i64, .int .i64, .int .i64, .bool]), some (.row (.named 2) true), some (.box [.int .i64, .int .i64, .int .i64, .bool]), some (.box [.int .i64, .nil, .nil, .bool]), some (.box [.int .i64, .int .i64, .int .i64, .int .i64, .bool])] (f89_2_j33_g g_f89_2 k)
noncomputable def f89_2_j33_r {R : Type} (_g_f89_2 : Nat → f89_2_T R) (_k : Nat) : Lrc D R := noLrc
theorem f89_2_j33_d_ok {R : Type} (g_f89_2 : Nat → f89_2_T R) (h_f89_2 : ∀ (k : Nat) (e : Dr D R), FnOk Try.prog cx 89 e → FnOk Try.prog cx 89 (f89_2_d (g_f89_2 k) e)) (k : Nat) : JoinOk Try.prog cx 262 2 f89_2_ann (f89_2_j33_d (R := R) g_f89_2 k) f89_2_j33_b :=
  join_ok (keep := kp) (lrc := f89_2_j33_r (R := R) g_f89_2 k) cxOk mixed (f89_2_o_ok g_f89_2 h_f89_2 k) (show f89_2_ann (Am.keyOf f89_2_j33_b + 1000000) = some f89_2_j33_a by kernel_rfl) (L := []) (by kernel_rfl) trivial (J := []) (by kernel_rfl) trivial (LrcNat.no) (fun _x _y _K => by kernel_rfl)
noncomputable def f89_2_j30_b : Code := joinAt f89_2_ann f89_2_b 8
noncomputable def f89_2_j30_g {R : Type} (g_f89_2 : Nat → f89_2_T R) (k : Nat) (x : (Unit × Int × Unit × Unit × Int × Int × Unit × Int × Bool × Int × Unit × Int × Bool × Unit)) (y : ((List Int × Unit × Int × Int × Int × Unit) × List D1 × (Int × Int × Int × Int × Bool × Unit) × List D2 × (Int × Int × Int × Bool × Unit) × (Int × Unit × Unit × Bool × Unit) × Unit)) (K : KX R) : Option R := f89_2_j30 g_f89_2 k x.2.1 x.2.2.2.2.1 x.2.2.2.2.2.1 x.2.2.2.2.2.2.2.1 x.2.2.2.2.2.2.2.2.1 x.2.2.2.2.2.2.2.2.2.1 x.2.2.2.2.2.2.2.2.2.2.2.1 x.2.2.2.2.2.2.2.2.2.2.2.2.1 y.1.1 y.1.2.2.1 y.1.2.2.2.1 y.1.2.2.2.2.1 y.2.1 y.2.2.1.1 y.2.2.1.2.1 y.2.2.1.2.2.1 y.2.2.1.2.2.2.1 y.2.2.1.2.2.2.2.1 y.2.2.2.1 y.2.2.2.2.1.1 y.2.2.2.2.1.2.1 y.2.2.2.2.1.2.2.1 y.2.2.2.2.1.2.2.2.1 y.2.2.2.2.2.1.1 y.2.2.2.2.2.1.2.2.2.1 (fun z0 z1 z2 z3 z4 z5 z6 z7 z8 z9 z10 z11 z12 z13 z14 z15 z16 z17 z18 z19 z20 z21 z22 z23 => K (.normal) [.ptr 0 0, .int .i64 z0, .ptr 65632 0, .own 137439077379, .int .i64 z1, .ptr 655616 0, .bool z2, .int .i64 z3, .ptr 1835344 0, .int .i64 z4] [some (.box [.list (.int .u8) z5, .own 137439077376, .int .i64 z6, .int .i64 z7, .int .i64 z8]), some (.row (.named 1) z9 true), some (.box [.int .i64 z10, .int .i64 z11, .int .i64 z12, .int .i64 z13, .bool z14]), some (.row (.named 2) z15 true), some (.box [.int .i64 z16, .int .i64 z17, .int .i64 z18, .bool z19]), some (.box [.int .i64 z20, .own 137439077377, .own 137439077378, .bool z21]), some (.row (.int .u8) z22 true), some (.row (.named 2) z23 true)])
noncomputable def f89_2_j30_d {R : Type} (g_f89_2 : Nat → f89_2_T R) (k : Nat) : Lr D R := ldoor [.ptr 0 0, .int .i64, .ptr 65632 0, .own 137439076352, .int .i64, .int .i64, .ptr 655616 0, .int .i64, .bool, .int .i64, .ptr 1835344 0, .int .i64, .bool] [some (.box [.list (.int .u8), .own 1772400, .int .i64, .int .i64, .int .i64]), some (.row (.named 1) true), some (.box [.int .i64, .int .i64, .int .i64, .int .i64, .bool]), some (.row (.named 2) true), some (.box [.int .i64, .int .i64, .int .i64, .bool]), some (.box [.int .i64, .nil, .nil, .bool])] (f89_2_j30_g g_f89_2 k)
noncomputable def f89_2_j30_r {R : Type} (g_f89_2 : Nat → f89_2_T R) (k : Nat) : Lrc D R := (lrcAdd 1000033 (f89_2_j33_d g_f89_2 k) noLrc)
theorem f89_2_j30_d_ok {R : Type} (g_f89_2 : Nat → f89_2_T R) (h_f89_2 : ∀ (k : Nat) (e : Dr D R), FnOk Try.prog cx 89 e → FnOk Try.prog cx 89 (f89_2_d (g_f89_2 k) e)) (k : Nat) : JoinOk Try.prog cx 262 2 f89_2_ann (f89_2_j30_d (R := R) g_f89_2 k) f89_2_j30_b :=
  join_ok (keep := kp) (lrc := f89_2_j30_r (R := R) g_f89_2 k) cxOk mixed (f89_2_o_ok g_f89_2 h_f89_2 k) (show f89_2_ann (Am.keyOf f89_2_j30_b + 1000000) = some f89_2_j30_a by kernel_rfl) (L := []) (by kernel_rfl) trivial (J := [f89_2_j33_b]) (by kernel_rfl) (⟨(f89_2_j33_d_ok g_f89_2 h_f89_2 k).use (by kernel_rfl), trivial⟩) ((LrcNat.add (f89_2_j33_d_ok g_f89_2 h_f89_2 k).2 LrcNat.no)) (fun _x _y _K => by kernel_rfl)
noncomputable def f89_2_j35_b : Code := joinAt f89_2_ann f89_2_b 10
noncomputable def f89_2_j35_g {R : Type} (g_f89_2 : Nat → f89_2_T R) (k : Nat) (x : (Unit × Int × Unit × Unit × Int × Unit × Bool × Int × Unit × Int × Unit)) (y : ((List Int × Unit × Int × Int × Int × Unit) × List D1 × (Int × Int × Int × Int × Bool × Unit) × List D2 × (Int × Int × Int × Bool × Unit) × (Int × Unit × Unit × Bool × Unit) × List Int × List D2 × Unit)) (K : KX R) : Option R := f89_2_j35 g_f89_2 k x.2.1 x.2.2.2.2.1 x.2.2.2.2.2.2.1 x.2.2.2.2.2.2.2.1 x.2.2.2.2.2.2.2.2.2.1 y.1.1 y.1.2.2.1 y.1.2.2.2.1 y.1.2.2.2.2.1 y.2.1 y.2.2.1.1 y.2.2.1.2.1 y.2.2.1.2.2.1 y.2.2.1.2.2.2.1 y.2.2.1.2.2.2.2.1 y.2.2.2.1 y.2.2.2.2.1.1 y.2.2.2.2.1.2.1 y.2.2.2.2.1.2.2.1 y.2.2.2.2.1.2.2.2.1 y.2.2.2.2.2.1.1 y.2.2.2.2.2.1.2.2.2.1 y.2.2.2.2.2.2.1 y.2.2.2.2.2.2.2.1 (fun z0 z1 z2 z3 z4 z5 z6 => K (.exit 0) [.int .i64 z0, .own 137439097856] [some (.row (.named 2) z1 true), some (.box [.list (.int .u8) z2, .own 137439077376, .int .i64 z3, .int .i64 z4, .int .i64 z5]), some (.row (.named 1) z6 true)]) (fun z0 z1 z2 z3 z4 z5 z6 z7 z8 z9 z10 z11 z12 => K (.normal) [.ptr 0 0, .int .i64 z0, .ptr 65632 0, .own 137439098880, .int .i64 z1] [some (.box [.list (.int .u8) z2, .own 137439077376, .int .i64 z3, .int .i64 z4, .int .i64 z5]), some (.row (.named 1) z6 true), some (.box [.int .i64 z7, .int .i64 z8, .int .i64 z9, .int .i64 z10, .bool z11]), some (.row (.named 2) z12 true)])
noncomputable def f89_2_j35_d {R : Type} (g_f89_2 : Nat → f89_2_T R) (k : Nat) : Lr D R := ldoor [.ptr 0 0, .int .i64, .ptr 65632 0, .own 137439096832, .int .i64, .ptr 655616 0, .bool, .int .i64, .ptr 1835344 0, .int .i64] [some (.box [.list (.int .u8), .own 137439077376, .int .i64, .int .i64, .int .i64]), some (.row (.named 1) true), some (.box [.int .i64, .int .i64, .int .i64, .int .i64, .bool]), some (.row (.named 2) true), some (.box [.int .i64, .int .i64, .int .i64, .bool]), some (.box [.int .i64, .own 137439077377, .own 137439077378, .bool]), some (.row (.int .u8) true), some (.row (.named 2) true)] (f89_2_j35_g g_f89_2 k)
noncomputable def f89_2_j35_r {R : Type} (_g_f89_2 : Nat → f89_2_T R) (_k : Nat) : Lrc D R := noLrc
theorem f89_2_j35_d_ok {R : Type} (g_f89_2 : Nat → f89_2_T R) (h_f89_2 : ∀ (k : Nat) (e : Dr D R), FnOk Try.prog cx 89 e → FnOk Try.prog cx 89 (f89_2_d (g_f89_2 k) e)) (k : Nat) : JoinOk Try.prog cx 262 2 f89_2_ann (f89_2_j35_d (R := R) g_f89_2 k) f89_2_j35_b :=
  join_ok (keep := kp) (lrc := f89_2_j35_r (R := R) g_f89_2 k) cxOk mixed (f89_2_o_ok g_f89_2 h_f89_2 k) (show f89_2_ann (Am.keyOf f89_2_j35_b + 1000000) = some f89_2_j35_a by kernel_rfl) (L := []) (by kernel_rfl) trivial (J := []) (by kernel_rfl) trivial (LrcNat.no) (fun _x _y _K => by kernel_rfl)
noncomputable def f89_2_j24_b : Code := joinAt f89_2_ann f89_2_b 7
noncomputable def f89_2_j24_g {R : Type} (g_f89_2 : Nat → f89_2_T R) (k : Nat) (x : (Unit × Int × Unit × Unit × Int × Int × Unit × Unit × Int × Bool × Unit)) (y : ((List Int × Unit × Int × Int × Int × Unit) × List D1 × (Int × Int × Int × Int × Bool × Unit) × List D2 × (Int × ByteArray × Int × Bool × Bool × Unit) × (Int × Int × Int × Bool × Unit) × Unit)) (K : KX R) : Option R := f89_2_j24 g_f89_2 k x.2.1 x.2.2.2.2.1 x.2.2.2.2.2.1 x.2.2.2.2.2.2.2.2.1 x.2.2.2.2.2.2.2.2.2.1 y.1.1 y.1.2.2.1 y.1.2.2.2.1 y.1.2.2.2.2.1 y.2.1 y.2.2.1.1 y.2.2.1.2.1 y.2.2.1.2.2.1 y.2.2.1.2.2.2.1 y.2.2.1.2.2.2.2.1 y.2.2.2.1 y.2.2.2.2.1.1 y.2.2.2.2.1.2.1 y.2.2.2.2.1.2.2.1 y.2.2.2.2.1.2.2.2.1 y.2.2.2.2.1.2.2.2.2.1 y.2.2.2.2.2.1.1 y.2.2.2.2.2.1.2.1 y.2.2.2.2.2.1.2.2.1 y.2.2.2.2.2.1.2.2.2.1 (fun z0 z1 z2 z3 z4 z5 z6 => K (.exit 0) [.int .i64 z0, .own 137439052802] [some (.row (.named 2) z1 true), some (.box [.list (.int .u8) z2, .own 137439052800, .int .i64 z3, .int .i64 z4, .int .i64 z5]), some (.row (.named 1) z6 true)]) (fun z0 z1 z2 z3 z4 z5 z6 z7 z8 z9 z10 z11 z12 => K (.normal) [.ptr 0 0, .int .i64 z0, .ptr 65632 0, .own 137439098880, .int .i64 z1] [some (.box [.list (.int .u8) z2, .own 137439077376, .int .i64 z3, .int .i64 z4, .int .i64 z5]), some (.row (.named 1) z6 true), some (.box [.int .i64 z7, .int .i64 z8, .int .i64 z9, .int .i64 z10, .bool z11]), some (.row (.named 2) z12 true)])
noncomputable def f89_2_j24_d {R : Type} (g_f89_2 : Nat → f89_2_T R) (k : Nat) : Lr D R := ldoor [.ptr 0 0, .int .i64, .ptr 65632 0, .own 137439051776, .int .i64, .int .i64, .ptr 458976 0, .ptr 655616 0, .int .i64, .bool] [some (.box [.list (.int .u8), .own 137439051777, .int .i64, .int .i64, .int .i64]), some (.row (.named 1) true), some (.box [.int .i64, .int .i64, .int .i64, .int .i64, .bool]), some (.row (.named 2) true), some (.box [.int .i64, .str, .int .i64, .bool, .bool]), some (.box [.int .i64, .int .i64, .int .i64, .bool])] (f89_2_j24_g g_f89_2 k)
noncomputable def f89_2_j24_r {R : Type} (g_f89_2 : Nat → f89_2_T R) (k : Nat) : Lrc D R := (lrcAdd 1000035 (f89_2_j35_d g_f89_2 k) (lrcAdd 1000033 (f89_2_j33_d g_f89_2 k) (lrcAdd 1000030 (f89_2_j30_d g_f89_2 k) noLrc)))
theorem f89_2_j24_d_ok {R : Type} (g_f89_2 : Nat → f89_2_T R) (h_f89_2 : ∀ (k : Nat) (e : Dr D R), FnOk Try.prog cx 89 e → FnOk Try.prog cx 89 (f89_2_d (g_f89_2 k) e)) (k : Nat) : JoinOk Try.prog cx 262 2 f89_2_ann (f89_2_j24_d (R := R) g_f89_2 k) f89_2_j24_b :=
  join_ok (keep := kp) (lrc := f89_2_j24_r (R := R) g_f89_2 k) cxOk mixed (f89_2_o_ok g_f89_2 h_f89_2 k) (show f89_2_ann (Am.keyOf f89_2_j24_b + 1000000) = some f89_2_j24_a by kernel_rfl) (L := []) (by kernel_rfl) trivial (J := [f89_2_j30_b, f89_2_j33_b, f89_2_j35_b]) (by kernel_rfl) (⟨(f89_2_j30_d_ok g_f89_2 h_f89_2 k).use (by kernel_rfl), (f89_2_j33_d_ok g_f89_2 h_f89_2 k).use (by kernel_rfl), (f89_2_j35_d_ok g_f89_2 h_f89_2 k).use (by kernel_rfl), trivial⟩) ((LrcNat.add (f89_2_j35_d_ok g_f89_2 h_f89_2 k).2 (LrcNat.add (f89_2_j33_d_ok g_f89_2 h_f89_2 k).2 (LrcNat.add (f89_2_j30_d_ok g_f89_2 h_f89_2 k).2 LrcNat.no)))) (fun _x _y _K => by kernel_rfl)
noncomputable def f89_2_j20_b : Code := joinAt f89_2_ann f89_2_b 6
noncomputable def f89_2_j20_g {R : Type} (g_f89_2 : Nat → f89_2_T R) (k : Nat) (x : (Unit × Int × Unit × Unit × Int × Int × Unit × Unit × Int × Bool × Unit)) (y : ((List Int × Unit × Int × Int × Int × Unit) × List D1 × (Int × Int × Int × Int × Bool × Unit) × List D2 × (Int × ByteArray × Int × Bool × Bool × Unit) × (Int × Int × Int × Bool × Unit) × Unit)) (K : KX R) : Option R := f89_2_j20 g_f89_2 k x.2.1 x.2.2.2.2.1 x.2.2.2.2.2.1 x.2.2.2.2.2.2.2.2.1 x.2.2.2.2.2.2.2.2.2.1 y.1.1 y.1.2.2.1 y.1.2.2.2.1 y.1.2.2.2.2.1 y.2.1 y.2.2.1.1 y.2.2.1.2.1 y.2.2.1.2.2.1 y.2.2.1.2.2.2.1 y.2.2.1.2.2.2.2.1 y.2.2.2.1 y.2.2.2.2.1.1 y.2.2.2.2.1.2.1 y.2.2.2.2.1.2.2.1 y.2.2.2.2.1.2.2.2.1 y.2.2.2.2.1.2.2.2.2.1 y.2.2.2.2.2.1.1 y.2.2.2.2.2.1.2.1 y.2.2.2.2.2.1.2.2.1 y.2.2.2.2.2.1.2.2.2.1 (fun z0 z1 z2 z3 z4 z5 z6 => K (.exit 0) [.int .i64 z0, .own 137439036416] [some (.row (.named 2) z1 true), some (.box [.list (.int .u8) z2, .own 137439052800, .int .i64 z3, .int .i64 z4, .int .i64 z5]), some (.row (.named 1) z6 true)]) (fun z0 z1 z2 z3 z4 z5 z6 z7 z8 z9 z10 z11 z12 => K (.normal) [.ptr 0 0, .int .i64 z0, .ptr 65632 0, .own 137439098880, .int .i64 z1] [some (.box [.list (.int .u8) z2, .own 137439077376, .int .i64 z3, .int .i64 z4, .int .i64 z5]), some (.row (.named 1) z6 true), some (.box [.int .i64 z7, .int .i64 z8, .int .i64 z9, .int .i64 z10, .bool z11]), some (.row (.named 2) z12 true)])
noncomputable def f89_2_j20_d {R : Type} (g_f89_2 : Nat → f89_2_T R) (k : Nat) : Lr D R := ldoor [.ptr 0 0, .int .i64, .ptr 65632 0, .own 137439035392, .int .i64, .int .i64, .ptr 458976 0, .ptr 655616 0, .int .i64, .bool] [some (.box [.list (.int .u8), .own 137439035393, .int .i64, .int .i64, .int .i64]), some (.row (.named 1) true), some (.box [.int .i64, .int .i64, .int .i64, .int .i64, .bool]), some (.row (.named 2) true), some (.box [.int .i64, .str, .int .i64, .bool, .bool]), some (.box [.int .i64, .int .i64, .int .i64, .bool])] (f89_2_j20_g g_f89_2 k)
noncomputable def f89_2_j20_r {R : Type} (g_f89_2 : Nat → f89_2_T R) (k : Nat) : Lrc D R := (lrcAdd 1000035 (f89_2_j35_d g_f89_2 k) (lrcAdd 1000033 (f89_2_j33_d g_f89_2 k) (lrcAdd 1000030 (f89_2_j30_d g_f89_2 k) (lrcAdd 1000024 (f89_2_j24_d g_f89_2 k) noLrc))))
theorem f89_2_j20_d_ok {R : Type} (g_f89_2 : Nat → f89_2_T R) (h_f89_2 : ∀ (k : Nat) (e : Dr D R), FnOk Try.prog cx 89 e → FnOk Try.prog cx 89 (f89_2_d (g_f89_2 k) e)) (k : Nat) : JoinOk Try.prog cx 262 2 f89_2_ann (f89_2_j20_d (R := R) g_f89_2 k) f89_2_j20_b :=
  join_ok (keep := kp) (lrc := f89_2_j20_r (R := R) g_f89_2 k) cxOk mixed (f89_2_o_ok g_f89_2 h_f89_2 k) (show f89_2_ann (Am.keyOf f89_2_j20_b + 1000000) = some f89_2_j20_a by kernel_rfl) (L := []) (by kernel_rfl) trivial (J := [f89_2_j24_b, f89_2_j30_b, f89_2_j33_b, f89_2_j35_b]) (by kernel_rfl) (⟨(f89_2_j24_d_ok g_f89_2 h_f89_2 k).use (by kernel_rfl), (f89_2_j30_d_ok g_f89_2 h_f89_2 k).use (by kernel_rfl), (f89_2_j33_d_ok g_f89_2 h_f89_2 k).use (by kernel_rfl), (f89_2_j35_d_ok g_f89_2 h_f89_2 k).use (by kernel_rfl), trivial⟩) ((LrcNat.add (f89_2_j35_d_ok g_f89_2 h_f89_2 k).2 (LrcNat.add (f89_2_j33_d_ok g_f89_2 h_f89_2 k).2 (LrcNat.add (f89_2_j30_d_ok g_f89_2 h_f89_2 k).2 (LrcNat.add (f89_2_j24_d_ok g_f89_2 h_f89_2 k).2 LrcNat.no))))) (fun _x _y _K => by kernel_rfl)
noncomputable def f89_2_j19_b : Code := joinAt f89_2_ann f89_2_b 5
noncomputable def f89_2_j19_g {R : Type} (g_f89_2 : Nat → f89_2_T R) (k : Nat) (x : (Unit × Int × Unit × Unit × Int × Int × Unit × Bool × Unit × Int × Unit)) (y : ((List Int × Unit × Int × Int × Int × Unit) × List D1 × (Int × Int × Int × Int × Bool × Unit) × List D2 × (Int × ByteArray × Int × Bool × Bool × Unit) × (Int × Int × Int × Bool × Unit) × Unit)) (K : KX R) : Option R := f89_2_j19 g_f89_2 k x.2.1 x.2.2.2.2.1 x.2.2.2.2.2.1 x.2.2.2.2.2.2.2.1 x.2.2.2.2.2.2.2.2.2.1 y.1.1 y.1.2.2.1 y.1.2.2.2.1 y.1.2.2.2.2.1 y.2.1 y.2.2.1.1 y.2.2.1.2.1 y.2.2.1.2.2.1 y.2.2.1.2.2.2.1 y.2.2.1.2.2.2.2.1 y.2.2.2.1 y.2.2.2.2.1.1 y.2.2.2.2.1.2.1 y.2.2.2.2.1.2.2.1 y.2.2.2.2.1.2.2.2.1 y.2.2.2.2.1.2.2.2.2.1 y.2.2.2.2.2.1.1 y.2.2.2.2.2.1.2.1 y.2.2.2.2.2.1.2.2.1 y.2.2.2.2.2.1.2.2.2.1 (fun z0 z1 z2 z3 z4 z5 z6 => K (.exit 0) [.int .i64 z0, .own 137439032320] [some (.row (.named 2) z1 true), some (.box [.list (.int .u8) z2, .own 137439052800, .int .i64 z3, .int .i64 z4, .int .i64 z5]), some (.row (.named 1) z6 true)]) (fun z0 z1 z2 z3 z4 z5 z6 z7 z8 z9 z10 z11 z12 => K (.normal) [.ptr 0 0, .int .i64 z0, .ptr 65632 0, .own 137439098880, .int .i64 z1] [some (.box [.list (.int .u8) z2, .own 137439077376, .int .i64 z3, .int .i64 z4, .int .i64 z5]), some (.row (.named 1) z6 true), some (.box [.int .i64 z7, .int .i64 z8, .int .i64 z9, .int .i64 z10, .bool z11]), some (.row (.named 2) z12 true)])
noncomputable def f89_2_j19_d {R : Type} (g_f89_2 : Nat → f89_2_T R) (k : Nat) : Lr D R := ldoor [.ptr 0 0, .int .i64, .ptr 65632 0, .own 137439031296, .int .i64, .int .i64, .ptr 458976 0, .bool, .ptr 655616 0, .int .i64] [some (.box [.list (.int .u8), .own 137439031297, .int .i64, .int .i64, .int .i64]), some (.row (.named 1) true), some (.box [.int .i64, .int .i64, .int .i64, .int .i64, .bool]), some (.row (.named 2) true), some (.box [.int .i64, .str, .int .i64, .bool, .bool]), some (.box [.int .i64, .int .i64, .int .i64, .bool])] (f89_2_j19_g g_f89_2 k)
noncomputable def f89_2_j19_r {R : Type} (g_f89_2 : Nat → f89_2_T R) (k : Nat) : Lrc D R := (lrcAdd 1000035 (f89_2_j35_d g_f89_2 k) (lrcAdd 1000033 (f89_2_j33_d g_f89_2 k) (lrcAdd 1000030 (f89_2_j30_d g_f89_2 k) (lrcAdd 1000024 (f89_2_j24_d g_f89_2 k) (lrcAdd 1000020 (f89_2_j20_d g_f89_2 k) noLrc)))))
theorem f89_2_j19_d_ok {R : Type} (g_f89_2 : Nat → f89_2_T R) (h_f89_2 : ∀ (k : Nat) (e : Dr D R), FnOk Try.prog cx 89 e → FnOk Try.prog cx 89 (f89_2_d (g_f89_2 k) e)) (k : Nat) : JoinOk Try.prog cx 262 2 f89_2_ann (f89_2_j19_d (R := R) g_f89_2 k) f89_2_j19_b :=
  join_ok (keep := kp) (lrc := f89_2_j19_r (R := R) g_f89_2 k) cxOk mixed (f89_2_o_ok g_f89_2 h_f89_2 k) (show f89_2_ann (Am.keyOf f89_2_j19_b + 1000000) = some f89_2_j19_a by kernel_rfl) (L := []) (by kernel_rfl) trivial (J := [f89_2_j20_b, f89_2_j24_b, f89_2_j30_b, f89_2_j33_b, f89_2_j35_b]) (by kernel_rfl) (⟨(f89_2_j20_d_ok g_f89_2 h_f89_2 k).use (by kernel_rfl), (f89_2_j24_d_ok g_f89_2 h_f89_2 k).use (by kernel_rfl), (f89_2_j30_d_ok g_f89_2 h_f89_2 k).use (by kernel_rfl), (f89_2_j33_d_ok g_f89_2 h_f89_2 k).use (by kernel_rfl), (f89_2_j35_d_ok g_f89_2 h_f89_2 k).use (by kernel_rfl), trivial⟩) ((LrcNat.add (f89_2_j35_d_ok g_f89_2 h_f89_2 k).2 (LrcNat.add (f89_2_j33_d_ok g_f89_2 h_f89_2 k).2 (LrcNat.add (f89_2_j30_d_ok g_f89_2 h_f89_2 k).2 (LrcNat.add (f89_2_j24_d_ok g_f89_2 h_f89_2 k).2 (LrcNat.add (f89_2_j20_d_ok g_f89_2 h_f89_2 k).2 LrcNat.no)))))) (fun _x _y _K => by kernel_rfl)
noncomputable def f89_2_j9_b : Code := joinAt f89_2_ann f89_2_b 2
noncomputable def f89_2_j9_g {R : Type} (g_f89_2 : Nat → f89_2_T R) (k : Nat) (x : (Unit × Int × Unit × Unit × Int × Int × Unit × Bool × Unit)) (y : ((List Int × Unit × Int × Int × Int × Unit) × List D1 × (Int × Int × Int × Int × Bool × Unit) × List D2 × (Int × ByteArray × Int × Bool × Bool × Unit) × Unit)) (K : KX R) : Option R := f89_2_j9 g_f89_2 k x.2.1 x.2.2.2.2.1 x.2.2.2.2.2.1 x.2.2.2.2.2.2.2.1 y.1.1 y.1.2.2.1 y.1.2.2.2.1 y.1.2.2.2.2.1 y.2.1 y.2.2.1.1 y.2.2.1.2.1 y.2.2.1.2.2.1 y.2.2.1.2.2.2.1 y.2.2.1.2.2.2.2.1 y.2.2.2.1 y.2.2.2.2.1.1 y.2.2.2.2.1.2.1 y.2.2.2.2.1.2.2.1 y.2.2.2.2.1.2.2.2.1 y.2.2.2.2.1.2.2.2.2.1 (fun z0 z1 z2 z3 z4 z5 z6 => K (.exit 0) [.int .i64 z0, .own 137438991362] [some (.row (.named 2) z1 true), some (.box [.list (.int .u8) z2, .own 137438991360, .int .i64 z3, .int .i64 z4, .int .i64 z5]), some (.row (.named 1) z6 true)]) (fun z0 z1 z2 z3 z4 z5 z6 z7 z8 z9 z10 z11 z12 => K (.normal) [.ptr 0 0, .int .i64 z0, .ptr 65632 0, .own 137439098880, .int .i64 z1] [some (.box [.list (.int .u8) z2, .own 137439077376, .int .i64 z3, .int .i64 z4, .int .i64 z5]), some (.row (.named 1) z6 true), some (.box [.int .i64 z7, .int .i64 z8, .int .i64 z9, .int .i64 z10, .bool z11]), some (.row (.named 2) z12 true)])
noncomputable def f89_2_j9_d {R : Type} (g_f89_2 : Nat → f89_2_T R) (k : Nat) : Lr D R := ldoor [.ptr 0 0, .int .i64, .ptr 65632 0, .own 137438990336, .int .i64, .int .i64, .ptr 458976 0, .bool] [some (.box [.list (.int .u8), .own 137438990337, .int .i64, .int .i64, .int .i64]), some (.row (.named 1) true), some (.box [.int .i64, .int .i64, .int .i64, .int .i64, .bool]), some (.row (.named 2) true), some (.box [.int .i64, .str, .int .i64, .bool, .bool])] (f89_2_j9_g g_f89_2 k)
noncomputable def f89_2_j9_r {R : Type} (g_f89_2 : Nat → f89_2_T R) (k : Nat) : Lrc D R := (lrcAdd 1000035 (f89_2_j35_d g_f89_2 k) (lrcAdd 1000033 (f89_2_j33_d g_f89_2 k) (lrcAdd 1000030 (f89_2_j30_d g_f89_2 k) (lrcAdd 1000024 (f89_2_j24_d g_f89_2 k) (lrcAdd 1000020 (f89_2_j20_d g_f89_2 k) (lrcAdd 1000019 (f89_2_j19_d g_f89_2 k) (lrcAdd 1000016 (f89_2_j16_d g_f89_2 k) (lrcAdd 1000014 (f89_2_j14_d g_f89_2 k) noLrc))))))))
theorem f89_2_j9_d_ok {R : Type} (g_f89_2 : Nat → f89_2_T R) (h_f89_2 : ∀ (k : Nat) (e : Dr D R), FnOk Try.prog cx 89 e → FnOk Try.prog cx 89 (f89_2_d (g_f89_2 k) e)) (k : Nat) : JoinOk Try.prog cx 262 2 f89_2_ann (f89_2_j9_d (R := R) g_f89_2 k) f89_2_j9_b :=
  join_ok (keep := kp) (lrc := f89_2_j9_r (R := R) g_f89_2 k) cxOk mixed (f89_2_o_ok g_f89_2 h_f89_2 k) (show f89_2_ann (Am.keyOf f89_2_j9_b + 1000000) = some f89_2_j9_a by kernel_rfl) (L := []) (by kernel_rfl) trivial (J := [f89_2_j14_b, f89_2_j16_b, f89_2_j19_b, f89_2_j20_b, f89_2_j24_b, f89_2_j30_b, f89_2_j33_b, f89_2_j35_b]) (by kernel_rfl) (⟨(f89_2_j14_d_ok g_f89_2 h_f89_2 k).use (by kernel_rfl), (f89_2_j16_d_ok g_f89_2 h_f89_2 k).use (by kernel_rfl), (f89_2_j19_d_ok g_f89_2 h_f89_2 k).use (by kernel_rfl), (f89_2_j20_d_ok g_f89_2 h_f89_2 k).use (by kernel_rfl), (f89_2_j24_d_ok g_f89_2 h_f89_2 k).use (by kernel_rfl), (f89_2_j30_d_ok g_f89_2 h_f89_2 k).use (by kernel_rfl), (f89_2_j33_d_ok g_f89_2 h_f89_2 k).use (by kernel_rfl), (f89_2_j35_d_ok g_f89_2 h_f89_2 k).use (by kernel_rfl), trivial⟩) ((LrcNat.add (f89_2_j35_d_ok g_f89_2 h_f89_2 k).2 (LrcNat.add (f89_2_j33_d_ok g_f89_2 h_f89_2 k).2 (LrcNat.add (f89_2_j30_d_ok g_f89_2 h_f89_2 k).2 (LrcNat.add (f89_2_j24_d_ok g_f89_2 h_f89_2 k).2 (LrcNat.add (f89_2_j20_d_ok g_f89_2 h_f89_2 k).2 (LrcNat.add (f89_2_j19_d_ok g_f89_2 h_f89_2 k).2 (LrcNat.add (f89_2_j16_d_ok g_f89_2 h_f89_2 k).2 (LrcNat.add (f89_2_j14_d_ok g_f89_2 h_f89_2 k).2 LrcNat.no))))))))) (fun _x _y _K => by kernel_rfl)
noncomputable def f89_2_j5_b : Code := joinAt f89_2_ann f89_2_b 0
noncomputable def f89_2_j5_g {R : Type} (g_f89_2 : Nat → f89_2_T R) (k : Nat) (x : (Unit × Int × Unit × Unit × Int × Unit)) (y : ((List Int × Unit × Int × Int × Int × Unit) × List D1 × (Int × Int × Int × Int × Bool × Unit) × List D2 × Unit)) (K : KX R) : Option R := f89_2_j5 g_f89_2 k x.2.1 x.2.2.2.2.1 y.1.1 y.1.2.2.1 y.1.2.2.2.1 y.1.2.2.2.2.1 y.2.1 y.2.2.1.1 y.2.2.1.2.1 y.2.2.1.2.2.1 y.2.2.1.2.2.2.1 y.2.2.1.2.2.2.2.1 y.2.2.2.1 (fun z0 z1 z2 z3 z4 z5 z6 => K (.exit 0) [.int .i64 z0, .own 137438974976] [some (.row (.named 2) z1 true), some (.box [.list (.int .u8) z2, .own 137438991360, .int .i64 z3, .int .i64 z4, .int .i64 z5]), some (.row (.named 1) z6 true)]) (fun z0 z1 z2 z3 z4 z5 z6 z7 z8 z9 z10 z11 z12 => K (.normal) [.ptr 0 0, .int .i64 z0, .ptr 65632 0, .own 137439098880, .int .i64 z1] [some (.box [.list (.int .u8) z2, .own 137439077376, .int .i64 z3, .int .i64 z4, .int .i64 z5]), some (.row (.named 1) z6 true), some (.box [.int .i64 z7, .int .i64 z8, .int .i64 z9, .int .i64 z10, .bool z11]), some (.row (.named 2) z12 true)]) (fun z0 z1 z2 z3 z4 z5 z6 => K (.ret) [.own 137438977024, .int .i64 z0] [some (.row (.named 2) z1 true), some (.box [.list (.int .u8) z2, .own 137438977025, .int .i64 z3, .int .i64 z4, .int .i64 z5]), some (.row (.named 1) z6 true)])
noncomputable def f89_2_j5_d {R : Type} (g_f89_2 : Nat → f89_2_T R) (k : Nat) : Lr D R := ldoor [.ptr 0 0, .int .i64, .ptr 65632 0, .own 137438973952, .int .i64] [some (.box [.list (.int .u8), .own 137438973953, .int .i64, .int .i64, .int .i64]), some (.row (.named 1) true), some (.box [.int .i64, .int .i64, .int .i64, .int .i64, .bool]), some (.row (.named 2) true)] (f89_2_j5_g g_f89_2 k)
noncomputable def f89_2_j5_r {R : Type} (g_f89_2 : Nat → f89_2_T R) (k : Nat) : Lrc D R := (lrcAdd 1000035 (f89_2_j35_d g_f89_2 k) (lrcAdd 1000033 (f89_2_j33_d g_f89_2 k) (lrcAdd 1000030 (f89_2_j30_d g_f89_2 k) (lrcAdd 1000024 (f89_2_j24_d g_f89_2 k) (lrcAdd 1000020 (f89_2_j20_d g_f89_2 k) (lrcAdd 1000019 (f89_2_j19_d g_f89_2 k) (lrcAdd 1000016 (f89_2_j16_d g_f89_2 k) (lrcAdd 1000014 (f89_2_j14_d g_f89_2 k) (lrcAdd 1000009 (f89_2_j9_d g_f89_2 k) (lrcAdd 1000008 (f89_2_j8_d g_f89_2 k) noLrc))))))))))
theorem f89_2_j5_d_ok {R : Type} (g_f89_2 : Nat → f89_2_T R) (h_f89_2 : ∀ (k : Nat) (e : Dr D R), FnOk Try.prog cx 89 e → FnOk Try.prog cx 89 (f89_2_d (g_f89_2 k) e)) (k : Nat) : JoinOk Try.prog cx 262 2 f89_2_ann (f89_2_j5_d (R := R) g_f89_2 k) f89_2_j5_b :=
  join_ok (keep := kp) (lrc := f89_2_j5_r (R := R) g_f89_2 k) cxOk mixed (f89_2_o_ok g_f89_2 h_f89_2 k) (show f89_2_ann (Am.keyOf f89_2_j5_b + 1000000) = some f89_2_j5_a by kernel_rfl) (L := []) (by kernel_rfl) trivial (J := [f89_2_j8_b, f89_2_j9_b, f89_2_j14_b, f89_2_j16_b, f89_2_j19_b, f89_2_j20_b, f89_2_j24_b, f89_2_j30_b, f89_2_j33_b, f89_2_j35_b]) (by kernel_rfl) (⟨(f89_2_j8_d_ok g_f89_2 h_f89_2 k).use (by kernel_rfl), (f89_2_j9_d_ok g_f89_2 h_f89_2 k).use (by kernel_rfl), (f89_2_j14_d_ok g_f89_2 h_f89_2 k).use (by kernel_rfl), (f89_2_j16_d_ok g_f89_2 h_f89_2 k).use (by kernel_rfl), (f89_2_j19_d_ok g_f89_2 h_f89_2 k).use (by kernel_rfl), (f89_2_j20_d_ok g_f89_2 h_f89_2 k).use (by kernel_rfl), (f89_2_j24_d_ok g_f89_2 h_f89_2 k).use (by kernel_rfl), (f89_2_j30_d_ok g_f89_2 h_f89_2 k).use (by kernel_rfl), (f89_2_j33_d_ok g_f89_2 h_f89_2 k).use (by kernel_rfl), (f89_2_j35_d_ok g_f89_2 h_f89_2 k).use (by kernel_rfl), trivial⟩) ((LrcNat.add (f89_2_j35_d_ok g_f89_2 h_f89_2 k).2 (LrcNat.add (f89_2_j33_d_ok g_f89_2 h_f89_2 k).2 (LrcNat.add (f89_2_j30_d_ok g_f89_2 h_f89_2 k).2 (LrcNat.add (f89_2_j24_d_ok g_f89_2 h_f89_2 k).2 (LrcNat.add (f89_2_j20_d_ok g_f89_2 h_f89_2 k).2 (LrcNat.add (f89_2_j19_d_ok g_f89_2 h_f89_2 k).2 (LrcNat.add (f89_2_j16_d_ok g_f89_2 h_f89_2 k).2 (LrcNat.add (f89_2_j14_d_ok g_f89_2 h_f89_2 k).2 (LrcNat.add (f89_2_j9_d_ok g_f89_2 h_f89_2 k).2 (LrcNat.add (f89_2_j8_d_ok g_f89_2 h_f89_2 k).2 LrcNat.no))))))))))) (fun _x _y _K => by kernel_rfl)
noncomputable def f89_2_l3_b : Code := loopAt f89_2_b 0
noncomputable def f89_2_l3_g {R : Type} (g_f89_2 : Nat → f89_2_T R) (k : Nat) (x : (Unit × Int × Unit × Unit × Int × Unit)) (y : ((List Int × Unit × Int × Int × Int × Unit) × List D1 × (Int × Int × Int × Int × Bool × Unit) × List D2 × Unit)) (K : KX R) : Option R := f89_2_l3 g_f89_2 k x.2.1 x.2.2.2.2.1 y.1.1 y.1.2.2.1 y.1.2.2.2.1 y.1.2.2.2.2.1 y.2.1 y.2.2.1.1 y.2.2.1.2.1 y.2.2.1.2.2.1 y.2.2.1.2.2.2.1 y.2.2.1.2.2.2.2.1 y.2.2.2.1 (fun z0 z1 z2 z3 z4 z5 z6 => K (.exit 0) [.int .i64 z0, .own 68719490048] [some (.row (.named 2) z1 true), some (.box [.list (.int .u8) z2, .own 68719490049, .int .i64 z3, .int .i64 z4, .int .i64 z5]), some (.row (.named 1) z6 true)]) (fun z0 z1 z2 z3 z4 z5 z6 => K (.ret) [.own 137438977024, .int .i64 z0] [some (.row (.named 2) z1 true), some (.box [.list (.int .u8) z2, .own 137438977025, .int .i64 z3, .int .i64 z4, .int .i64 z5]), some (.row (.named 1) z6 true)])
noncomputable def f89_2_l3_d {R : Type} (g_f89_2 : Nat → f89_2_T R) (k : Nat) : Lr D R := ldoor [.ptr 0 0, .int .i64, .ptr 65632 0, .own 68719489024, .int .i64] [some (.box [.list (.int .u8), .own 68719489025, .int .i64, .int .i64, .int .i64]), some (.row (.named 1) true), some (.box [.int .i64, .int .i64, .int .i64, .int .i64, .bool]), some (.row (.named 2) true)] (f89_2_l3_g g_f89_2 k)
noncomputable def f89_2_l3_r {R : Type} (g_f89_2 : Nat → f89_2_T R) (k : Nat) : Lrc D R := (lrcAdd 1000035 (f89_2_j35_d g_f89_2 k) (lrcAdd 1000033 (f89_2_j33_d g_f89_2 k) (lrcAdd 1000030 (f89_2_j30_d g_f89_2 k) (lrcAdd 1000024 (f89_2_j24_d g_f89_2 k) (lrcAdd 1000020 (f89_2_j20_d g_f89_2 k) (lrcAdd 1000019 (f89_2_j19_d g_f89_2 k) (lrcAdd 1000016 (f89_2_j16_d g_f89_2 k) (lrcAdd 1000014 (f89_2_j14_d g_f89_2 k) (lrcAdd 1000009 (f89_2_j9_d g_f89_2 k) (lrcAdd 1000008 (f89_2_j8_d g_f89_2 k) (lrcAdd 1000005 (f89_2_j5_d g_f89_2 k) noLrc)))))))))))
theorem f89_2_l3_d_ok {R : Type} (g_f89_2 : Nat → f89_2_T R) (h_f89_2 : ∀ (k : Nat) (e : Dr D R), FnOk Try.prog cx 89 e → FnOk Try.prog cx 89 (f89_2_d (g_f89_2 k) e)) : ∀ k, LoopOk Try.prog cx 262 2 f89_2_ann (f89_2_l3_d (R := R) g_f89_2 k) f89_2_l3_b :=
  loop_ok (keep := kp) (lrc := f89_2_l3_r (R := R) g_f89_2) cxOk mixed (f89_2_o_ok g_f89_2 h_f89_2) (show f89_2_ann (Am.keyOf f89_2_l3_b) = some f89_2_l3_a by kernel_rfl) (L := []) (by kernel_rfl) (fun _k => trivial) (J := [f89_2_j5_b, f89_2_j8_b, f89_2_j9_b, f89_2_j14_b, f89_2_j16_b, f89_2_j19_b, f89_2_j20_b, f89_2_j24_b, f89_2_j30_b, f89_2_j33_b, f89_2_j35_b]) (by kernel_rfl) (fun k => ⟨(f89_2_j5_d_ok g_f89_2 h_f89_2 k).use (by kernel_rfl), (f89_2_j8_d_ok g_f89_2 h_f89_2 k).use (by kernel_rfl), (f89_2_j9_d_ok g_f89_2 h_f89_2 k).use (by kernel_rfl), (f89_2_j14_d_ok g_f89_2 h_f89_2 k).use (by kernel_rfl), (f89_2_j16_d_ok g_f89_2 h_f89_2 k).use (by kernel_rfl), (f89_2_j19_d_ok g_f89_2 h_f89_2 k).use (by kernel_rfl), (f89_2_j20_d_ok g_f89_2 h_f89_2 k).use (by kernel_rfl), (f89_2_j24_d_ok g_f89_2 h_f89_2 k).use (by kernel_rfl), (f89_2_j30_d_ok g_f89_2 h_f89_2 k).use (by kernel_rfl), (f89_2_j33_d_ok g_f89_2 h_f89_2 k).use (by kernel_rfl), (f89_2_j35_d_ok g_f89_2 h_f89_2 k).use (by kernel_rfl), trivial⟩) (fun k => (LrcNat.add (f89_2_j35_d_ok g_f89_2 h_f89_2 k).2 (LrcNat.add (f89_2_j33_d_ok g_f89_2 h_f89_2 k).2 (LrcNat.add (f89_2_j30_d_ok g_f89_2 h_f89_2 k).2 (LrcNat.add (f89_2_j24_d_ok g_f89_2 h_f89_2 k).2 (LrcNat.add (f89_2_j20_d_ok g_f89_2 h_f89_2 k).2 (LrcNat.add (f89_2_j19_d_ok g_f89_2 h_f89_2 k).2 (LrcNat.add (f89_2_j16_d_ok g_f89_2 h_f89_2 k).2 (LrcNat.add (f89_2_j14_d_ok g_f89_2 h_f89_2 k).2 (LrcNat.add (f89_2_j9_d_ok g_f89_2 h_f89_2 k).2 (LrcNat.add (f89_2_j8_d_ok g_f89_2 h_f89_2 k).2 (LrcNat.add (f89_2_j5_d_ok g_f89_2 h_f89_2 k).2 LrcNat.no)))))))))))) (fun _x _y _K => by kernel_rfl) (fun _k _x _y _K => by kernel_rfl)
noncomputable def f89_2_r {R : Type} (g_f89_2 : Nat → f89_2_T R) (k : Nat) : Lrc D R := (lrcAdd 1000035 (f89_2_j35_d g_f89_2 k) (lrcAdd 1000033 (f89_2_j33_d g_f89_2 k) (lrcAdd 1000030 (f89_2_j30_d g_f89_2 k) (lrcAdd 1000024 (f89_2_j24_d g_f89_2 k) (lrcAdd 1000020 (f89_2_j20_d g_f89_2 k) (lrcAdd 1000019 (f89_2_j19_d g_f89_2 k) (lrcAdd 1000016 (f89_2_j16_d g_f89_2 k) (lrcAdd 1000014 (f89_2_j14_d g_f89_2 k) (lrcAdd 1000009 (f89_2_j9_d g_f89_2 k) (lrcAdd 1000008 (f89_2_j8_d g_f89_2 k) (lrcAdd 1000005 (f89_2_j5_d g_f89_2 k) (lrcAdd 3 (f89_2_l3_d g_f89_2 k) noLrc))))))))))))
noncomputable def rec_f89_2 {R : Type} : Nat → (f89_2_T R)
  | 0 => (fun _ _ _ _ _ _ _ _ _ _ _ _ => none)
  | k + 1 => (f89_2_s (fun _ => (rec_f89_2 (R := R) k)) k)
theorem rec_f89_2_succ {R : Type} (k : Nat) : rec_f89_2 (R := R) (k + 1) = (f89_2_s (fun _ => (rec_f89_2 (R := R) k)) k) := rfl
theorem rec_f89_2_ok {R : Type} : ∀ k, (∀ e : Dr D R, FnOk Try.prog cx 89 e → FnOk Try.prog cx 89 (f89_2_d (rec_f89_2 (R := R) k) e))
  | 0 => fun e he => he.door0 fun x y _K => rfl
  | k + 1 => by
    rw [rec_f89_2_succ]
    exact fun e he => he.door fun _x _y => body_ok (keep := kp) (ann := f89_2_ann) (lrc := f89_2_r (R := R) (fun _ => (rec_f89_2 (R := R) k)) k) (N := 262) (n0 := 2) (c := []) cxOk mixed (f89_2_o_ok (fun _ => (rec_f89_2 (R := R) k)) (fun _ e he => (rec_f89_2_ok (R := R) k) e he) k) (body := f89_2_b) (by kernel_rfl : Try.prog.funcs[89]? = some Try.f89) (by kernel_rfl) (by kernel_rfl) (by kernel_rfl) (by kernel_rfl) (of_decide_eq_true (by kernel_rfl)) (L := [f89_2_l3_b]) (by kernel_rfl) (⟨(f89_2_l3_d_ok (fun _ => (rec_f89_2 (R := R) k)) (fun _ e he => (rec_f89_2_ok (R := R) k) e he) k).use (by kernel_rfl), trivial⟩) (J := [f89_2_j5_b, f89_2_j8_b, f89_2_j9_b, f89_2_j14_b, f89_2_j16_b, f89_2_j19_b, f89_2_j20_b, f89_2_j24_b, f89_2_j30_b, f89_2_j33_b, f89_2_j35_b]) (by kernel_rfl) (⟨(f89_2_j5_d_ok (fun _ => (rec_f89_2 (R := R) k)) (fun _ e he => (rec_f89_2_ok (R := R) k) e he) k).use (by kernel_rfl), (f89_2_j8_d_ok (fun _ => (rec_f89_2 (R := R) k)) (fun _ e he => (rec_f89_2_ok (R := R) k) e he) k).use (by kernel_rfl), (f89_2_j9_d_ok (fun _ => (rec_f89_2 (R := R) k)) (fun _ e he => (rec_f89_2_ok (R := R) k) e he) k).use (by kernel_rfl), (f89_2_j14_d_ok (fun _ => (rec_f89_2 (R := R) k)) (fun _ e he => (rec_f89_2_ok (R := R) k) e he) k).use (by kernel_rfl), (f89_2_j16_d_ok (fun _ => (rec_f89_2 (R := R) k)) (fun _ e he => (rec_f89_2_ok (R := R) k) e he) k).use (by kernel_rfl), (f89_2_j19_d_ok (fun _ => (rec_f89_2 (R := R) k)) (fun _ e he => (rec_f89_2_ok (R := R) k) e he) k).use (by kernel_rfl), (f89_2_j20_d_ok (fun _ => (rec_f89_2 (R := R) k)) (fun _ e he => (rec_f89_2_ok (R := R) k) e he) k).use (by kernel_rfl), (f89_2_j24_d_ok (fun _ => (rec_f89_2 (R := R) k)) (fun _ e he => (rec_f89_2_ok (R := R) k) e he) k).use (by kernel_rfl), (f89_2_j30_d_ok (fun _ => (rec_f89_2 (R := R) k)) (fun _ e he => (rec_f89_2_ok (R := R) k) e he) k).use (by kernel_rfl), (f89_2_j33_d_ok (fun _ => (rec_f89_2 (R := R) k)) (fun _ e he => (rec_f89_2_ok (R := R) k) e he) k).use (by kernel_rfl), (f89_2_j35_d_ok (fun _ => (rec_f89_2 (R := R) k)) (fun _ e he => (rec_f89_2_ok (R := R) k) e he) k).use (by kernel_rfl), trivial⟩) ((LrcNat.add (f89_2_j35_d_ok (fun _ => (rec_f89_2 (R := R) k)) (fun _ e he => (rec_f89_2_ok (R := R) k) e he) k).2 (LrcNat.add (f89_2_j33_d_ok (fun _ => (rec_f89_2 (R := R) k)) (fun _ e he => (rec_f89_2_ok (R := R) k) e he) k).2 (LrcNat.add (f89_2_j30_d_ok (fun _ => (rec_f89_2 (R := R) k)) (fun _ e he => (rec_f89_2_ok (R := R) k) e he) k).2 (LrcNat.add (f89_2_j24_d_ok (fun _ => (rec_f89_2 (R := R) k)) (fun _ e he => (rec_f89_2_ok (R := R) k) e he) k).2 (LrcNat.add (f89_2_j20_d_ok (fun _ => (rec_f89_2 (R := R) k)) (fun _ e he => (rec_f89_2_ok (R := R) k) e he) k).2 (LrcNat.add (f89_2_j19_d_ok (fun _ => (rec_f89_2 (R := R) k)) (fun _ e he => (rec_f89_2_ok (R := R) k) e he) k).2 (LrcNat.add (f89_2_j16_d_ok (fun _ => (rec_f89_2 (R := R) k)) (fun _ e he => (rec_f89_2_ok (R := R) k) e he) k).2 (LrcNat.add (f89_2_j14_d_ok (fun _ => (rec_f89_2 (R := R) k)) (fun _ e he => (rec_f89_2_ok (R := R) k) e he) k).2 (LrcNat.add (f89_2_j9_d_ok (fun _ => (rec_f89_2 (R := R) k)) (fun _ e he => (rec_f89_2_ok (R := R) k) e he) k).2 (LrcNat.add (f89_2_j8_d_ok (fun _ => (rec_f89_2 (R := R) k)) (fun _ e he => (rec_f89_2_ok (R := R) k) e he) k).2 (LrcNat.add (f89_2_j5_d_ok (fun _ => (rec_f89_2 (R := R) k)) (fun _ e he => (rec_f89_2_ok (R := R) k) e he) k).2 (LrcNat.add (f89_2_l3_d_ok (fun _ => (rec_f89_2 (R := R) k)) (fun _ e he => (rec_f89_2_ok (R := R) k) e he) k).2 LrcNat.no))))))))))))) (fun _K => by delta f89_2_s f89_2_o; generalize @f30 R = a0; generalize @f26 R = a1; generalize @f98 R = a2; generalize @f105_2 R = a3; generalize @f102_2 R = a4; generalize @f103_2 R = a5; generalize @f104_2 R = a6; revert a0 a1 a2 a3 a4 a5 a6; refine id ?_; intros; kernel_rfl)
noncomputable def f89_2 {R : Type} (k : Nat) (a0 a1 a2 a3 a4 : Int) (a5 : Bool) (a6 : List Int) (a7 a8 a9 : Int) (a10 : List D1) (K : Int → List Int → Int → Int → Int → List D2 → List D1 → Option R) : Option R := (rec_f89_2 (R := R) k) a0 a1 a2 a3 a4 a5 a6 a7 a8 a9 a10 K
theorem f89_2_ok {R : Type} (k : Nat) {e : Dr D R} (he : FnOk Try.prog cx 89 e) : FnOk Try.prog cx 89 (f89_2_d (f89_2 k) e) := (rec_f89_2_ok (R := R) k) e he
theorem f89_2_step {R : Type} (k : Nat) (a0 a1 a2 a3 a4 : Int) (a5 : Bool) (a6 : List Int) (a7 a8 a9 : Int) (a10 : List D1) (K : Int → List Int → Int → Int → Int → List D2 → List D1 → Option R) : f89_2 (k + 1) a0 a1 a2 a3 a4 a5 a6 a7 a8 a9 a10 K = f89_2_s (fun _ => f89_2 (R := R) k) k a0 a1 a2 a3 a4 a5 a6 a7 a8 a9 a10 K := rfl


end Go.Proofs.Ytklhjegfkpmdoaa

/-! What the functions do, as plain functions; and that they do. -/
namespace Go.Proofs.Ytklhjegfkpmdoaa
open Go Go.Am
abbrev f89_T (R : Type) : Type := Int → Int → Int → Int → Int → Bool → List Int → Int → Int → Int → (Int → List Int → Int → Int → Int → List D2 → List D1 → Option R) → Option R
/-! ## 89: (*diorama/dioramaref04.walker).list -/
noncomputable def f89_j8 {R : Type} (_k : Nat) (v37 v38 v39 : Int) (v40 v41 : Bool) (v42 : List Int) (v43 v44 v45 : Int) (v46 : List D1) (v47 v48 v49 v50 : Int) (v51 : Bool) (v52 : List D2) (v53 : Int) (v54 : ByteArray) (v55 : Int) (v56 v57 : Bool) (X0 : Int → Int → Int → Bool → List Int → Int → Int → Int → List D1 → Int → Int → Int → Int → Bool → List D2 → Int → ByteArray → Int → Bool → Bool → Option R) (X1 : Int → List D2 → List Int → Int → Int → Int → List D1 → Option R) : Option R :=
 bif v41 then
  X1 v37 v52 v42 v43 v44 v45 v46
 else
  X0 v37 v38 v39 v40 v42 v43 v44 v45 v46 v47 v48 v49 v50 v51 v52 v53 v54 v55 v56 v57
noncomputable def f89_j16 {R : Type} (k : Nat) (v146 v147 v148 : Int) (v149 : Bool) (v150 : Int) (v151 : Bool) (v152 : List Int) (v153 v154 v155 : Int) (v156 : List D1) (v157 v158 v159 v160 : Int) (v161 : Bool) (v162 : List D2) (v163 : Int) (v164 : ByteArray) (v165 : Int) (v166 v167 : Bool) (v168 v169 v170 : Int) (v171 : Bool) (X0 : Int → Int → Int → Bool → Int → List Int → Int → Int → Int → List D1 → Int → Int → Int → Int → Bool → List D2 → Int → ByteArray → Int → Bool → Bool → Int → Int → Int → Bool → Option R) : Option R :=
 bif v151 then
  f105_2 k v146 42 v152 v153 v154 v155 v156 (fun v172 v173 v174 v175 v176 =>
   X0 v146 v147 v148 v149 v150 v172 v173 v174 v175 v176 v157 v158 v159 v160 v161 v162 v163 v164 v165 v166 v167 v168 v169 v170 v171)
 else
  bif decide (v160 > 8) then
   f105_2 k v146 43 v152 v153 v154 v155 v156 (fun v177 v178 v179 v180 v181 =>
    X0 v146 v147 v148 v149 v150 v177 v178 v179 v180 v181 v157 v158 v159 v160 v161 v162 v163 v164 v165 v166 v167 v168 v169 v170 v171)
  else
   X0 v146 v147 v148 v149 v150 v152 v153 v154 v155 v156 v157 v158 v159 v160 v161 v162 v163 v164 v165 v166 v167 v168 v169 v170 v171
noncomputable def f89_j14 {R : Type} (k : Nat) (v114 v115 v116 : Int) (v117 : Bool) (v118 : Int) (v119 : Bool) (v120 : List Int) (v121 v122 v123 : Int) (v124 : List D1) (v125 v126 v127 v128 : Int) (v129 : Bool) (v130 : List D2) (v131 : Int) (v132 : ByteArray) (v133 : Int) (v134 v135 : Bool) (v136 v137 v138 : Int) (v139 : Bool) (X0 : Int → Int → Int → Bool → Int → List Int → Int → Int → Int → List D1 → Int → Int → Int → Int → Bool → List D2 → Int → ByteArray → Int → Bool → Bool → Int → Int → Int → Bool → Option R) : Option R :=
 bif v119 then
  f104_2 k v114 (IntKind.i64.wrap (v114 + v137)) v118 v115 v125 v126 v127 v128 v129 v120 v121 v122 v123 v124 (fun v140 v141 v142 v143 v144 =>
   X0 v114 v115 v116 v117 v118 v140 v141 v142 v143 v144 v125 v126 v127 v128 v129 v130 v131 v132 v133 v134 v135 v136 v137 v138 v139)
 else
  bif v117 then
   bif (v116 != 236) then
    f98 k v131 v132 v133 v134 v135 v125 (fun v145 =>
     f89_j16 k v114 v115 v116 v117 v118 (!v145) v120 v121 v122 v123 v124 v125 v126 v127 v128 v129 v130 v131 v132 v133 v134 v135 v136 v137 v138 v139 X0)
   else
    f89_j16 k v114 v115 v116 v117 v118 false v120 v121 v122 v123 v124 v125 v126 v127 v128 v129 v130 v131 v132 v133 v134 v135 v136 v137 v138 v139 X0
  else
   f89_j16 k v114 v115 v116 v117 v118 false v120 v121 v122 v123 v124 v125 v126 v127 v128 v129 v130 v131 v132 v133 v134 v135 v136 v137 v138 v139 X0
noncomputable def f89_j33 {R : Type} (k : Nat) (v387 v388 : Int) (v389 : Bool) (v390 : Int) (v391 : List Int) (v392 v393 v394 : Int) (v395 : List D1) (v396 v397 v398 v399 : Int) (v400 : Bool) (v401 : List D2) (v402 v403 v404 : Int) (v405 : Bool) (v406 : Int) (v407 : Bool) (v408 v409 v410 v411 : Int) (v412 : Bool) (X0 : Int → Int → Bool → Int → Int → List Int → Int → Int → Int → List D1 → Int → Int → Int → Int → Bool → List D2 → Int → Int → Int → Bool → Int → Bool → List D2 → Option R) : Option R :=
 f89_2 k (IntKind.i64.wrap (v387 + v403)) v408 v409 v410 v411 v412 v391 v392 v393 v394 v395 (fun v413 v414 v415 v416 v417 v418 v419 =>
  X0 v387 v388 v389 v390 v413 v414 v415 v416 v417 v419 v396 v397 v398 v399 v400 v401 v402 v403 v404 v405 v406 v407 v418)
noncomputable def f89_j30 {R : Type} (k : Nat) (v362 v363 v364 v365 : Int) (v366 : Bool) (v367 v368 : Int) (v369 : Bool) (v370 : List Int) (v371 v372 v373 : Int) (v374 : List D1) (v375 v376 v377 v378 : Int) (v379 : Bool) (v380 : List D2) (v381 v382 v383 : Int) (v384 : Bool) (v385 : Int) (v386 : Bool) (X0 : Int → Int → Bool → Int → Int → List Int → Int → Int → Int → List D1 → Int → Int → Int → Int → Bool → List D2 → Int → Int → Int → Bool → Int → Bool → List Int → List D2 → Option R) : Option R :=
 bif v369 then
  bif v384 then
   f89_j33 k v362 v363 v366 v367 v370 v371 v372 v373 v374 v375 v376 v377 v378 v379 v380 v381 v382 v383 v384 v385 v386 v364 v376 v377 (IntKind.i64.wrap (v378 + 1)) true (fun v420 v421 v422 v423 v424 v425 v426 v427 v428 v429 v430 v431 v432 v433 v434 v435 v436 v437 v438 v439 v440 v441 v442 =>
    X0 v420 v421 v422 v423 v424 v425 v426 v427 v428 v429 v430 v431 v432 v433 v434 v435 v436 v437 v438 v439 v440 v441 ([] : List Int) v442)
  else
   f89_j33 k v362 v363 v366 v367 v370 v371 v372 v373 v374 v375 v376 v377 v378 v379 v380 v381 v382 v383 v384 v385 v386 v364 v365 v365 (IntKind.i64.wrap (v378 + 1)) false (fun v443 v444 v445 v446 v447 v448 v449 v450 v451 v452 v453 v454 v455 v456 v457 v458 v459 v460 v461 v462 v463 v464 v465 =>
    X0 v443 v444 v445 v446 v447 v448 v449 v450 v451 v452 v453 v454 v455 v456 v457 v458 v459 v460 v461 v462 v463 v464 ([] : List Int) v465)
 else
  bif upto v365 v370.length then
   bif (decide (0 ≤ (IntKind.i64.wrap (v362 + v382)))) && (decide ((IntKind.i64.wrap (v362 + v382)) ≤ v365)) then
    bif room 1 (((v370.take v365.toNat).drop ((IntKind.i64.wrap (v362 + v382)).toNat)).length) then
     X0 v362 v363 v366 v367 v368 v370 v371 v372 v373 v374 v375 v376 v377 v378 v379 v380 v381 v382 v383 v384 v385 v386 ((v370.take v365.toNat).drop ((IntKind.i64.wrap (v362 + v382)).toNat)) ([] : List D2)
    else
     none
   else
    none
  else
   none
noncomputable def f89_j35 {R : Type} (_k : Nat) (v490 v491 : Int) (v492 : Bool) (v493 v494 : Int) (v495 : List Int) (v496 v497 v498 : Int) (v499 : List D1) (v500 v501 v502 v503 : Int) (v504 : Bool) (v505 : List D2) (_v506 v507 _v508 : Int) (_v509 : Bool) (v510 : Int) (v511 : Bool) (v512 : List Int) (v513 : List D2) (X0 : Int → List D2 → List Int → Int → Int → Int → List D1 → Option R) (X1 : Int → Int → List Int → Int → Int → Int → List D1 → Int → Int → Int → Int → Bool → List D2 → Option R) : Option R :=
 bif (v497 != 0) then
  X0 v490 v505 v495 v496 v497 v498 v499
 else
  bif inb v493 v499.length then
   bif v492 then
    bif room 64 (v505.length + ([(D2.mk v510 v512 v513 v511)]).length) then
     X1 v494 v491 v495 v496 v497 v498 (v499.set v493.toNat ((v499.getD v493.toNat zero1).1, (v499.getD v493.toNat zero1).2.1, (v499.getD v493.toNat zero1).2.2.1, (IntKind.i64.wrap ((IntKind.i64.wrap (v494 - v490)) - v507)), (v499.getD v493.toNat zero1).2.2.2.2.1, (v499.getD v493.toNat zero1).2.2.2.2.2)) v500 v501 v502 v503 v504 (v505 ++ ([(D2.mk v510 v512 v513 v511)]))
    else
     none
   else
    X1 v494 v491 v495 v496 v497 v498 (v499.set v493.toNat ((v499.getD v493.toNat zero1).1, (v499.getD v493.toNat zero1).2.1, (v499.getD v493.toNat zero1).2.2.1, (IntKind.i64.wrap ((IntKind.i64.wrap (v494 - v490)) - v507)), (v499.getD v493.toNat zero1).2.2.2.2.1, (v499.getD v493.toNat zero1).2.2.2.2.2)) v500 v501 v502 v503 v504 v505
  else
   none
noncomputable def f89_j24 {R : Type} (k : Nat) (v337 v338 v339 v340 : Int) (v341 : Bool) (v342 : List Int) (v343 v344 v345 : Int) (v346 : List D1) (v347 v348 v349 v350 : Int) (v351 : Bool) (v352 : List D2) (_v353 : Int) (_v354 : ByteArray) (_v355 : Int) (v356 _v357 : Bool) (v358 v359 v360 : Int) (v361 : Bool) (X0 : Int → List D2 → List Int → Int → Int → Int → List D1 → Option R) (X1 : Int → Int → List Int → Int → Int → Int → List D1 → Int → Int → Int → Int → Bool → List D2 → Option R) : Option R :=
 bif (v344 != 0) then
  X0 v337 v352 v342 v343 v344 v345 v346
 else
  bif room 48 (v346.length + ([(v339, v337, v359, 0, v350, v361)]).length) then
   bif v341 then
    f89_j30 k v337 v338 v339 v340 v341 (v346.length : Int) v340 v356 v342 v343 v344 v345 (v346 ++ ([(v339, v337, v359, 0, v350, v361)])) v347 v348 v349 v350 v351 v352 v358 v359 v360 v361 v339 v356 (fun v466 v467 v468 v469 v470 v471 v472 v473 v474 v475 v476 v477 v478 v479 v480 v481 v482 v483 v484 v485 v486 v487 v488 v489 =>
     f89_j35 k v466 v467 v468 v469 v470 v471 v472 v473 v474 v475 v476 v477 v478 v479 v480 v481 v482 v483 v484 v485 v486 v487 v488 v489 X0 X1)
   else
    f89_j30 k v337 v338 v339 v340 v341 (v346.length : Int) v340 false v342 v343 v344 v345 (v346 ++ ([(v339, v337, v359, 0, v350, v361)])) v347 v348 v349 v350 v351 v352 v358 v359 v360 v361 v339 v356 (fun v534 v535 v536 v537 v538 v539 v540 v541 v542 v543 v544 v545 v546 v547 v548 v549 v550 v551 v552 v553 v554 v555 v556 v557 =>
     f89_j35 k v534 v535 v536 v537 v538 v539 v540 v541 v542 v543 v544 v545 v546 v547 v548 v549 v550 v551 v552 v553 v554 v555 v556 v557 X0 X1)
  else
   none
noncomputable def f89_j20 {R : Type} (k : Nat) (v307 v308 v309 v310 : Int) (v311 : Bool) (v312 : List Int) (v313 v314 v315 : Int) (v316 : List D1) (v317 v318 v319 v320 : Int) (v321 : Bool) (v322 : List D2) (v323 : Int) (v324 : ByteArray) (v325 : Int) (v326 v327 : Bool) (v328 v329 v330 : Int) (v331 : Bool) (X0 : Int → List D2 → List Int → Int → Int → Int → List D1 → Option R) (X1 : Int → Int → List Int → Int → Int → Int → List D1 → Int → Int → Int → Int → Bool → List D2 → Option R) : Option R :=
 bif v311 then
  bif decide ((IntKind.i64.wrap (v313 + 1)) > 4000) then
   f105_2 k v307 2 v312 (IntKind.i64.wrap (v313 + 1)) v314 v315 v316 (fun v332 v333 v334 v335 v336 =>
    f89_j24 k v307 v308 v309 v310 v311 v332 v333 v334 v335 v336 v317 v318 v319 v320 v321 v322 v323 v324 v325 v326 v327 v328 v329 v330 v331 X0 X1)
  else
   f89_j24 k v307 v308 v309 v310 v311 v312 (IntKind.i64.wrap (v313 + 1)) v314 v315 v316 v317 v318 v319 v320 v321 v322 v323 v324 v325 v326 v327 v328 v329 v330 v331 X0 X1
 else
  f89_j24 k v307 v308 v309 v310 v311 v312 v313 v314 v315 v316 v317 v318 v319 v320 v321 v322 v323 v324 v325 v326 v327 v328 v329 v330 v331 X0 X1
noncomputable def f89_j19 {R : Type} (k : Nat) (v282 v283 v284 : Int) (v285 : Bool) (v286 : Int) (v287 : List Int) (v288 v289 v290 : Int) (v291 : List D1) (v292 v293 v294 v295 : Int) (v296 : Bool) (v297 : List D2) (v298 : Int) (v299 : ByteArray) (v300 : Int) (v301 v302 : Bool) (v303 v304 v305 : Int) (v306 : Bool) (X0 : Int → List D2 → List Int → Int → Int → Int → List D1 → Option R) (X1 : Int → Int → List Int → Int → Int → Int → List D1 → Int → Int → Int → Int → Bool → List D2 → Option R) : Option R :=
 bif v285 then
  bif (v284 != 236) then
   f89_j20 k v282 v283 v284 v286 (v284 != 237) v287 v288 v289 v290 v291 v292 v293 v294 v295 v296 v297 v298 v299 v300 v301 v302 v303 v304 v305 v306 X0 X1
  else
   f89_j20 k v282 v283 v284 v286 false v287 v288 v289 v290 v291 v292 v293 v294 v295 v296 v297 v298 v299 v300 v301 v302 v303 v304 v305 v306 X0 X1
 else
  f89_j20 k v282 v283 v284 v286 false v287 v288 v289 v290 v291 v292 v293 v294 v295 v296 v297 v298 v299 v300 v301 v302 v303 v304 v305 v306 X0 X1
noncomputable def f89_j9 {R : Type} (k : Nat) (v78 v79 v80 : Int) (v81 : Bool) (v82 : List Int) (v83 v84 v85 : Int) (v86 : List D1) (v87 v88 v89 v90 : Int) (v91 : Bool) (v92 : List D2) (v93 : Int) (v94 : ByteArray) (v95 : Int) (v96 v97 : Bool) (X0 : Int → List D2 → List Int → Int → Int → Int → List D1 → Option R) (X1 : Int → Int → List Int → Int → Int → Int → List D1 → Int → Int → Int → Int → Bool → List D2 → Option R) : Option R :=
 f102_2 k v78 v82 v83 v84 v85 v86 (fun v98 v99 v100 v101 v102 v103 v104 v105 v106 v107 =>
  bif (!v102) then
   X0 v78 v92 v103 v104 v105 v106 v107
  else
   f103_2 k v78 v98 v99 v100 v101 v93 v94 v95 v96 v97 v87 v88 v89 v90 v91 v103 v104 v105 v106 v107 (fun v108 v109 v110 v111 v112 v113 =>
    bif (v111 != 0) then
     X0 v78 v92 v109 v110 v111 v112 v113
    else
     bif v81 then
      f89_j14 k v78 v79 v80 v81 v108 (v80 == 237) v109 v110 v111 v112 v113 v87 v88 v89 v90 v91 v92 v93 v94 v95 v96 v97 v98 v99 v100 v101 (fun v257 v258 v259 v260 v261 v262 v263 v264 v265 v266 v267 v268 v269 v270 v271 v272 v273 v274 v275 v276 v277 v278 v279 v280 v281 =>
      f89_j19 k v257 v258 v259 v260 v261 v262 v263 v264 v265 v266 v267 v268 v269 v270 v271 v272 v273 v274 v275 v276 v277 v278 v279 v280 v281 X0 X1)
     else
      f89_j14 k v78 v79 v80 v81 v108 false v109 v110 v111 v112 v113 v87 v88 v89 v90 v91 v92 v93 v94 v95 v96 v97 v98 v99 v100 v101 (fun v718 v719 v720 v721 v722 v723 v724 v725 v726 v727 v728 v729 v730 v731 v732 v733 v734 v735 v736 v737 v738 v739 v740 v741 v742 =>
      f89_j19 k v718 v719 v720 v721 v722 v723 v724 v725 v726 v727 v728 v729 v730 v731 v732 v733 v734 v735 v736 v737 v738 v739 v740 v741 v742 X0 X1)))
noncomputable def f89_j5 {R : Type} (k : Nat) (v14 v15 : Int) (v16 : List Int) (v17 v18 v19 : Int) (v20 : List D1) (v21 v22 v23 v24 : Int) (v25 : Bool) (v26 : List D2) (X0 : Int → List D2 → List Int → Int → Int → Int → List D1 → Option R) (X1 : Int → Int → List Int → Int → Int → Int → List D1 → Int → Int → Int → Int → Bool → List D2 → Option R) (X2 : Int → List D2 → List Int → Int → Int → Int → List D1 → Option R) : Option R :=
 f30 k v16 v14 (fun v27 _v28 v29 =>
  f26 k v27 (fun v30 v31 v32 v33 v34 v35 =>
   bif v25 then
    bif (v29 == 0) then
     bif v35 then
      bif (v27 != 236) then
      bif (v27 != 237) then
      f98 k v30 v31 v32 v33 v34 v21 (fun v36 =>
      f89_j8 k v14 v15 v27 v35 (!v36) v16 v17 v18 v19 v20 v21 v22 v23 v24 v25 v26 v30 v31 v32 v33 v34 (fun v58 v59 v60 v61 v62 v63 v64 v65 v66 v67 v68 v69 v70 v71 v72 v73 v74 v75 v76 v77 =>
      f89_j9 k v58 v59 v60 v61 v62 v63 v64 v65 v66 v67 v68 v69 v70 v71 v72 v73 v74 v75 v76 v77 X0 (fun v770 v771 v772 v773 v774 v775 v776 v777 v778 v779 v780 v781 v782 =>
      X1 v770 (IntKind.i64.wrap (v771 + 1)) v772 v773 v774 v775 v776 v777 v778 v779 v780 v781 v782)) X2)
      else
      f89_j8 k v14 v15 v27 v35 false v16 v17 v18 v19 v20 v21 v22 v23 v24 v25 v26 v30 v31 v32 v33 v34 (fun v790 v791 v792 v793 v794 v795 v796 v797 v798 v799 v800 v801 v802 v803 v804 v805 v806 v807 v808 v809 =>
      f89_j9 k v790 v791 v792 v793 v794 v795 v796 v797 v798 v799 v800 v801 v802 v803 v804 v805 v806 v807 v808 v809 X0 (fun v817 v818 v819 v820 v821 v822 v823 v824 v825 v826 v827 v828 v829 =>
      X1 v817 (IntKind.i64.wrap (v818 + 1)) v819 v820 v821 v822 v823 v824 v825 v826 v827 v828 v829)) X2
      else
      f89_j8 k v14 v15 v27 v35 false v16 v17 v18 v19 v20 v21 v22 v23 v24 v25 v26 v30 v31 v32 v33 v34 (fun v837 v838 v839 v840 v841 v842 v843 v844 v845 v846 v847 v848 v849 v850 v851 v852 v853 v854 v855 v856 =>
      f89_j9 k v837 v838 v839 v840 v841 v842 v843 v844 v845 v846 v847 v848 v849 v850 v851 v852 v853 v854 v855 v856 X0 (fun v864 v865 v866 v867 v868 v869 v870 v871 v872 v873 v874 v875 v876 =>
      X1 v864 (IntKind.i64.wrap (v865 + 1)) v866 v867 v868 v869 v870 v871 v872 v873 v874 v875 v876)) X2
     else
      f89_j8 k v14 v15 v27 v35 false v16 v17 v18 v19 v20 v21 v22 v23 v24 v25 v26 v30 v31 v32 v33 v34 (fun v884 v885 v886 v887 v888 v889 v890 v891 v892 v893 v894 v895 v896 v897 v898 v899 v900 v901 v902 v903 =>
      f89_j9 k v884 v885 v886 v887 v888 v889 v890 v891 v892 v893 v894 v895 v896 v897 v898 v899 v900 v901 v902 v903 X0 (fun v911 v912 v913 v914 v915 v916 v917 v918 v919 v920 v921 v922 v923 =>
      X1 v911 (IntKind.i64.wrap (v912 + 1)) v913 v914 v915 v916 v917 v918 v919 v920 v921 v922 v923)) X2
    else
     f89_j8 k v14 v15 v27 v35 false v16 v17 v18 v19 v20 v21 v22 v23 v24 v25 v26 v30 v31 v32 v33 v34 (fun v931 v932 v933 v934 v935 v936 v937 v938 v939 v940 v941 v942 v943 v944 v945 v946 v947 v948 v949 v950 =>
      f89_j9 k v931 v932 v933 v934 v935 v936 v937 v938 v939 v940 v941 v942 v943 v944 v945 v946 v947 v948 v949 v950 X0 (fun v958 v959 v960 v961 v962 v963 v964 v965 v966 v967 v968 v969 v970 =>
      X1 v958 (IntKind.i64.wrap (v959 + 1)) v960 v961 v962 v963 v964 v965 v966 v967 v968 v969 v970)) X2
   else
    f89_j8 k v14 v15 v27 v35 false v16 v17 v18 v19 v20 v21 v22 v23 v24 v25 v26 v30 v31 v32 v33 v34 (fun v978 v979 v980 v981 v982 v983 v984 v985 v986 v987 v988 v989 v990 v991 v992 v993 v994 v995 v996 v997 =>
     f89_j9 k v978 v979 v980 v981 v982 v983 v984 v985 v986 v987 v988 v989 v990 v991 v992 v993 v994 v995 v996 v997 X0 (fun v1005 v1006 v1007 v1008 v1009 v1010 v1011 v1012 v1013 v1014 v1015 v1016 v1017 =>
      X1 v1005 (IntKind.i64.wrap (v1006 + 1)) v1007 v1008 v1009 v1010 v1011 v1012 v1013 v1014 v1015 v1016 v1017)) X2))
noncomputable def f89_l3 {R : Type} : Nat → Int → Int → List Int → Int → Int → Int → List D1 → Int → Int → Int → Int → Bool → List D2 → (Int → List D2 → List Int → Int → Int → Int → List D1 → Option R) → (Int → List D2 → List Int → Int → Int → Int → List D1 → Option R) → Option R
  | 0, _, _, _, _, _, _, _, _, _, _, _, _, _, _, _ => none
  | k + 1, v1, v2, v3, v4, v5, v6, v7, v8, v9, v10, v11, v12, v13, X0, X1 =>
  bif decide (v1 < v9) then
   bif (v5 == 0) then
    f89_j5 k v1 v2 v3 v4 v5 v6 v7 v8 v9 v10 v11 v12 v13 X0 (fun v1032 v1033 v1034 v1035 v1036 v1037 v1038 v1039 v1040 v1041 v1042 v1043 v1044 =>
     f89_l3 k v1032 v1033 v1034 v1035 v1036 v1037 v1038 v1039 v1040 v1041 v1042 v1043 v1044 X0 X1) X1
   else
    X0 v1 v13 v3 v4 v5 v6 v7
  else
   X0 v1 v13 v3 v4 v5 v6 v7
noncomputable def f89 {R : Type} (k : Nat) (a0 a1 a2 a3 a4 : Int) (a5 : Bool) (a6 : List Int) (a7 a8 a9 : Int) (K : Int → List Int → Int → Int → Int → List D2 → List D1 → Option R) : Option R :=
 f89_l3 k a0 0 a6 a7 a8 a9 ([] : List D1) a1 a2 a3 a4 a5 ([] : List D2) (fun v1052 v1053 v1054 v1055 v1056 v1057 v1058 =>
  K v1052 v1054 v1055 v1056 v1057 v1053 v1058) (fun v1059 v1060 v1061 v1062 v1063 v1064 v1065 =>
  K v1059 v1061 v1062 v1063 v1064 v1060 v1065)
noncomputable def f89_d {R : Type} (g : f89_T R) (e : Dr D R) : Dr D R := door [.ptr 0 0, .int .i64, .agg [.int .i64, .int .i64, .int .i64, .int .i64, .bool]] [.box [.list (.int .u8), .nil, .int .i64, .int .i64, .int .i64]] (fun (x : (Unit × Int × (Int × Int × Int × Int × Bool × Unit) × Unit)) (y : ((List Int × Unit × Int × Int × Int × Unit) × Unit)) K => g x.2.1 x.2.2.1.1 x.2.2.1.2.1 x.2.2.1.2.2.1 x.2.2.1.2.2.2.1 x.2.2.1.2.2.2.2.1 y.1.1 y.1.2.2.1 y.1.2.2.2.1 y.1.2.2.2.2.1 (fun z0 z1 z2 z3 z4 z5 z6 => K ⟨.tup [.own 1, .int .i64 z0], [some (.box [.list (.int .u8) z1, .own 2, .int .i64 z2, .int .i64 z3, .int .i64 z4]), some (.row (.named 2) z5 true), some (.row (.named 1) z6 true)]⟩)) e
noncomputable def f89_o {R : Type} (k : Nat) : Orc D R := (orcAdd 89 (f89_2_d (f89_2 k) noDr) (orcAdd 104 (f104_2_d (f104_2 k) noDr) (orcAdd 103 (f103_2_d (f103_2 k) noDr) (orcAdd 102 (f102_2_d (f102_2 k) noDr) (orcAdd 105 (f105_2_d (f105_2 k) noDr) (orcAdd 98 (f98_d (f98 k) noDr) (orcAdd 26 (f26_d (f26 k) noDr) (orcAdd 30 (f30_d (f30 k) noDr) noOrc))))))))
theorem f89_o_ok {R : Type} (k : Nat) : OrcOk Try.prog cx (f89_o (R := R) k) := (OrcOk.add (f89_2_ok k FnOk.no) (OrcOk.add (f104_2_ok k FnOk.no) (OrcOk.add (f103_2_ok k FnOk.no) (OrcOk.add (f102_2_ok k FnOk.no) (OrcOk.add (f105_2_ok k FnOk.no) (OrcOk.add (f98_ok k FnOk.no) (OrcOk.add (f26_ok k FnOk.no) (OrcOk.add (f30_ok k FnOk.no) OrcOk.no))))))))
noncomputable def f89_b : Code := bodyOf Try.f89
noncomputable def f89_j8_a : LAnn := ⟨⟨[(.tmp 8, .own 137438986240 (.named 2)), (.cell 0 1, .own 137438986241 (.named 1))], [0, 1, 5, 8, 9, 10, 13, 14, 74], [0, 137438986241, 65632, 137438986240, 458976], []⟩, exOfJ (some ⟨[(.tmp 8, .own 137438988288 (.named 2)), (.cell 0 1, .own 137438988289 (.named 1))], [0, 1, 5, 8, 9, 10, 13, 14], [0, 137438988289, 65632, 137438988288, 458976], []⟩) (some ⟨[(.tmp 6, .own 137438987264 (.named 2)), (.cell 0 1, .own 137438987265 (.named 1))], [6, 7], [137438987264, 0, 137438987265], []⟩) []⟩
noncomputable def f89_j16_a : LAnn := ⟨⟨[(.tmp 8, .own 137439019008 (.named 2)), (.cell 0 1, .own 137439019009 (.named 1))], [0, 1, 5, 8, 9, 10, 13, 14, 15, 17, 122], [0, 137439019009, 65632, 137439019008, 458976, 655616], []⟩, exOfJ (some ⟨[(.tmp 8, .own 137439020032 (.named 2)), (.cell 0 1, .own 137439020033 (.named 1))], [0, 1, 5, 8, 9, 10, 13, 14, 15, 17], [0, 137439020033, 65632, 137439020032, 458976, 655616], []⟩) (none) []⟩
noncomputable def f89_j14_a : LAnn := ⟨⟨[(.tmp 8, .own 137439010816 (.named 2)), (.cell 0 1, .own 137439010817 (.named 1))], [0, 1, 5, 8, 9, 10, 13, 14, 15, 17, 100], [0, 137439010817, 65632, 137439010816, 458976, 655616], []⟩, exOfJ (some ⟨[(.tmp 8, .own 137439011840 (.named 2)), (.cell 0 1, .own 137439011841 (.named 1))], [0, 1, 5, 8, 9, 10, 13, 14, 15, 17], [0, 137439011841, 65632, 137439011840, 458976, 655616], []⟩) (none) []⟩
noncomputable def f89_j33_a : LAnn := ⟨⟨[(.tmp 8, .own 137439088640 (.named 2))], [0, 1, 5, 8, 9, 15, 18, 19, 20, 22], [0, 1772400, 65632, 137439088640, 655616, 1835344, 2031984], []⟩, exOfJ (some ⟨[(.tmp 8, .own 137439089664 (.named 2))], [0, 1, 5, 8, 9, 15, 18, 19, 20, 21], [0, 2231761, 65632, 137439089664, 655616, 1835344, 2231760], []⟩) (none) []⟩
noncomputable def f89_j30_a : LAnn := ⟨⟨[(.tmp 8, .own 137439076352 (.named 2))], [0, 1, 5, 8, 9, 10, 15, 17, 18, 19, 20, 21, 194], [0, 1772400, 65632, 137439076352, 655616, 1835344], []⟩, exOfJ (some ⟨[(.cell 0 1, .own 137439077376 (.named 1)), (.cell 1835344 1, .own 137439077377 (.int .u8)), (.cell 1835344 2, .own 137439077378 (.named 2)), (.tmp 8, .own 137439077379 (.named 2))], [0, 1, 5, 8, 9, 15, 18, 19, 20, 21], [0, 137439077376, 65632, 137439077379, 655616, 1835344, 137439077377, 137439077378], []⟩) (none) []⟩
noncomputable def f89_j35_a : LAnn := ⟨⟨[(.tmp 8, .own 137439096832 (.named 2))], [0, 1, 5, 8, 9, 15, 18, 19, 20, 21], [0, 137439077376, 65632, 137439096832, 655616, 1835344, 137439077377, 137439077378], []⟩, exOfJ (some ⟨[(.tmp 8, .own 137439098880 (.named 2))], [0, 1, 5, 8, 9], [0, 137439077376, 65632, 137439098880], []⟩) (none) [(0, ⟨[(.tmp 8, .own 137439097856 (.named 2))], [1, 8], [137439097856, 0, 137439077376], []⟩)]⟩
noncomputable def f89_j24_a : LAnn := ⟨⟨[(.tmp 8, .own 137439051776 (.named 2)), (.cell 0 1, .own 137439051777 (.named 1))], [0, 1, 5, 8, 9, 10, 13, 15, 17, 18], [0, 137439051777, 65632, 137439051776, 458976, 655616], []⟩, exOfJ (some ⟨[], [0, 1, 5, 8, 9], [0, 137439077376, 65632, 137439098880], []⟩) (none) [(0, ⟨[(.cell 0 1, .own 137439052800 (.named 1)), (.tmp 8, .own 137439052801 (.named 2))], [1, 8], [137439052801, 0, 137439052800], []⟩)]⟩
noncomputable def f89_j20_a : LAnn := ⟨⟨[(.tmp 8, .own 137439035392 (.named 2)), (.cell 0 1, .own 137439035393 (.named 1))], [0, 1, 5, 8, 9, 10, 13, 15, 17, 18], [0, 137439035393, 65632, 137439035392, 458976, 655616], []⟩, exOfJ (some ⟨[], [0, 1, 5, 8, 9], [0, 137439077376, 65632, 137439098880], []⟩) (none) [(0, ⟨[(.tmp 8, .own 137439036416 (.named 2))], [1, 8], [137439036416, 0, 137439052800], []⟩)]⟩
noncomputable def f89_j19_a : LAnn := ⟨⟨[(.tmp 8, .own 137439031296 (.named 2)), (.cell 0 1, .own 137439031297 (.named 1))], [0, 1, 5, 8, 9, 10, 13, 14, 15, 17], [0, 137439031297, 65632, 137439031296, 458976, 655616], []⟩, exOfJ (some ⟨[], [0, 1, 5, 8, 9], [0, 137439077376, 65632, 137439098880], []⟩) (none) [(0, ⟨[(.tmp 8, .own 137439032320 (.named 2))], [1, 8], [137439032320, 0, 137439052800], []⟩)]⟩
noncomputable def f89_j9_a : LAnn := ⟨⟨[(.tmp 8, .own 137438990336 (.named 2)), (.cell 0 1, .own 137438990337 (.named 1))], [0, 1, 5, 8, 9, 10, 13, 14], [0, 137438990337, 65632, 137438990336, 458976], []⟩, exOfJ (some ⟨[], [0, 1, 5, 8, 9], [0, 137439077376, 65632, 137439098880], []⟩) (none) [(0, ⟨[(.cell 0 1, .own 137438991360 (.named 1)), (.tmp 8, .own 137438991361 (.named 2))], [1, 8], [137438991361, 0, 137438991360], []⟩)]⟩
noncomputable def f89_j5_a : LAnn := ⟨⟨[(.tmp 8, .own 137438973952 (.named 2)), (.cell 0 1, .own 137438973953 (.named 1))], [0, 1, 5, 8, 9], [0, 137438973953, 65632, 137438973952], []⟩, exOfJ (some ⟨[], [0, 1, 5, 8, 9], [0, 137439077376, 65632, 137439098880], []⟩) (some ⟨[(.tmp 6, .own 137438977024 (.named 2)), (.cell 0 1, .own 137438977025 (.named 1))], [6, 7], [137438977024, 0, 137438977025], []⟩) [(0, ⟨[(.tmp 8, .own 137438974976 (.named 2))], [1, 8], [137438974976, 0, 137438991360], []⟩)]⟩
noncomputable def f89_l3_a : LAnn := ⟨⟨[(.tmp 8, .own 68719489024 (.named 2)), (.cell 0 1, .own 68719489025 (.named 1))], [0, 1, 5, 8, 9], [0, 68719489025, 65632, 68719489024], []⟩, exOf (some ⟨[], [6, 7], [137438977024, 0, 137438977025], []⟩) [(0, ⟨[(.tmp 8, .own 68719490048 (.named 2)), (.cell 0 1, .own 68719490049 (.named 1))], [1, 8], [68719490048, 0, 68719490049], []⟩)]⟩
noncomputable def f89_ann : Nat → Option LAnn := fun key => bif Nat.beq key 3 then some f89_l3_a else bif Nat.beq key 1000005 then some f89_j5_a else bif Nat.beq key 1000009 then some f89_j9_a else bif Nat.beq key 1000019 then some f89_j19_a else bif Nat.beq key 1000020 then some f89_j20_a else bif Nat.beq key 1000024 then some f89_j24_a else bif Nat.beq key 1000035 then some f89_j35_a else bif Nat.beq key 1000030 then some f89_j30_a else bif Nat.beq key 1000033 then some f89_j33_a else bif Nat.beq key 1000014 then some f89_j14_a else bif Nat.beq key 1000016 then some f89_j16_a else bif Nat.beq key 1000008 then some f89_j8_a else none
noncomputable def f89_j8_b : Code := joinAt f89_ann f89_b 1
noncomputable def f89_j8_g {R : Type} (k : Nat) (x : (Unit × Int × Unit × Unit × Int × Int × Unit × Bool × Bool × Unit)) (y : ((List Int × Unit × Int × Int × Int × Unit) × List D1 × (Int × Int × Int × Int × Bool × Unit) × List D2 × (Int × ByteArray × Int × Bool × Bool × Unit) × Unit)) (K : KX R) : Option R := f89_j8 k x.2.1 x.2.2.2.2.1 x.2.2.2.2.2.1 x.2.2.2.2.2.2.2.1 x.2.2.2.2.2.2.2.2.1 y.1.1 y.1.2.2.1 y.1.2.2.2.1 y.1.2.2.2.2.1 y.2.1 y.2.2.1.1 y.2.2.1.2.1 y.2.2.1.2.2.1 y.2.2.1.2.2.2.1 y.2.2.1.2.2.2.2.1 y.2.2.2.1 y.2.2.2.2.1.1 y.2.2.2.2.1.2.1 y.2.2.2.2.1.2.2.1 y.2.2.2.2.1.2.2.2.1 y.2.2.2.2.1.2.2.2.2.1 (fun z0 z1 z2 z3 z4 z5 z6 z7 z8 z9 z10 z11 z12 z13 z14 z15 z16 z17 z18 z19 => K (.normal) [.ptr 0 0, .int .i64 z0, .ptr 65632 0, .own 137438988288, .int .i64 z1, .int .i64 z2, .ptr 458976 0, .bool z3] [some (.box [.list (.int .u8) z4, .own 137438988289, .int .i64 z5, .int .i64 z6, .int .i64 z7]), some (.row (.named 1) z8 true), some (.box [.int .i64 z9, .int .i64 z10, .int .i64 z11, .int .i64 z12, .bool z13]), some (.row (.named 2) z14 true), some (.box [.int .i64 z15, .str z16, .int .i64 z17, .bool z18, .bool z19])]) (fun z0 z1 z2 z3 z4 z5 z6 => K (.ret) [.own 137438987264, .int .i64 z0] [some (.row (.named 2) z1 true), some (.box [.list (.int .u8) z2, .own 137438987265, .int .i64 z3, .int .i64 z4, .int .i64 z5]), some (.row (.named 1) z6 true)])
noncomputable def f89_j8_d {R : Type} (k : Nat) : Lr D R := ldoor [.ptr 0 0, .int .i64, .ptr 65632 0, .own 137438986240, .int .i64, .int .i64, .ptr 458976 0, .bool, .bool] [some (.box [.list (.int .u8), .own 137438986241, .int .i64, .int .i64, .int .i64]), some (.row (.named 1) true), some (.box [.int .i64, .int .i64, .int .i64, .int .i64, .bool]), some (.row (.named 2) true), some (.box [.int .i64, .str, .int .i64, .bool, .bool])] (f89_j8_g k)
noncomputable def f89_j8_r {R : Type} (_k : Nat) : Lrc D R := noLrc
theorem f89_j8_d_ok {R : Type} (k : Nat) : JoinOk Try.prog cx 262 1 f89_ann (f89_j8_d (R := R) k) f89_j8_b :=
  join_ok (keep := kp) (lrc := f89_j8_r (R := R) k) cxOk mixed (f89_o_ok k) (show f89_ann (Am.keyOf f89_j8_b + 1000000) = some f89_j8_a by kernel_rfl) (L := []) (by kernel_rfl) trivial (J := []) (by kernel_rfl) trivial (LrcNat.no) (fun _x _y _K => by kernel_rfl)
noncomputable def f89_j16_b : Code := joinAt f89_ann f89_b 4
noncomputable def f89_j16_g {R : Type} (k : Nat) (x : (Unit × Int × Unit × Unit × Int × Int × Unit × Bool × Unit × Int × Bool × Unit)) (y : ((List Int × Unit × Int × Int × Int × Unit) × List D1 × (Int × Int × Int × Int × Bool × Unit) × List D2 × (Int × ByteArray × Int × Bool × Bool × Unit) × (Int × Int × Int × Bool × Unit) × Unit)) (K : KX R) : Option R := f89_j16 k x.2.1 x.2.2.2.2.1 x.2.2.2.2.2.1 x.2.2.2.2.2.2.2.1 x.2.2.2.2.2.2.2.2.2.1 x.2.2.2.2.2.2.2.2.2.2.1 y.1.1 y.1.2.2.1 y.1.2.2.2.1 y.1.2.2.2.2.1 y.2.1 y.2.2.1.1 y.2.2.1.2.1 y.2.2.1.2.2.1 y.2.2.1.2.2.2.1 y.2.2.1.2.2.2.2.1 y.2.2.2.1 y.2.2.2.2.1.1 y.2.2.2.2.1.2.1 y.2.2.2.2.1.2.2.1 y.2.2.2.2.1.2.2.2.1 y.2.2.2.2.1.2.2.2.2.1 y.2.2.2.2.2.1.1 y.2.2.2.2.2.1.2.1 y.2.2.2.2.2.1.2.2.1 y.2.2.2.2.2.1.2.2.2.1 (fun z0 z1 z2 z3 z4 z5 z6 z7 z8 z9 z10 z11 z12 z13 z14 z15 z16 z17 z18 z19 z20 z21 z22 z23 z24 => K (.normal) [.ptr 0 0, .int .i64 z0, .ptr 65632 0, .own 137439020032, .int .i64 z1, .int .i64 z2, .ptr 458976 0, .bool z3, .ptr 655616 0, .int .i64 z4] [some (.box [.list (.int .u8) z5, .own 137439020033, .int .i64 z6, .int .i64 z7, .int .i64 z8]), some (.row (.named 1) z9 true), some (.box [.int .i64 z10, .int .i64 z11, .int .i64 z12, .int .i64 z13, .bool z14]), some (.row (.named 2) z15 true), some (.box [.int .i64 z16, .str z17, .int .i64 z18, .bool z19, .bool z20]), some (.box [.int .i64 z21, .int .i64 z22, .int .i64 z23, .bool z24])])
noncomputable def f89_j16_d {R : Type} (k : Nat) : Lr D R := ldoor [.ptr 0 0, .int .i64, .ptr 65632 0, .own 137439019008, .int .i64, .int .i64, .ptr 458976 0, .bool, .ptr 655616 0, .int .i64, .bool] [some (.box [.list (.int .u8), .own 137439019009, .int .i64, .int .i64, .int .i64]), some (.row (.named 1) true), some (.box [.int .i64, .int .i64, .int .i64, .int .i64, .bool]), some (.row (.named 2) true), some (.box [.int .i64, .str, .int .i64, .bool, .bool]), some (.box [.int .i64, .int .i64, .int .i64, .bool])] (f89_j16_g k)
noncomputable def f89_j16_r {R : Type} (_k : Nat) : Lrc D R := noLrc
theorem f89_j16_d_ok {R : Type} (k : Nat) : JoinOk Try.prog cx 262 1 f89_ann (f89_j16_d (R := R) k) f89_j16_b :=
  join_ok (keep := kp) (lrc := f89_j16_r (R := R) k) cxOk mixed (f89_o_ok k) (show f89_ann (Am.keyOf f89_j16_b + 1000000) = some f89_j16_a by kernel_rfl) (L := []) (by kernel_rfl) trivial (J := []) (by kernel_rfl) trivial (LrcNat.no) (fun _x _y _K => by kernel_rfl)
noncomputable def f89_j14_b : Code := joinAt f89_ann f89_b 3
noncomputable def f89_j14_g {R : Type} (k : Nat) (x : (Unit × Int × Unit × Unit × Int × Int × Unit × Bool × Unit × Int × Bool × Unit)) (y : ((List Int × Unit × Int × Int × Int × Unit) × List D1 × (Int × Int × Int × Int × Bool × Unit) × List D2 × (Int × ByteArray × Int × Bool × Bool × Unit) × (Int × Int × Int × Bool × Unit) × Unit)) (K : KX R) : Option R := f89_j14 k x.2.1 x.2.2.2.2.1 x.2.2.2.2.2.1 x.2.2.2.2.2.2.2.1 x.2.2.2.2.2.2.2.2.2.1 x.2.2.2.2.2.2.2.2.2.2.1 y.1.1 y.1.2.2.1 y.1.2.2.2.1 y.1.2.2.2.2.1 y.2.1 y.2.2.1.1 y.2.2.1.2.1 y.2.2.1.2.2.1 y.2.2.1.2.2.2.1 y.2.2.1.2.2.2.2.1 y.2.2.2.1 y.2.2.2.2.1.1 y.2.2.2.2.1.2.1 y.2.2.2.2.1.2.2.1 y.2.2.2.2.1.2.2.2.1 y.2.2.2.2.1.2.2.2.2.1 y.2.2.2.2.2.1.1 y.2.2.2.2.2.1.2.1 y.2.2.2.2.2.1.2.2.1 y.2.2.2.2.2.1.2.2.2.1 (fun z0 z1 z2 z3 z4 z5 z6 z7 z8 z9 z10 z11 z12 z13 z14 z15 z16 z17 z18 z19 z20 z21 z22 z23 z24 => K (.normal) [.ptr 0 0, .int .i64 z0, .ptr 65632 0, .own 137439011840, .int .i64 z1, .int .i64 z2, .ptr 458976 0, .bool z3, .ptr 655616 0, .int .i64 z4] [some (.box [.list (.int .u8) z5, .own 137439011841, .int .i64 z6, .int .i64 z7, .int .i64 z8]), some (.row (.named 1) z9 true), some (.box [.int .i64 z10, .int .i64 z11, .int .i64 z12, .int .i64 z13, .bool z14]), some (.row (.named 2) z15 true), some (.box [.int .i64 z16, .str z17, .int .i64 z18, .bool z19, .bool z20]), some (.box [.int .i64 z21, .int .i64 z22, .int .i64 z23, .bool z24])])
noncomputable def f89_j14_d {R : Type} (k : Nat) : Lr D R := ldoor [.ptr 0 0, .int .i64, .ptr 65632 0, .own 137439010816, .int .i64, .int .i64, .ptr 458976 0, .bool, .ptr 655616 0, .int .i64, .bool] [some (.box [.list (.int .u8), .own 137439010817, .int .i64, .int .i64, .int .i64]), some (.row (.named 1) true), some (.box [.int .i64, .int .i64, .int .i64, .int .i64, .bool]), some (.row (.named 2) true), some (.box [.int .i64, .str, .int .i64, .bool, .bool]), some (.box [.int .i64, .int .i64, .int .i64, .bool])] (f89_j14_g k)
noncomputable def f89_j14_r {R : Type} (k : Nat) : Lrc D R := (lrcAdd 1000016 (f89_j16_d k) noLrc)
theorem f89_j14_d_ok {R : Type} (k : Nat) : JoinOk Try.prog cx 262 1 f89_ann (f89_j14_d (R := R) k) f89_j14_b :=
  join_ok (keep := kp) (lrc := f89_j14_r (R := R) k) cxOk mixed (f89_o_ok k) (show f89_ann (Am.keyOf f89_j14_b + 1000000) = some f89_j14_a by kernel_rfl) (L := []) (by kernel_rfl) trivial (J := [f89_j16_b]) (by kernel_rfl) (⟨(f89_j16_d_ok k).use (by kernel_rfl), trivial⟩) ((LrcNat.add (f89_j16_d_ok k).2 LrcNat.no)) (fun _x _y _K => by kernel_rfl)
noncomputable def f89_j33_b : Code := joinAt f89_ann f89_b 9
noncomputable def f89_j33_g {R : Type} (k : Nat) (x : (Unit × Int × Unit × Unit × Int × Unit × Bool × Int × Unit × Unit × Unit)) (y : ((List Int × Unit × Int × Int × Int × Unit) × List D1 × (Int × Int × Int × Int × Bool × Unit) × List D2 × (Int × Int × Int × Bool × Unit) × (Int × Unit × Unit × Bool × Unit) × (Int × Int × Int × Int × Bool × Unit) × Unit)) (K : KX R) : Option R := f89_j33 k x.2.1 x.2.2.2.2.1 x.2.2.2.2.2.2.1 x.2.2.2.2.2.2.2.1 y.1.1 y.1.2.2.1 y.1.2.2.2.1 y.1.2.2.2.2.1 y.2.1 y.2.2.1.1 y.2.2.1.2.1 y.2.2.1.2.2.1 y.2.2.1.2.2.2.1 y.2.2.1.2.2.2.2.1 y.2.2.2.1 y.2.2.2.2.1.1 y.2.2.2.2.1.2.1 y.2.2.2.2.1.2.2.1 y.2.2.2.2.1.2.2.2.1 y.2.2.2.2.2.1.1 y.2.2.2.2.2.1.2.2.2.1 y.2.2.2.2.2.2.1.1 y.2.2.2.2.2.2.1.2.1 y.2.2.2.2.2.2.1.2.2.1 y.2.2.2.2.2.2.1.2.2.2.1 y.2.2.2.2.2.2.1.2.2.2.2.1 (fun z0 z1 z2 z3 z4 z5 z6 z7 z8 z9 z10 z11 z12 z13 z14 z15 z16 z17 z18 z19 z20 z21 z22 => K (.normal) [.ptr 0 0, .int .i64 z0, .ptr 65632 0, .own 137439089664, .int .i64 z1, .ptr 655616 0, .bool z2, .int .i64 z3, .ptr 1835344 0, .int .i64 z4] [some (.box [.list (.int .u8) z5, .own 2231761, .int .i64 z6, .int .i64 z7, .int .i64 z8]), some (.row (.named 1) z9 true), some (.box [.int .i64 z10, .int .i64 z11, .int .i64 z12, .int .i64 z13, .bool z14]), some (.row (.named 2) z15 true), some (.box [.int .i64 z16, .int .i64 z17, .int .i64 z18, .bool z19]), some (.box [.int .i64 z20, .nil, .own 2231760, .bool z21]), some (.row (.named 2) z22 true)])
noncomputable def f89_j33_d {R : Type} (k : Nat) : Lr D R := ldoor [.ptr 0 0, .int .i64, .ptr 65632 0, .own 137439088640, .int .i64, .ptr 655616 0, .bool, .int .i64, .ptr 1835344 0, .ptr 2031984 0] [some (.box [.list (.int .u8), .own 1772400, .int .i64, .int .i64, .int .i64]), some (.row (.named 1) true), some (.box [.int .i64, .int .i64, .int .i64, .int .i64, .bool]), some (.row (.named 2) true), some (.box [.int .i64, .int .i64, .int .i64, .bool]), some (.box [.int .i64, .nil, .nil, .bool]), some (.box [.int .i64, .int .i64, .int .i64, .int .i64, .bool])] (f89_j33_g k)
noncomputable def f89_j33_r {R : Type} (_k : Nat) : Lrc D R := noLrc
theorem f89_j33_d_ok {R : Type} (k : Nat) : JoinOk Try.prog cx 262 1 f89_ann (f89_j33_d (R := R) k) f89_j33_b :=
  join_ok (keep := kp) (lrc := f89_j33_r (R := R) k) cxOk mixed (f89_o_ok k) (show f89_ann (Am.keyOf f89_j33_b + 1000000) = some f89_j33_a by kernel_rfl) (L := []) (by kernel_rfl) trivial (J := []) (by kernel_rfl) trivial (LrcNat.no) (fun _x _y _K => by kernel_rfl)
noncomputable def f89_j30_b : Code := joinAt f89_ann f89_b 8
noncomputable def f89_j30_g {R : Type} (k : Nat) (x : (Unit × Int × Unit × Unit × Int × Int × Unit × Int × Bool × Int × Unit × Int × Bool × Unit)) (y : ((List Int × Unit × Int × Int × Int × Unit) × List D1 × (Int × Int × Int × Int × Bool × Unit) × List D2 × (Int × Int × Int × Bool × Unit) × (Int × Unit × Unit × Bool × Unit) × Unit)) (K : KX R) : Option R := f89_j30 k x.2.1 x.2.2.2.2.1 x.2.2.2.2.2.1 x.2.2.2.2.2.2.2.1 x.2.2.2.2.2.2.2.2.1 x.2.2.2.2.2.2.2.2.2.1 x.2.2.2.2.2.2.2.2.2.2.2.1 x.2.2.2.2.2.2.2.2.2.2.2.2.1 y.1.1 y.1.2.2.1 y.1.2.2.2.1 y.1.2.2.2.2.1 y.2.1 y.2.2.1.1 y.2.2.1.2.1 y.2.2.1.2.2.1 y.2.2.1.2.2.2.1 y.2.2.1.2.2.2.2.1 y.2.2.2.1 y.2.2.2.2.1.1 y.2.2.2.2.1.2.1 y.2.2.2.2.1.2.2.1 y.2.2.2.2.1.2.2.2.1 y.2.2.2.2.2.1.1 y.2.2.2.2.2.1.2.2.2.1 (fun z0 z1 z2 z3 z4 z5 z6 z7 z8 z9 z10 z11 z12 z13 z14 z15 z16 z17 z18 z19 z20 z21 z22 z23 => K (.normal) [.ptr 0 0, .int .i64 z0, .ptr 65632 0, .own 137439077379, .int .i64 z1, .ptr 655616 0, .bool z2, .int .i64 z3, .ptr 1835344 0, .int .i64 z4] [some (.box [.list (.int .u8) z5, .own 137439077376, .int .i64 z6, .int .i64 z7, .int .i64 z8]), some (.row (.named 1) z9 true), some (.box [.int .i64 z10, .int .i64 z11, .int .i64 z12, .int .i64 z13, .bool z14]), some (.row (.named 2) z15 true), some (.box [.int .i64 z16, .int .i64 z17, .int .i64 z18, .bool z19]), some (.box [.int .i64 z20, .own 137439077377, .own 137439077378, .bool z21]), some (.row (.int .u8) z22 true), some (.row (.named 2) z23 true)])
noncomputable def f89_j30_d {R : Type} (k : Nat) : Lr D R := ldoor [.ptr 0 0, .int .i64, .ptr 65632 0, .own 137439076352, .int .i64, .int .i64, .ptr 655616 0, .int .i64, .bool, .int .i64, .ptr 1835344 0, .int .i64, .bool] [some (.box [.list (.int .u8), .own 1772400, .int .i64, .int .i64, .int .i64]), some (.row (.named 1) true), some (.box [.int .i64, .int .i64, .int .i64, .int .i64, .bool]), some (.row (.named 2) true), some (.box [.int .i64, .int .i64, .int .i64, .bool]), some (.box [.int .i64, .nil, .nil, .bool])] (f89_j30_g k)
noncomputable def f89_j30_r {R : Type} (k : Nat) : Lrc D R := (lrcAdd 1000033 (f89_j33_d k) noLrc)
theorem f89_j30_d_ok {R : Type} (k : Nat) : JoinOk Try.prog cx 262 1 f89_ann (f89_j30_d (R := R) k) f89_j30_b :=
  join_ok (keep := kp) (lrc := f89_j30_r (R := R) k) cxOk mixed (f89_o_ok k) (show f89_ann (Am.keyOf f89_j30_b + 1000000) = some f89_j30_a by kernel_rfl) (L := []) (by kernel_rfl) trivial (J := [f89_j33_b]) (by kernel_rfl) (⟨(f89_j33_d_ok k).use (by kernel_rfl), trivial⟩) ((LrcNat.add (f89_j33_d_ok k).2 LrcNat.no)) (fun _x _y _K => by kernel_rfl)
noncomputable def f89_j35_b : Code := joinAt f89_ann f89_b 10
noncomputable def f89_j35_g {R : Type} (k : Nat) (x : (Unit × Int × Unit × Unit × Int × Unit × Bool × Int × Unit × Int × Unit)) (y : ((List Int × Unit × Int × Int × Int × Unit) × List D1 × (Int × Int × Int × Int × Bool × Unit) × List D2 × (Int × Int × Int × Bool × Unit) × (Int × Unit × Unit × Bool × Unit) × List Int × List D2 × Unit)) (K : KX R) : Option R := f89_j35 k x.2.1 x.2.2.2.2.1 x.2.2.2.2.2.2.1 x.2.2.2.2.2.2.2.1 x.2.2.2.2.2.2.2.2.2.1 y.1.1 y.1.2.2.1 y.1.2.2.2.1 y.1.2.2.2.2.1 y.2.1 y.2.2.1.1 y.2.2.1.2.1 y.2.2.1.2.2.1 y.2.2.1.2.2.2.1 y.2.2.1.2.2.2.2.1 y.2.2.2.1 y.2.2.2.2.1.1 y.2.2.2.2.1.2.1 y.2.2.2.2.1.2.2.1 y.2.2.2.2.1.2.2.2.1 y.2.2.2.2.2.1.1 y.2.2.2.2.2.1.2.2.2.1 y.2.2.2.2.2.2.1 y.2.2.2.2.2.2.2.1 (fun z0 z1 z2 z3 z4 z5 z6 => K (.exit 0) [.int .i64 z0, .own 137439097856] [some (.row (.named 2) z1 true), some (.box [.list (.int .u8) z2, .own 137439077376, .int .i64 z3, .int .i64 z4, .int .i64 z5]), some (.row (.named 1) z6 true)]) (fun z0 z1 z2 z3 z4 z5 z6 z7 z8 z9 z10 z11 z12 => K (.normal) [.ptr 0 0, .int .i64 z0, .ptr 65632 0, .own 137439098880, .int .i64 z1] [some (.box [.list (.int .u8) z2, .own 137439077376, .int .i64 z3, .int .i64 z4, .int .i64 z5]), some (.row (.named 1) z6 true), some (.box [.int .i64 z7, .int .i64 z8, .int .i64 z9, .int .i64 z10, .bool z11]), some (.row (.named 2) z12 true)])
noncomputable def f89_j35_d {R : Type} (k : Nat) : Lr D R := ldoor [.ptr 0 0, .int .i64, .ptr 65632 0, .own 137439096832, .int .i64, .ptr 655616 0, .bool, .int .i64, .ptr 1835344 0, .int .i64] [some (.box [.list (.int .u8), .own 137439077376, .int .i64, .int .i64, .int .i64]), some (.row (.named 1) true), some (.box [.int .i64, .int .i64, .int .i64, .int .i64, .bool]), some (.row (.named 2) true), some (.box [.int .i64, .int .i64, .int .i64, .bool]), some (.box [.int .i64, .own 137439077377, .own 137439077378, .bool]), some (.row (.int .u8) true), some (.row (.named 2) true)] (f89_j35_g k)
noncomputable def f89_j35_r {R : Type} (_k : Nat) : Lrc D R := noLrc
theorem f89_j35_d_ok {R : Type} (k : Nat) : JoinOk Try.prog cx 262 1 f89_ann (f89_j35_d (R := R) k) f89_j35_b :=
  join_ok (keep := kp) (lrc := f89_j35_r (R := R) k) cxOk mixed (f89_o_ok k) (show f89_ann (Am.keyOf f89_j35_b + 1000000) = some f89_j35_a by kernel_rfl) (L := []) (by kernel_rfl) trivial (J := []) (by kernel_rfl) trivial (LrcNat.no) (fun _x _y _K => by kernel_rfl)
noncomputable def f89_j24_b : Code := joinAt f89_ann f89_b 7
noncomputable def f89_j24_g {R : Type} (k : Nat) (x : (Unit × Int × Unit × Unit × Int × Int × Unit × Unit × Int × Bool × Unit)) (y : ((List Int × Unit × Int × Int × Int × Unit) × List D1 × (Int × Int × Int × Int × Bool × Unit) × List D2 × (Int × ByteArray × Int × Bool × Bool × Unit) × (Int × Int × Int × Bool × Unit) × Unit)) (K : KX R) : Option R := f89_j24 k x.2.1 x.2.2.2.2.1 x.2.2.2.2.2.1 x.2.2.2.2.2.2.2.2.1 x.2.2.2.2.2.2.2.2.2.1 y.1.1 y.1.2.2.1 y.1.2.2.2.1 y.1.2.2.2.2.1 y.2.1 y.2.2.1.1 y.2.2.1.2.1 y.2.2.1.2.2.1 y.2.2.1.2.2.2.1 y.2.2.1.2.2.2.2.1 y.2.2.2.1 y.2.2.2.2.1.1 y.2.2.2.2.1.2.1 y.2.2.2.2.1.2.2.1 y.2.2.2.2.1.2.2.2.1 y.2.2.2.2.1.2.2.2.2.1 y.2.2.2.2.2.1.1 y.2.2.2.2.2.1.2.1 y.2.2.2.2.2.1.2.2.1 y.2.2.2.2.2.1.2.2.2.1 (fun z0 z1 z2 z3 z4 z5 z6 => K (.exit 0) [.int .i64 z0, .own 137439052801] [some (.row (.named 2) z1 true), some (.box [.list (.int .u8) z2, .own 137439052800, .int .i64 z3, .int .i64 z4, .int .i64 z5]), some (.row (.named 1) z6 true)]) (fun z0 z1 z2 z3 z4 z5 z6 z7 z8 z9 z10 z11 z12 => K (.normal) [.ptr 0 0, .int .i64 z0, .ptr 65632 0, .own 137439098880, .int .i64 z1] [some (.box [.list (.int .u8) z2, .own 137439077376, .int .i64 z3, .int .i64 z4, .int .i64 z5]), some (.row (.named 1) z6 true), some (.box [.int .i64 z7, .int .i64 z8, .int .i64 z9, .int .i64 z10, .bool z11]), some (.row (.named 2) z12 true)])
noncomputable def f89_j24_d {R : Type} (k : Nat) : Lr D R := ldoor [.ptr 0 0, .int .i64, .ptr 65632 0, .own 137439051776, .int .i64, .int .i64, .ptr 458976 0, .ptr 655616 0, .int .i64, .bool] [some (.box [.list (.int .u8), .own 137439051777, .int .i64, .int .i64, .int .i64]), some (.row (.named 1) true), some (.box [.int .i64, .int .i64, .int .i64, .int .i64, .bool]), some (.row (.named 2) true), some (.box [.int .i64, .str, .int .i64, .bool, .bool]), some (.box [.int .i64, .int .i64, .int .i64, .bool])] (f89_j24_g k)
noncomputable def f89_j24_r {R : Type} (k : Nat) : Lrc D R := (lrcAdd 1000035 (f89_j35_d k) (lrcAdd 1000033 (f89_j33_d k) (lrcAdd 1000030 (f89_j30_d k) noLrc)))
theorem f89_j24_d_ok {R : Type} (k : Nat) : JoinOk Try.prog cx 262 1 f89_ann (f89_j24_d (R := R) k) f89_j24_b :=
  join_ok (keep := kp) (lrc := f89_j24_r (R := R) k) cxOk mixed (f89_o_ok k) (show f89_ann (Am.keyOf f89_j24_b + 1000000) = some f89_j24_a by kernel_rfl) (L := []) (by kernel_rfl) trivial (J := [f89_j30_b, f89_j33_b, f89_j35_b]) (by kernel_rfl) (⟨(f89_j30_d_ok k).use (by kernel_rfl), (f89_j33_d_ok k).use (by kernel_rfl), (f89_j35_d_ok k).use (by kernel_rfl), trivial⟩) ((LrcNat.add (f89_j35_d_ok k).2 (LrcNat.add (f89_j33_d_ok k).2 (LrcNat.add (f89_j30_d_ok k).2 LrcNat.no)))) (fun _x _y _K => by kernel_rfl)
noncomputable def f89_j20_b : Code := joinAt f89_ann f89_b 6
noncomputable def f89_j20_g {R : Type} (k : Nat) (x : (Unit × Int × Unit × Unit × Int × Int × Unit × Unit × Int × Bool × Unit)) (y : ((List Int × Unit × Int × Int × Int × Unit) × List D1 × (Int × Int × Int × Int × Bool × Unit) × List D2 × (Int × ByteArray × Int × Bool × Bool × Unit) × (Int × Int × Int × Bool × Unit) × Unit)) (K : KX R) : Option R := f89_j20 k x.2.1 x.2.2.2.2.1 x.2.2.2.2.2.1 x.2.2.2.2.2.2.2.2.1 x.2.2.2.2.2.2.2.2.2.1 y.1.1 y.1.2.2.1 y.1.2.2.2.1 y.1.2.2.2.2.1 y.2.1 y.2.2.1.1 y.2.2.1.2.1 y.2.2.1.2.2.1 y.2.2.1.2.2.2.1 y.2.2.1.2.2.2.2.1 y.2.2.2.1 y.2.2.2.2.1.1 y.2.2.2.2.1.2.1 y.2.2.2.2.1.2.2.1 y.2.2.2.2.1.2.2.2.1 y.2.2.2.2.1.2.2.2.2.1 y.2.2.2.2.2.1.1 y.2.2.2.2.2.1.2.1 y.2.2.2.2.2.1.2.2.1 y.2.2.2.2.2.1.2.2.2.1 (fun z0 z1 z2 z3 z4 z5 z6 => K (.exit 0) [.int .i64 z0, .own 137439036416] [some (.row (.named 2) z1 true), some (.box [.list (.int .u8) z2, .own 137439052800, .int .i64 z3, .int .i64 z4, .int .i64 z5]), some (.row (.named 1) z6 true)]) (fun z0 z1 z2 z3 z4 z5 z6 z7 z8 z9 z10 z11 z12 => K (.normal) [.ptr 0 0, .int .i64 z0, .ptr 65632 0, .own 137439098880, .int .i64 z1] [some (.box [.list (.int .u8) z2, .own 137439077376, .int .i64 z3, .int .i64 z4, .int .i64 z5]), some (.row (.named 1) z6 true), some (.box [.int .i64 z7, .int .i64 z8, .int .i64 z9, .int .i64 z10, .bool z11]), some (.row (.named 2) z12 true)])
noncomputable def f89_j20_d {R : Type} (k : Nat) : Lr D R := ldoor [.ptr 0 0, .int .i64, .ptr 65632 0, .own 137439035392, .int .i64, .int .i64, .ptr 458976 0, .ptr 655616 0, .int .i64, .bool] [some (.box [.list (.int .u8), .own 137439035393, .int .i64, .int .i64, .int .i64]), some (.row (.named 1) true), some (.box [.int .i64, .int .i64, .int .i64, .int .i64, .bool]), some (.row (.named 2) true), some (.box [.int .i64, .str, .int .i64, .bool, .bool]), some (.box [.int .i64, .int .i64, .int .i64, .bool])] (f89_j20_g k)
noncomputable def f89_j20_r {R : Type} (k : Nat) : Lrc D R := (lrcAdd 1000035 (f89_j35_d k) (lrcAdd 1000033 (f89_j33_d k) (lrcAdd 1000030 (f89_j30_d k) (lrcAdd 1000024 (f89_j24_d k) noLrc))))
theorem f89_j20_d_ok {R : Type} (k : Nat) : JoinOk Try.prog cx 262 1 f89_ann (f89_j20_d (R := R) k) f89_j20_b :=
  join_ok (keep := kp) (lrc := f89_j20_r (R := R) k) cxOk mixed (f89_o_ok k) (show f89_ann (Am.keyOf f89_j20_b + 1000000) = some f89_j20_a by kernel_rfl) (L := []) (by kernel_rfl) trivial (J := [f89_j24_b, f89_j30_b, f89_j33_b, f89_j35_b]) (by kernel_rfl) (⟨(f89_j24_d_ok k).use (by kernel_rfl), (f89_j30_d_ok k).use (by kernel_rfl), (f89_j33_d_ok k).use (by kernel_rfl), (f89_j35_d_ok k).use (by kernel_rfl), trivial⟩) ((LrcNat.add (f89_j35_d_ok k).2 (LrcNat.add (f89_j33_d_ok k).2 (LrcNat.add (f89_j30_d_ok k).2 (LrcNat.add (f89_j24_d_ok k).2 LrcNat.no))))) (fun _x _y _K => by kernel_rfl)
noncomputable def f89_j19_b : Code := joinAt f89_ann f89_b 5
noncomputable def f89_j19_g {R : Type} (k : Nat) (x : (Unit × Int × Unit × Unit × Int × Int × Unit × Bool × Unit × Int × Unit)) (y : ((List Int × Unit × Int × Int × Int × Unit) × List D1 × (Int × Int × Int × Int × Bool × Unit) × List D2 × (Int × ByteArray × Int × Bool × Bool × Unit) × (Int × Int × Int × Bool × Unit) × Unit)) (K : KX R) : Option R := f89_j19 k x.2.1 x.2.2.2.2.1 x.2.2.2.2.2.1 x.2.2.2.2.2.2.2.1 x.2.2.2.2.2.2.2.2.2.1 y.1.1 y.1.2.2.1 y.1.2.2.2.1 y.1.2.2.2.2.1 y.2.1 y.2.2.1.1 y.2.2.1.2.1 y.2.2.1.2.2.1 y.2.2.1.2.2.2.1 y.2.2.1.2.2.2.2.1 y.2.2.2.1 y.2.2.2.2.1.1 y.2.2.2.2.1.2.1 y.2.2.2.2.1.2.2.1 y.2.2.2.2.1.2.2.2.1 y.2.2.2.2.1.2.2.2.2.1 y.2.2.2.2.2.1.1 y.2.2.2.2.2.1.2.1 y.2.2.2.2.2.1.2.2.1 y.2.2.2.2.2.1.2.2.2.1 (fun z0 z1 z2 z3 z4 z5 z6 => K (.exit 0) [.int .i64 z0, .own 137439032320] [some (.row (.named 2) z1 true), some (.box [.list (.int .u8) z2, .own 137439052800, .int .i64 z3, .int .i64 z4, .int .i64 z5]), some (.row (.named 1) z6 true)]) (fun z0 z1 z2 z3 z4 z5 z6 z7 z8 z9 z10 z11 z12 => K (.normal) [.ptr 0 0, .int .i64 z0, .ptr 65632 0, .own 137439098880, .int .i64 z1] [some (.box [.list (.int .u8) z2, .own 137439077376, .int .i64 z3, .int .i64 z4, .int .i64 z5]), some (.row (.named 1) z6 true), some (.box [.int .i64 z7, .int .i64 z8, .int .i64 z9, .int .i64 z10, .bool z11]), some (.row (.named 2) z12 true)])
noncomputable def f89_j19_d {R : Type} (k : Nat) : Lr D R := ldoor [.ptr 0 0, .int .i64, .ptr 65632 0, .own 137439031296, .int .i64, .int .i64, .ptr 458976 0, .bool, .ptr 655616 0, .int .i64] [some (.box [.list (.int .u8), .own 137439031297, .int .i64, .int .i64, .int .i64]), some (.row (.named 1) true), some (.box [.int .i64, .int .i64, .int .i64, .int .i64, .bool]), some (.row (.named 2) true), some (.box [.int .i64, .str, .int .i64, .bool, .bool]), some (.box [.int .i64, .int .i64, .int .i64, .bool])] (f89_j19_g k)
noncomputable def f89_j19_r {R : Type} (k : Nat) : Lrc D R := (lrcAdd 1000035 (f89_j35_d k) (lrcAdd 1000033 (f89_j33_d k) (lrcAdd 1000030 (f89_j30_d k) (lrcAdd 1000024 (f89_j24_d k) (lrcAdd 1000020 (f89_j20_d k) noLrc)))))
theorem f89_j19_d_ok {R : Type} (k : Nat) : JoinOk Try.prog cx 262 1 f89_ann (f89_j19_d (R := R) k) f89_j19_b :=
  join_ok (keep := kp) (lrc := f89_j19_r (R := R) k) cxOk mixed (f89_o_ok k) (show f89_ann (Am.keyOf f89_j19_b + 1000000) = some f89_j19_a by kernel_rfl) (L := []) (by kernel_rfl) trivial (J := [f89_j20_b, f89_j24_b, f89_j30_b, f89_j33_b, f89_j35_b]) (by kernel_rfl) (⟨(f89_j20_d_ok k).use (by kernel_rfl), (f89_j24_d_ok k).use (by kernel_rfl), (f89_j30_d_ok k).use (by kernel_rfl), (f89_j33_d_ok k).use (by kernel_rfl), (f89_j35_d_ok k).use (by kernel_rfl), trivial⟩) ((LrcNat.add (f89_j35_d_ok k).2 (LrcNat.add (f89_j33_d_ok k).2 (LrcNat.add (f89_j30_d_ok k).2 (LrcNat.add (f89_j24_d_ok k).2 (LrcNat.add (f89_j20_d_ok k).2 LrcNat.no)))))) (fun _x _y _K => by kernel_rfl)
noncomputable def f89_j9_b : Code := joinAt f89_ann f89_b 2
noncomputable def f89_j9_g {R : Type} (k : Nat) (x : (Unit × Int × Unit × Unit × Int × Int × Unit × Bool × Unit)) (y : ((List Int × Unit × Int × Int × Int × Unit) × List D1 × (Int × Int × Int × Int × Bool × Unit) × List D2 × (Int × ByteArray × Int × Bool × Bool × Unit) × Unit)) (K : KX R) : Option R := f89_j9 k x.2.1 x.2.2.2.2.1 x.2.2.2.2.2.1 x.2.2.2.2.2.2.2.1 y.1.1 y.1.2.2.1 y.1.2.2.2.1 y.1.2.2.2.2.1 y.2.1 y.2.2.1.1 y.2.2.1.2.1 y.2.2.1.2.2.1 y.2.2.1.2.2.2.1 y.2.2.1.2.2.2.2.1 y.2.2.2.1 y.2.2.2.2.1.1 y.2.2.2.2.1.2.1 y.2.2.2.2.1.2.2.1 y.2.2.2.2.1.2.2.2.1 y.2.2.2.2.1.2.2.2.2.1 (fun z0 z1 z2 z3 z4 z5 z6 => K (.exit 0) [.int .i64 z0, .own 137438991361] [some (.row (.named 2) z1 true), some (.box [.list (.int .u8) z2, .own 137438991360, .int .i64 z3, .int .i64 z4, .int .i64 z5]), some (.row (.named 1) z6 true)]) (fun z0 z1 z2 z3 z4 z5 z6 z7 z8 z9 z10 z11 z12 => K (.normal) [.ptr 0 0, .int .i64 z0, .ptr 65632 0, .own 137439098880, .int .i64 z1] [some (.box [.list (.int .u8) z2, .own 137439077376, .int .i64 z3, .int .i64 z4, .int .i64 z5]), some (.row (.named 1) z6 true), some (.box [.int .i64 z7, .int .i64 z8, .int .i64 z9, .int .i64 z10, .bool z11]), some (.row (.named 2) z12 true)])
noncomputable def f89_j9_d {R : Type} (k : Nat) : Lr D R := ldoor [.ptr 0 0, .int .i64, .ptr 65632 0, .own 137438990336, .int .i64, .int .i64, .ptr 458976 0, .bool] [some (.box [.list (.int .u8), .own 137438990337, .int .i64, .int .i64, .int .i64]), some (.row (.named 1) true), some (.box [.int .i64, .int .i64, .int .i64, .int .i64, .bool]), some (.row (.named 2) true), some (.box [.int .i64, .str, .int .i64, .bool, .bool])] (f89_j9_g k)
noncomputable def f89_j9_r {R : Type} (k : Nat) : Lrc D R := (lrcAdd 1000035 (f89_j35_d k) (lrcAdd 1000033 (f89_j33_d k) (lrcAdd 1000030 (f89_j30_d k) (lrcAdd 1000024 (f89_j24_d k) (lrcAdd 1000020 (f89_j20_d k) (lrcAdd 1000019 (f89_j19_d k) (lrcAdd 1000016 (f89_j16_d k) (lrcAdd 1000014 (f89_j14_d k) noLrc))))))))
theorem f89_j9_d_ok {R : Type} (k : Nat) : JoinOk Try.prog cx 262 1 f89_ann (f89_j9_d (R := R) k) f89_j9_b :=
  join_ok (keep := kp) (lrc := f89_j9_r (R := R) k) cxOk mixed (f89_o_ok k) (show f89_ann (Am.keyOf f89_j9_b + 1000000) = some f89_j9_a by kernel_rfl) (L := []) (by kernel_rfl) trivial (J := [f89_j14_b, f89_j16_b, f89_j19_b, f89_j20_b, f89_j24_b, f89_j30_b, f89_j33_b, f89_j35_b]) (by kernel_rfl) (⟨(f89_j14_d_ok k).use (by kernel_rfl), (f89_j16_d_ok k).use (by kernel_rfl), (f89_j19_d_ok k).use (by kernel_rfl), (f89_j20_d_ok k).use (by kernel_rfl), (f89_j24_d_ok k).use (by kernel_rfl), (f89_j30_d_ok k).use (by kernel_rfl), (f89_j33_d_ok k).use (by kernel_rfl), (f89_j35_d_ok k).use (by kernel_rfl), trivial⟩) ((LrcNat.add (f89_j35_d_ok k).2 (LrcNat.add (f89_j33_d_ok k).2 (LrcNat.add (f89_j30_d_ok k).2 (LrcNat.add (f89_j24_d_ok k).2 (LrcNat.add (f89_j20_d_ok k).2 (LrcNat.add (f89_j19_d_ok k).2 (LrcNat.add (f89_j16_d_ok k).2 (LrcNat.add (f89_j14_d_ok k).2 LrcNat.no))))))))) (fun _x _y _K => by kernel_rfl)
noncomputable def f89_j5_b : Code := joinAt f89_ann f89_b 0
noncomputable def f89_j5_g {R : Type} (k : Nat) (x : (Unit × Int × Unit × Unit × Int × Unit)) (y : ((List Int × Unit × Int × Int × Int × Unit) × List D1 × (Int × Int × Int × Int × Bool × Unit) × List D2 × Unit)) (K : KX R) : Option R := f89_j5 k x.2.1 x.2.2.2.2.1 y.1.1 y.1.2.2.1 y.1.2.2.2.1 y.1.2.2.2.2.1 y.2.1 y.2.2.1.1 y.2.2.1.2.1 y.2.2.1.2.2.1 y.2.2.1.2.2.2.1 y.2.2.1.2.2.2.2.1 y.2.2.2.1 (fun z0 z1 z2 z3 z4 z5 z6 => K (.exit 0) [.int .i64 z0, .own 137438974976] [some (.row (.named 2) z1 true), some (.box [.list (.int .u8) z2, .own 137438991360, .int .i64 z3, .int .i64 z4, .int .i64 z5]), some (.row (.named 1) z6 true)]) (fun z0 z1 z2 z3 z4 z5 z6 z7 z8 z9 z10 z11 z12 => K (.normal) [.ptr 0 0, .int .i64 z0, .ptr 65632 0, .own 137439098880, .int .i64 z1] [some (.box [.list (.int .u8) z2, .own 137439077376, .int .i64 z3, .int .i64 z4, .int .i64 z5]), some (.row (.named 1) z6 true), some (.box [.int .i64 z7, .int .i64 z8, .int .i64 z9, .int .i64 z10, .bool z11]), some (.row (.named 2) z12 true)]) (fun z0 z1 z2 z3 z4 z5 z6 => K (.ret) [.own 137438977024, .int .i64 z0] [some (.row (.named 2) z1 true), some (.box [.list (.int .u8) z2, .own 137438977025, .int .i64 z3, .int .i64 z4, .int .i64 z5]), some (.row (.named 1) z6 true)])
noncomputable def f89_j5_d {R : Type} (k : Nat) : Lr D R := ldoor [.ptr 0 0, .int .i64, .ptr 65632 0, .own 137438973952, .int .i64] [some (.box [.list (.int .u8), .own 137438973953, .int .i64, .int .i64, .int .i64]), some (.row (.named 1) true), some (.box [.int .i64, .int .i64, .int .i64, .int .i64, .bool]), some (.row (.named 2) true)] (f89_j5_g k)
noncomputable def f89_j5_r {R : Type} (k : Nat) : Lrc D R := (lrcAdd 1000035 (f89_j35_d k) (lrcAdd 1000033 (f89_j33_d k) (lrcAdd 1000030 (f89_j30_d k) (lrcAdd 1000024 (f89_j24_d k) (lrcAdd 1000020 (f89_j20_d k) (lrcAdd 1000019 (f89_j19_d k) (lrcAdd 1000016 (f89_j16_d k) (lrcAdd 1000014 (f89_j14_d k) (lrcAdd 1000009 (f89_j9_d k) (lrcAdd 1000008 (f89_j8_d k) noLrc))))))))))
theorem f89_j5_d_ok {R : Type} (k : Nat) : JoinOk Try.prog cx 262 1 f89_ann (f89_j5_d (R := R) k) f89_j5_b :=
  join_ok (keep := kp) (lrc := f89_j5_r (R := R) k) cxOk mixed (f89_o_ok k) (show f89_ann (Am.keyOf f89_j5_b + 1000000) = some f89_j5_a by kernel_rfl) (L := []) (by kernel_rfl) trivial (J := [f89_j8_b, f89_j9_b, f89_j14_b, f89_j16_b, f89_j19_b, f89_j20_b, f89_j24_b, f89_j30_b, f89_j33_b, f89_j35_b]) (by kernel_rfl) (⟨(f89_j8_d_ok k).use (by kernel_rfl), (f89_j9_d_ok k).use (by kernel_rfl), (f89_j14_d_ok k).use (by kernel_rfl), (f89_j16_d_ok k).use (by kernel_rfl), (f89_j19_d_ok k).use (by kernel_rfl), (f89_j20_d_ok k).use (by kernel_rfl), (f89_j24_d_ok k).use (by kernel_rfl), (f89_j30_d_ok k).use (by kernel_rfl), (f89_j33_d_ok k).use (by kernel_rfl), (f89_j35_d_ok k).use (by kernel_rfl), trivial⟩) ((LrcNat.add (f89_j35_d_ok k).2 (LrcNat.add (f89_j33_d_ok k).2 (LrcNat.add (f89_j30_d_ok k).2 (LrcNat.add (f89_j24_d_ok k).2 (LrcNat.add (f89_j20_d_ok k).2 (LrcNat.add (f89_j19_d_ok k).2 (LrcNat.add (f89_j16_d_ok k).2 (LrcNat.add (f89_j14_d_ok k).2 (LrcNat.add (f89_j9_d_ok k).2 (LrcNat.add (f89_j8_d_ok k).2 LrcNat.no))))))))))) (fun _x _y _K => by kernel_rfl)
noncomputable def f89_l3_b : Code := loopAt f89_b 0
noncomputable def f89_l3_g {R : Type} (k : Nat) (x : (Unit × Int × Unit × Unit × Int × Unit)) (y : ((List Int × Unit × Int × Int × Int × Unit) × List D1 × (Int × Int × Int × Int × Bool × Unit) × List D2 × Unit)) (K : KX R) : Option R := f89_l3 k x.2.1 x.2.2.2.2.1 y.1.1 y.1.2.2.1 y.1.2.2.2.1 y.1.2.2.2.2.1 y.2.1 y.2.2.1.1 y.2.2.1.2.1 y.2.2.1.2.2.1 y.2.2.1.2.2.2.1 y.2.2.1.2.2.2.2.1 y.2.2.2.1 (fun z0 z1 z2 z3 z4 z5 z6 => K (.exit 0) [.int .i64 z0, .own 68719490048] [some (.row (.named 2) z1 true), some (.box [.list (.int .u8) z2, .own 68719490049, .int .i64 z3, .int .i64 z4, .int .i64 z5]), some (.row (.named 1) z6 true)]) (fun z0 z1 z2 z3 z4 z5 z6 => K (.ret) [.own 137438977024, .int .i64 z0] [some (.row (.named 2) z1 true), some (.box [.list (.int .u8) z2, .own 137438977025, .int .i64 z3, .int .i64 z4, .int .i64 z5]), some (.row (.named 1) z6 true)])
noncomputable def f89_l3_d {R : Type} (k : Nat) : Lr D R := ldoor [.ptr 0 0, .int .i64, .ptr 65632 0, .own 68719489024, .int .i64] [some (.box [.list (.int .u8), .own 68719489025, .int .i64, .int .i64, .int .i64]), some (.row (.named 1) true), some (.box [.int .i64, .int .i64, .int .i64, .int .i64, .bool]), some (.row (.named 2) true)] (f89_l3_g k)
noncomputable def f89_l3_r {R : Type} (k : Nat) : Lrc D R := (lrcAdd 1000035 (f89_j35_d k) (lrcAdd 1000033 (f89_j33_d k) (lrcAdd 1000030 (f89_j30_d k) (lrcAdd 1000024 (f89_j24_d k) (lrcAdd 1000020 (f89_j20_d k) (lrcAdd 1000019 (f89_j19_d k) (lrcAdd 1000016 (f89_j16_d k) (lrcAdd 1000014 (f89_j14_d k) (lrcAdd 1000009 (f89_j9_d k) (lrcAdd 1000008 (f89_j8_d k) (lrcAdd 1000005 (f89_j5_d k) noLrc)))))))))))
theorem f89_l3_d_ok {R : Type} : ∀ k, LoopOk Try.prog cx 262 1 f89_ann (f89_l3_d (R := R) k) f89_l3_b :=
  loop_ok (keep := kp) (lrc := f89_l3_r (R := R)) cxOk mixed (f89_o_ok) (show f89_ann (Am.keyOf f89_l3_b) = some f89_l3_a by kernel_rfl) (L := []) (by kernel_rfl) (fun _k => trivial) (J := [f89_j5_b, f89_j8_b, f89_j9_b, f89_j14_b, f89_j16_b, f89_j19_b, f89_j20_b, f89_j24_b, f89_j30_b, f89_j33_b, f89_j35_b]) (by kernel_rfl) (fun k => ⟨(f89_j5_d_ok k).use (by kernel_rfl), (f89_j8_d_ok k).use (by kernel_rfl), (f89_j9_d_ok k).use (by kernel_rfl), (f89_j14_d_ok k).use (by kernel_rfl), (f89_j16_d_ok k).use (by kernel_rfl), (f89_j19_d_ok k).use (by kernel_rfl), (f89_j20_d_ok k).use (by kernel_rfl), (f89_j24_d_ok k).use (by kernel_rfl), (f89_j30_d_ok k).use (by kernel_rfl), (f89_j33_d_ok k).use (by kernel_rfl), (f89_j35_d_ok k).use (by kernel_rfl), trivial⟩) (fun k => (LrcNat.add (f89_j35_d_ok k).2 (LrcNat.add (f89_j33_d_ok k).2 (LrcNat.add (f89_j30_d_ok k).2 (LrcNat.add (f89_j24_d_ok k).2 (LrcNat.add (f89_j20_d_ok k).2 (LrcNat.add (f89_j19_d_ok k).2 (LrcNat.add (f89_j16_d_ok k).2 (LrcNat.add (f89_j14_d_ok k).2 (LrcNat.add (f89_j9_d_ok k).2 (LrcNat.add (f89_j8_d_ok k).2 (LrcNat.add (f89_j5_d_ok k).2 LrcNat.no)))))))))))) (fun _x _y _K => by kernel_rfl) (fun _k _x _y _K => by kernel_rfl)
noncomputable def f89_r {R : Type} (k : Nat) : Lrc D R := (lrcAdd 1000035 (f89_j35_d k) (lrcAdd 1000033 (f89_j33_d k) (lrcAdd 1000030 (f89_j30_d k) (lrcAdd 1000024 (f89_j24_d k) (lrcAdd 1000020 (f89_j20_d k) (lrcAdd 1000019 (f89_j19_d k) (lrcAdd 1000016 (f89_j16_d k) (lrcAdd 1000014 (f89_j14_d k) (lrcAdd 1000009 (f89_j9_d k) (lrcAdd 1000008 (f89_j8_d k) (lrcAdd 1000005 (f89_j5_d k) (lrcAdd 3 (f89_l3_d k) noLrc))))))))))))
theorem f89_ok {R : Type} (k : Nat) {e : Dr D R} (he : FnOk Try.prog cx 89 e) : FnOk Try.prog cx 89 (f89_d (f89 k) e) :=
  he.door fun _x _y => body_ok (keep := kp) (ann := f89_ann) (lrc := f89_r (R := R) k) (N := 262) (n0 := 1) (c := []) cxOk mixed (f89_o_ok k) (body := f89_b) (by kernel_rfl : Try.prog.funcs[89]? = some Try.f89) (by kernel_rfl) (by kernel_rfl) (by kernel_rfl) (by kernel_rfl) (of_decide_eq_true (by kernel_rfl)) (L := [f89_l3_b]) (by kernel_rfl) (⟨(f89_l3_d_ok k).use (by kernel_rfl), trivial⟩) (J := [f89_j5_b, f89_j8_b, f89_j9_b, f89_j14_b, f89_j16_b, f89_j19_b, f89_j20_b, f89_j24_b, f89_j30_b, f89_j33_b, f89_j35_b]) (by kernel_rfl) (⟨(f89_j5_d_ok k).use (by kernel_rfl), (f89_j8_d_ok k).use (by kernel_rfl), (f89_j9_d_ok k).use (by kernel_rfl), (f89_j14_d_ok k).use (by kernel_rfl), (f89_j16_d_ok k).use (by kernel_rfl), (f89_j19_d_ok k).use (by kernel_rfl), (f89_j20_d_ok k).use (by kernel_rfl), (f89_j24_d_ok k).use (by kernel_rfl), (f89_j30_d_ok k).use (by kernel_rfl), (f89_j33_d_ok k).use (by kernel_rfl), (f89_j35_d_ok k).use (by kernel_rfl), trivial⟩) ((LrcNat.add (f89_j35_d_ok k).2 (LrcNat.add (f89_j33_d_ok k).2 (LrcNat.add (f89_j30_d_ok k).2 (LrcNat.add (f89_j24_d_ok k).2 (LrcNat.add (f89_j20_d_ok k).2 (LrcNat.add (f89_j19_d_ok k).2 (LrcNat.add (f89_j16_d_ok k).2 (LrcNat.add (f89_j14_d_ok k).2 (LrcNat.add (f89_j9_d_ok k).2 (LrcNat.add (f89_j8_d_ok k).2 (LrcNat.add (f89_j5_d_ok k).2 (LrcNat.add (f89_l3_d_ok k).2 LrcNat.no))))))))))))) (fun _K => by delta f89 f89_o; generalize @f30 R = a0; generalize @f26 R = a1; generalize @f98 R = a2; generalize @f105_2 R = a3; generalize @f102_2 R = a4; generalize @f103_2 R = a5; generalize @f104_2 R = a6; generalize @f89_2 R = a7; revert a0 a1 a2 a3 a4 a5 a6 a7; refine id ?_; intros; kernel_rfl)


end Go.Proofs.Ytklhjegfkpmdoaa

/-! What the functions do, as plain functions; and that they do. -/
namespace Go.Proofs.Ytklhjegfkpmdoaa
open Go Go.Am
abbrev f21_T (R : Type) : Type := List Int → (Int → Int → List D1 → Option R) → Option R
/-! ## 21: diorama/element.Places -/
noncomputable def f21 {R : Type} (k : Nat) (a0 : List Int) (K : Int → Int → List D1 → Option R) : Option R :=
 f55 k a0 (fun v1 v2 v3 v4 v5 v6 _v7 =>
  f56_2 k v1 v2 v3 v4 v5 v6 (fun v8 _v9 _v10 _v11 v12 v13 v14 =>
   bif (!v8) then
    K v13 v12 ([] : List D1)
   else
    K 0 0 v14))
noncomputable def f21_d {R : Type} (g : f21_T R) (e : Dr D R) : Dr D R := door [.list (.int .u8)] [] (fun (x : (List Int × Unit)) (y : (Unit)) K => g x.1 (fun z0 z1 z2 => K ⟨.tup [.own 0, .int .i64 z0, .int .i64 z1], [some (.row (.named 1) z2 true)]⟩)) e
noncomputable def f21_o {R : Type} (k : Nat) : Orc D R := (orcAdd 55 (f55_d (f55 k) noDr) (orcAdd 56 (f56_2_d (f56_2 k) noDr) noOrc))
theorem f21_o_ok {R : Type} (k : Nat) : OrcOk Try.prog cx (f21_o (R := R) k) := (OrcOk.add (f55_ok k FnOk.no) (OrcOk.add (f56_2_ok k FnOk.no) OrcOk.no))
noncomputable def f21_b : Code := bodyOf Try.f21
noncomputable def f21_ann : Nat → Option LAnn := fun _key => none
noncomputable def f21_r {R : Type} (_k : Nat) : Lrc D R := noLrc
theorem f21_ok {R : Type} (k : Nat) {e : Dr D R} (he : FnOk Try.prog cx 21 e) : FnOk Try.prog cx 21 (f21_d (f21 k) e) :=
  he.door fun _x _y => body_ok (keep := kp) (ann := f21_ann) (lrc := f21_r (R := R) k) (N := 29) (n0 := 0) (c := [(.tmp 2, .own 1099511627776 (.named 1))]) cxOk mixed (f21_o_ok k) (body := f21_b) (by kernel_rfl : Try.prog.funcs[21]? = some Try.f21) (by kernel_rfl) (by kernel_rfl) (by kernel_rfl) (by kernel_rfl) (of_decide_eq_true (by kernel_rfl)) (L := []) (by kernel_rfl) trivial (J := []) (by kernel_rfl) trivial (LrcNat.no) (fun _K => by delta f21 f21_o; generalize @f56_2 R = a0; generalize @f55 R = a1; revert a0 a1; refine id ?_; intros; kernel_rfl)

abbrev f61_T (R : Type) : Type := Int → Int → (Int → List Int → Option R) → Option R
/-! ## 61: diorama/bits.PutInt -/
noncomputable def f61 {R : Type} (k : Nat) (a0 a1 : Int) (K : Int → List Int → Option R) : Option R :=
 bif decide (a1 < 1) then
  K 1 ([] : List Int)
 else
  bif decide (a1 > 8) then
   K 1 ([] : List Int)
  else
   bif decide (a0 < 0) then
    K 1 ([] : List Int)
   else
    bif decide (a1 < 8) then
     bif decide ((IntKind.i64.wrap (8 * a1)) < 0) then
      none
     else
      bif decide ((shrI .i64 a0 (IntKind.i64.wrap (8 * a1))) > 0) then
      K 1 ([] : List Int)
      else
      f91 k (IntKind.u64.wrap (a0)) a1 (fun v1 =>
      K 0 v1)
    else
     f91 k (IntKind.u64.wrap (a0)) a1 (fun v2 =>
      K 0 v2)
noncomputable def f61_d {R : Type} (g : f61_T R) (e : Dr D R) : Dr D R := door [.int .i64, .int .i64] [] (fun (x : (Int × Int × Unit)) (y : (Unit)) K => g x.1 x.2.1 (fun z0 z1 => K ⟨.tup [.own 0, .int .i64 z0], [some (.row (.int .u8) z1 true)]⟩)) e
noncomputable def f61_o {R : Type} (k : Nat) : Orc D R := (orcAdd 91 (f91_d (f91 k) noDr) noOrc)
theorem f61_o_ok {R : Type} (k : Nat) : OrcOk Try.prog cx (f61_o (R := R) k) := (OrcOk.add (f91_ok k FnOk.no) OrcOk.no)
noncomputable def f61_b : Code := bodyOf Try.f61
noncomputable def f61_ann : Nat → Option LAnn := fun _key => none
noncomputable def f61_r {R : Type} (_k : Nat) : Lrc D R := noLrc
theorem f61_ok {R : Type} (k : Nat) {e : Dr D R} (he : FnOk Try.prog cx 61 e) : FnOk Try.prog cx 61 (f61_d (f61 k) e) :=
  he.door fun _x _y => body_ok (keep := kp) (ann := f61_ann) (lrc := f61_r (R := R) k) (N := 31) (n0 := 0) (c := [(.tmp 4, .own 1099511627776 (.int .u8))]) cxOk mixed (f61_o_ok k) (body := f61_b) (by kernel_rfl : Try.prog.funcs[61]? = some Try.f61) (by kernel_rfl) (by kernel_rfl) (by kernel_rfl) (by kernel_rfl) (of_decide_eq_true (by kernel_rfl)) (L := []) (by kernel_rfl) trivial (J := []) (by kernel_rfl) trivial (LrcNat.no) (fun _K => by delta f61 f61_o; generalize @f91 R = a0; revert a0; refine id ?_; intros; kernel_rfl)

abbrev f27_T (R : Type) : Type := Int → (Int → List Int → Option R) → Option R
/-! ## 27: diorama/element.PutId -/
noncomputable def f27_l2 {R : Type} : Nat → Int → Int → Option R → (Int → List Int → Option R) → Option R
  | 0, _, _, _, _ => none
  | k + 1, v1, v2, X0, X1 =>
  bif decide (v2 ≤ 4) then
   bif decide ((IntKind.i64.wrap (7 * v2)) < 0) then
    none
   else
    bif ((shrI .i64 v1 (IntKind.i64.wrap (7 * v2))) == 1) then
     f60 k v1 v2 (fun v3 =>
      bif v3 then
      f61 k v1 v2 X1
      else
      f27_l2 k v1 (IntKind.i64.wrap (v2 + 1)) X0 X1)
    else
     f27_l2 k v1 (IntKind.i64.wrap (v2 + 1)) X0 X1
  else
   X0
noncomputable def f27 {R : Type} (k : Nat) (a0 : Int) (K : Int → List Int → Option R) : Option R :=
 f27_l2 k a0 1 (
  K 40 ([] : List Int)) K
noncomputable def f27_d {R : Type} (g : f27_T R) (e : Dr D R) : Dr D R := door [.int .i64] [] (fun (x : (Int × Unit)) (y : (Unit)) K => g x.1 (fun z0 z1 => K ⟨.tup [.own 0, .int .i64 z0], [some (.row (.int .u8) z1 true)]⟩)) e
noncomputable def f27_o {R : Type} (k : Nat) : Orc D R := (orcAdd 61 (f61_d (f61 k) noDr) (orcAdd 60 (f60_d (f60 k) noDr) noOrc))
theorem f27_o_ok {R : Type} (k : Nat) : OrcOk Try.prog cx (f27_o (R := R) k) := (OrcOk.add (f61_ok k FnOk.no) (OrcOk.add (f60_ok k FnOk.no) OrcOk.no))
noncomputable def f27_b : Code := bodyOf Try.f27
noncomputable def f27_l2_a : LAnn := ⟨⟨[], [0, 4], [], []⟩, exOf (some ⟨[], [2, 3], [393568], []⟩) [(0, ⟨[], [], [], []⟩)]⟩
noncomputable def f27_ann : Nat → Option LAnn := fun key => bif Nat.beq key 2 then some f27_l2_a else none
noncomputable def f27_l2_b : Code := loopAt f27_b 0
noncomputable def f27_l2_g {R : Type} (k : Nat) (x : (Int × Int × Unit)) (_y : (Unit)) (K : KX R) : Option R := f27_l2 k x.1 x.2.1 (K (.exit 0) [] []) (fun z0 z1 => K (.ret) [.own 393568, .int .i64 z0] [some (.row (.int .u8) z1 true)])
noncomputable def f27_l2_d {R : Type} (k : Nat) : Lr D R := ldoor [.int .i64, .int .i64] [] (f27_l2_g k)
noncomputable def f27_l2_r {R : Type} (_k : Nat) : Lrc D R := noLrc
theorem f27_l2_d_ok {R : Type} : ∀ k, LoopOk Try.prog cx 24 0 f27_ann (f27_l2_d (R := R) k) f27_l2_b :=
  loop_ok (keep := kp) (lrc := f27_l2_r (R := R)) cxOk mixed (f27_o_ok) (show f27_ann (Am.keyOf f27_l2_b) = some f27_l2_a by kernel_rfl) (L := []) (by kernel_rfl) (fun _k => trivial) (J := []) (by kernel_rfl) (fun _k => trivial) (fun _k => LrcNat.no) (fun _x _y _K => by kernel_rfl) (fun _k _x _y _K => by kernel_rfl)
noncomputable def f27_r {R : Type} (k : Nat) : Lrc D R := (lrcAdd 2 (f27_l2_d k) noLrc)
theorem f27_ok {R : Type} (k : Nat) {e : Dr D R} (he : FnOk Try.prog cx 27 e) : FnOk Try.prog cx 27 (f27_d (f27 k) e) :=
  he.door fun _x _y => body_ok (keep := kp) (ann := f27_ann) (lrc := f27_r (R := R) k) (N := 24) (n0 := 0) (c := [(.tmp 2, .own 1099511627776 (.int .u8))]) cxOk mixed (f27_o_ok k) (body := f27_b) (by kernel_rfl : Try.prog.funcs[27]? = some Try.f27) (by kernel_rfl) (by kernel_rfl) (by kernel_rfl) (by kernel_rfl) (of_decide_eq_true (by kernel_rfl)) (L := [f27_l2_b]) (by kernel_rfl) (⟨(f27_l2_d_ok k).use (by kernel_rfl), trivial⟩) (J := []) (by kernel_rfl) trivial ((LrcNat.add (f27_l2_d_ok k).2 LrcNat.no)) (fun _K => by delta f27 f27_o; generalize @f60 R = a0; generalize @f61 R = a1; revert a0 a1; refine id ?_; intros; kernel_rfl)

abbrev f66_T (R : Type) : Type := Int → List Int → List D2 → Bool → Int → Int → (Bool → Option R) → Option R
/-! ## 66: diorama/element.Check$1 -/
noncomputable def f66 {R : Type} (k : Nat) (a0 : Int) (a1 : List Int) (a2 : List D2) (a3 : Bool) (_a4 _a5 : Int) (K : Bool → Option R) : Option R :=
 f25 k a0 (fun _v1 _v2 v3 v4 _v5 v6 =>
  bif (!v6) then
   K true
  else
   bif decide (v3 < 0) then
    K true
   else
    bif (!(v4 == a3)) then
     K true
    else
     bif (!a3) then
      bif decide ((a2.length : Int) > 0) then
      K true
      else
      bif a3 then
      K (decide ((a1.length : Int) > 0))
      else
      K false
     else
      bif a3 then
      K (decide ((a1.length : Int) > 0))
      else
      K false)
noncomputable def f66_d {R : Type} (g : f66_T R) (e : Dr D R) : Dr D R := door [.agg [.int .i64, .list (.int .u8), .list (.named 2), .bool], .int .i64, .int .i64] [] (fun (x : ((Int × List Int × List D2 × Bool × Unit) × Int × Int × Unit)) (y : (Unit)) K => g x.1.1 x.1.2.1 x.1.2.2.1 x.1.2.2.2.1 x.2.1 x.2.2.1 (fun z0 => K ⟨.bool z0, []⟩)) e
noncomputable def f66_o {R : Type} (k : Nat) : Orc D R := (orcAdd 25 (f25_d (f25 k) noDr) noOrc)
theorem f66_o_ok {R : Type} (k : Nat) : OrcOk Try.prog cx (f66_o (R := R) k) := (OrcOk.add (f25_ok k FnOk.no) OrcOk.no)
noncomputable def f66_b : Code := bodyOf Try.f66
noncomputable def f66_ann : Nat → Option LAnn := fun _key => none
noncomputable def f66_r {R : Type} (_k : Nat) : Lrc D R := noLrc
theorem f66_ok {R : Type} (k : Nat) {e : Dr D R} (he : FnOk Try.prog cx 66 e) : FnOk Try.prog cx 66 (f66_d (f66 k) e) :=
  he.door fun _x _y => body_ok (keep := kp) (ann := f66_ann) (lrc := f66_r (R := R) k) (N := 50) (n0 := 0) (c := []) cxOk mixed (f66_o_ok k) (body := f66_b) (by kernel_rfl : Try.prog.funcs[66]? = some Try.f66) (by kernel_rfl) (by kernel_rfl) (by kernel_rfl) (by kernel_rfl) (of_decide_eq_true (by kernel_rfl)) (L := []) (by kernel_rfl) trivial (J := []) (by kernel_rfl) trivial (LrcNat.no) (fun _K => by delta f66 f66_o; generalize @f25 R = a0; revert a0; refine id ?_; intros; kernel_rfl)

abbrev f93_2_T (R : Type) : Type := Int → List Int → List D2 → Bool → Int → Int → (Bool → Int → Int → Option R) → Option R
abbrev f73_2_T (R : Type) : Type := List D2 → Int → Int → (Int → Int → Int → Option R) → Option R
abbrev f92_2_T (R : Type) : Type := List D2 → Int → Int → (Bool → Int → Int → Option R) → Option R
abbrev f69_T (R : Type) : Type := List D2 → Int → Int → (Bool → Option R) → Option R
/-! ## 93: diorama/element.some$1 -/
noncomputable def f93_2_s {R : Type} (g_f69 : Nat → f69_T R) (k : Nat) (a0 : Int) (a1 : List Int) (a2 : List D2) (a3 : Bool) (a4 a5 : Int) (K : Bool → Int → Int → Option R) : Option R :=
 f66 k a0 a1 a2 a3 a4 a5 (fun v1 =>
  bif v1 then
   K true a4 a5
  else
   g_f69 k a2 a0 (IntKind.i64.wrap (a5 + 1)) (fun v2 =>
    K v2 a4 a5))
noncomputable def f93_2_d {R : Type} (g : f93_2_T R) (e : Dr D R) : Dr D R := door [.agg [.int .i64, .list (.int .u8), .list (.named 2), .bool], .ptr 0 0, .ptr 1 0, .ptr 2 0] [.box [.fn 66 []], .box [.int .i64], .box [.int .i64]] (fun (x : ((Int × List Int × List D2 × Bool × Unit) × Unit × Unit × Unit × Unit)) (y : (((Unit) × Unit) × (Int × Unit) × (Int × Unit) × Unit)) K => g x.1.1 x.1.2.1 x.1.2.2.1 x.1.2.2.2.1 y.2.1.1 y.2.2.1.1 (fun z0 z1 z2 => K ⟨.bool z0, [some (.box [.fn 66 []]), some (.box [.int .i64 z1]), some (.box [.int .i64 z2])]⟩)) e
/-! ## 73: slices.IndexFunc[[]diorama/api.Node,diorama/api.Node] -/
noncomputable def f73_2_l2 {R : Type} (g_f93_2 : Nat → f93_2_T R) : Nat → List D2 → Int → Int → Int → Int → (Int → Int → Option R) → (Int → Int → Int → Option R) → Option R
  | 0, _, _, _, _, _, _, _ => none
  | k + 1, v1, v2, v3, v4, v5, X0, X1 =>
  bif decide (v3 < v2) then
   bif inb v3 v1.length then
    g_f93_2 k (D2.c0 (v1.getD v3.toNat zero2)) (D2.c1 (v1.getD v3.toNat zero2)) (D2.c2 (v1.getD v3.toNat zero2)) (D2.c3 (v1.getD v3.toNat zero2)) v4 v5 (fun v6 v7 v8 =>
     bif v6 then
      X1 v3 v7 v8
     else
      f73_2_l2 g_f93_2 k v1 v2 (IntKind.i64.wrap (v3 + 1)) v7 v8 X0 X1)
   else
    none
  else
   X0 v4 v5
noncomputable def f73_2_s {R : Type} (g_f93_2 : Nat → f93_2_T R) (k : Nat) (a0 : List D2) (a1 a2 : Int) (K : Int → Int → Int → Option R) : Option R :=
 f73_2_l2 g_f93_2 k a0 (a0.length : Int) 0 a1 a2 (fun v9 v10 =>
  K (-1) v9 v10) K
noncomputable def f73_2_d {R : Type} (g : f73_2_T R) (e : Dr D R) : Dr D R := door [.list (.named 2), .fn 93 [.ptr 0 0, .ptr 1 0, .ptr 2 0]] [.box [.fn 66 []], .box [.int .i64], .box [.int .i64]] (fun (x : (List D2 × (Unit × Unit × Unit × Unit) × Unit)) (y : (((Unit) × Unit) × (Int × Unit) × (Int × Unit) × Unit)) K => g x.1 y.2.1.1 y.2.2.1.1 (fun z0 z1 z2 => K ⟨.int .i64 z0, [some (.box [.fn 66 []]), some (.box [.int .i64 z1]), some (.box [.int .i64 z2])]⟩)) e
/-! ## 92: slices.ContainsFunc[[]diorama/api.Node,diorama/api.Node] -/
noncomputable def f92_2_s {R : Type} (g_f73_2 : Nat → f73_2_T R) (k : Nat) (a0 : List D2) (a1 a2 : Int) (K : Bool → Int → Int → Option R) : Option R :=
 g_f73_2 k a0 a1 a2 (fun v1 v2 v3 =>
  K (decide (v1 ≥ 0)) v2 v3)
noncomputable def f92_2_d {R : Type} (g : f92_2_T R) (e : Dr D R) : Dr D R := door [.list (.named 2), .fn 93 [.ptr 0 0, .ptr 1 0, .ptr 2 0]] [.box [.fn 66 []], .box [.int .i64], .box [.int .i64]] (fun (x : (List D2 × (Unit × Unit × Unit × Unit) × Unit)) (y : (((Unit) × Unit) × (Int × Unit) × (Int × Unit) × Unit)) K => g x.1 y.2.1.1 y.2.2.1.1 (fun z0 z1 z2 => K ⟨.bool z0, [some (.box [.fn 66 []]), some (.box [.int .i64 z1]), some (.box [.int .i64 z2])]⟩)) e
/-! ## 69: diorama/element.some -/
noncomputable def f69_s {R : Type} (g_f92_2 : Nat → f92_2_T R) (k : Nat) (a0 : List D2) (a1 a2 : Int) (K : Bool → Option R) : Option R :=
 g_f92_2 k a0 a1 a2 (fun v1 _v2 _v3 =>
  K v1)
noncomputable def f69_d {R : Type} (g : f69_T R) (e : Dr D R) : Dr D R := door [.list (.named 2), .int .i64, .int .i64, .fn 66 []] [] (fun (x : (List D2 × Int × Int × (Unit) × Unit)) (y : (Unit)) K => g x.1 x.2.1 x.2.2.1 (fun z0 => K ⟨.bool z0, []⟩)) e
noncomputable def f93_2_o {R : Type} (g_f69 : Nat → f69_T R) (k : Nat) : Orc D R := (orcAdd 69 (f69_d (g_f69 k) noDr) (orcAdd 66 (f66_d (f66 k) noDr) noOrc))
theorem f93_2_o_ok {R : Type} (g_f69 : Nat → f69_T R) (h_f69 : ∀ (k : Nat) (e : Dr D R), FnOk Try.prog cx 69 e → FnOk Try.prog cx 69 (f69_d (g_f69 k) e)) (k : Nat) : OrcOk Try.prog cx (f93_2_o (R := R) g_f69 k) := (OrcOk.add (h_f69 k _ FnOk.no) (OrcOk.add (f66_ok k FnOk.no) OrcOk.no))
noncomputable def f93_2_b : Code := bodyOf Try.f93
noncomputable def f93_2_ann : Nat → Option LAnn := fun _key => none
noncomputable def f93_2_r {R : Type} (_g_f69 : Nat → f69_T R) (_k : Nat) : Lrc D R := noLrc
noncomputable def f73_2_o {R : Type} (g_f93_2 : Nat → f93_2_T R) (k : Nat) : Orc D R := (orcAdd 93 (f93_2_d (g_f93_2 k) noDr) noOrc)
theorem f73_2_o_ok {R : Type} (g_f93_2 : Nat → f93_2_T R) (h_f93_2 : ∀ (k : Nat) (e : Dr D R), FnOk Try.prog cx 93 e → FnOk Try.prog cx 93 (f93_2_d (g_f93_2 k) e)) (k : Nat) : OrcOk Try.prog cx (f73_2_o (R := R) g_f93_2 k) := (OrcOk.add (h_f93_2 k _ FnOk.no) OrcOk.no)
noncomputable def f73_2_b : Code := bodyOf Try.f73
noncomputable def f73_2_l2_a : LAnn := ⟨⟨[], [0, 1, 7, 8], [0, 1, 2], []⟩, exOf (some ⟨[], [4], [0, 1, 2], []⟩) [(0, ⟨[], [], [0, 1, 2], []⟩)]⟩
noncomputable def f73_2_ann : Nat → Option LAnn := fun key => bif Nat.beq key 2 then some f73_2_l2_a else none
noncomputable def f73_2_l2_b : Code := loopAt f73_2_b 0
noncomputable def f73_2_l2_g {R : Type} (g_f93_2 : Nat → f93_2_T R) (k : Nat) (x : (List D2 × (Unit × Unit × Unit × Unit) × Int × Int × Unit)) (y : (((Unit) × Unit) × (Int × Unit) × (Int × Unit) × Unit)) (K : KX R) : Option R := f73_2_l2 g_f93_2 k x.1 x.2.2.1 x.2.2.2.1 y.2.1.1 y.2.2.1.1 (fun z0 z1 => K (.exit 0) [] [some (.box [.fn 66 []]), some (.box [.int .i64 z0]), some (.box [.int .i64 z1])]) (fun z0 z1 z2 => K (.ret) [.int .i64 z0] [some (.box [.fn 66 []]), some (.box [.int .i64 z1]), some (.box [.int .i64 z2])])
noncomputable def f73_2_l2_d {R : Type} (g_f93_2 : Nat → f93_2_T R) (k : Nat) : Lr D R := ldoor [.list (.named 2), .fn 93 [.ptr 0 0, .ptr 1 0, .ptr 2 0], .int .i64, .int .i64] [some (.box [.fn 66 []]), some (.box [.int .i64]), some (.box [.int .i64])] (f73_2_l2_g g_f93_2 k)
noncomputable def f73_2_l2_r {R : Type} (_g_f93_2 : Nat → f93_2_T R) (_k : Nat) : Lrc D R := noLrc
theorem f73_2_l2_d_ok {R : Type} (g_f93_2 : Nat → f93_2_T R) (h_f93_2 : ∀ (k : Nat) (e : Dr D R), FnOk Try.prog cx 93 e → FnOk Try.prog cx 93 (f93_2_d (g_f93_2 k) e)) : ∀ k, LoopOk Try.prog cx 19 3 f73_2_ann (f73_2_l2_d (R := R) g_f93_2 k) f73_2_l2_b :=
  loop_ok (keep := kp) (lrc := f73_2_l2_r (R := R) g_f93_2) cxOk mixed (f73_2_o_ok g_f93_2 h_f93_2) (show f73_2_ann (Am.keyOf f73_2_l2_b) = some f73_2_l2_a by kernel_rfl) (L := []) (by kernel_rfl) (fun _k => trivial) (J := []) (by kernel_rfl) (fun _k => trivial) (fun _k => LrcNat.no) (fun _x _y _K => by kernel_rfl) (fun _k _x _y _K => by kernel_rfl)
noncomputable def f73_2_r {R : Type} (g_f93_2 : Nat → f93_2_T R) (k : Nat) : Lrc D R := (lrcAdd 2 (f73_2_l2_d g_f93_2 k) noLrc)
noncomputable def f92_2_o {R : Type} (g_f73_2 : Nat → f73_2_T R) (k : Nat) : Orc D R := (orcAdd 73 (f73_2_d (g_f73_2 k) noDr) noOrc)
theorem f92_2_o_ok {R : Type} (g_f73_2 : Nat → f73_2_T R) (h_f73_2 : ∀ (k : Nat) (e : Dr D R), FnOk Try.prog cx 73 e → FnOk Try.prog cx 73 (f73_2_d (g_f73_2 k) e)) (k : Nat) : OrcOk Try.prog cx (f92_2_o (R := R) g_f73_2 k) := (OrcOk.add (h_f73_2 k _ FnOk.no) OrcOk.no)
noncomputable def f92_2_b : Code := bodyOf Try.f92
noncomputable def f92_2_ann : Nat → Option LAnn := fun _key => none
noncomputable def f92_2_r {R : Type} (_g_f73_2 : Nat → f73_2_T R) (_k : Nat) : Lrc D R := noLrc
noncomputable def f69_o {R : Type} (g_f92_2 : Nat → f92_2_T R) (k : Nat) : Orc D R := (orcAdd 92 (f92_2_d (g_f92_2 k) noDr) noOrc)
theorem f69_o_ok {R : Type} (g_f92_2 : Nat → f92_2_T R) (h_f92_2 : ∀ (k : Nat) (e : Dr D R), FnOk Try.prog cx 92 e → FnOk Try.prog cx 92 (f92_2_d (g_f92_2 k) e)) (k : Nat) : OrcOk Try.prog cx (f69_o (R := R) g_f92_2 k) := (OrcOk.add (h_f92_2 k _ FnOk.no) OrcOk.no)
noncomputable def f69_b : Code := bodyOf Try.f69
noncomputable def f69_ann : Nat → Option LAnn := fun _key => none
noncomputable def f69_r {R : Type} (_g_f92_2 : Nat → f92_2_T R) (_k : Nat) : Lrc D R := noLrc
noncomputable def rec_f93_2 {R : Type} : Nat → (f93_2_T R) × (f73_2_T R) × (f92_2_T R) × (f69_T R)
  | 0 => (fun _ _ _ _ _ _ _ => none, fun _ _ _ _ => none, fun _ _ _ _ => none, fun _ _ _ _ => none)
  | k + 1 => (f93_2_s (fun _ => (rec_f93_2 (R := R) k).2.2.2) k, f73_2_s (fun _ => (rec_f93_2 (R := R) k).1) k, f92_2_s (fun _ => (rec_f93_2 (R := R) k).2.1) k, f69_s (fun _ => (rec_f93_2 (R := R) k).2.2.1) k)
theorem rec_f93_2_succ {R : Type} (k : Nat) : rec_f93_2 (R := R) (k + 1) = (f93_2_s (fun _ => (rec_f93_2 (R := R) k).2.2.2) k, f73_2_s (fun _ => (rec_f93_2 (R := R) k).1) k, f92_2_s (fun _ => (rec_f93_2 (R := R) k).2.1) k, f69_s (fun _ => (rec_f93_2 (R := R) k).2.2.1) k) := rfl
theorem rec_f93_2_ok {R : Type} : ∀ k, (∀ e : Dr D R, FnOk Try.prog cx 93 e → FnOk Try.prog cx 93 (f93_2_d (rec_f93_2 (R := R) k).1 e)) ∧ (∀ e : Dr D R, FnOk Try.prog cx 73 e → FnOk Try.prog cx 73 (f73_2_d (rec_f93_2 (R := R) k).2.1 e)) ∧ (∀ e : Dr D R, FnOk Try.prog cx 92 e → FnOk Try.prog cx 92 (f92_2_d (rec_f93_2 (R := R) k).2.2.1 e)) ∧ (∀ e : Dr D R, FnOk Try.prog cx 69 e → FnOk Try.prog cx 69 (f69_d (rec_f93_2 (R := R) k).2.2.2 e))
  | 0 => ⟨fun e he => he.door0 fun x y K => rfl, fun e he => he.door0 fun x y K => rfl, fun e he => he.door0 fun x y K => rfl, fun e he => he.door0 fun x y _K => rfl⟩
  | k + 1 => by
    rw [rec_f93_2_succ]
    exact ⟨fun e he => he.door fun x y => body_ok (keep := kp) (ann := f93_2_ann) (lrc := f93_2_r (R := R) (fun _ => (rec_f93_2 (R := R) k).2.2.2) k) (N := 21) (n0 := 3) (c := []) cxOk mixed (f93_2_o_ok (fun _ => (rec_f93_2 (R := R) k).2.2.2) (fun _ e he => (rec_f93_2_ok (R := R) k).2.2.2 e he) k) (body := f93_2_b) (by kernel_rfl : Try.prog.funcs[93]? = some Try.f93) (by kernel_rfl) (by kernel_rfl) (by kernel_rfl) (by kernel_rfl) (of_decide_eq_true (by kernel_rfl)) (L := []) (by kernel_rfl) trivial (J := []) (by kernel_rfl) trivial (LrcNat.no) (fun _K => by delta f93_2_s f93_2_o; generalize @f66 R = a0; revert a0; refine id ?_; intros; kernel_rfl),
      fun e he => he.door fun x y => body_ok (keep := kp) (ann := f73_2_ann) (lrc := f73_2_r (R := R) (fun _ => (rec_f93_2 (R := R) k).1) k) (N := 19) (n0 := 3) (c := []) cxOk mixed (f73_2_o_ok (fun _ => (rec_f93_2 (R := R) k).1) (fun _ e he => (rec_f93_2_ok (R := R) k).1 e he) k) (body := f73_2_b) (by kernel_rfl : Try.prog.funcs[73]? = some Try.f73) (by kernel_rfl) (by kernel_rfl) (by kernel_rfl) (by kernel_rfl) (of_decide_eq_true (by kernel_rfl)) (L := [f73_2_l2_b]) (by kernel_rfl) (⟨(f73_2_l2_d_ok (fun _ => (rec_f93_2 (R := R) k).1) (fun _ e he => (rec_f93_2_ok (R := R) k).1 e he) k).use (by kernel_rfl), trivial⟩) (J := []) (by kernel_rfl) trivial ((LrcNat.add (f73_2_l2_d_ok (fun _ => (rec_f93_2 (R := R) k).1) (fun _ e he => (rec_f93_2_ok (R := R) k).1 e he) k).2 LrcNat.no)) (fun _K => by kernel_rfl),
      fun e he => he.door fun x y => body_ok (keep := kp) (ann := f92_2_ann) (lrc := f92_2_r (R := R) (fun _ => (rec_f93_2 (R := R) k).2.1) k) (N := 9) (n0 := 3) (c := []) cxOk mixed (f92_2_o_ok (fun _ => (rec_f93_2 (R := R) k).2.1) (fun _ e he => (rec_f93_2_ok (R := R) k).2.1 e he) k) (body := f92_2_b) (by kernel_rfl : Try.prog.funcs[92]? = some Try.f92) (by kernel_rfl) (by kernel_rfl) (by kernel_rfl) (by kernel_rfl) (of_decide_eq_true (by kernel_rfl)) (L := []) (by kernel_rfl) trivial (J := []) (by kernel_rfl) trivial (LrcNat.no) (fun _K => by kernel_rfl),
      fun e he => he.door fun _x _y => body_ok (keep := kp) (ann := f69_ann) (lrc := f69_r (R := R) (fun _ => (rec_f93_2 (R := R) k).2.2.1) k) (N := 12) (n0 := 0) (c := []) cxOk mixed (f69_o_ok (fun _ => (rec_f93_2 (R := R) k).2.2.1) (fun _ e he => (rec_f93_2_ok (R := R) k).2.2.1 e he) k) (body := f69_b) (by kernel_rfl : Try.prog.funcs[69]? = some Try.f69) (by kernel_rfl) (by kernel_rfl) (by kernel_rfl) (by kernel_rfl) (of_decide_eq_true (by kernel_rfl)) (L := []) (by kernel_rfl) trivial (J := []) (by kernel_rfl) trivial (LrcNat.no) (fun _K => by kernel_rfl)⟩
noncomputable def f93_2 {R : Type} (k : Nat) (a0 : Int) (a1 : List Int) (a2 : List D2) (a3 : Bool) (a4 a5 : Int) (K : Bool → Int → Int → Option R) : Option R := (rec_f93_2 (R := R) k).1 a0 a1 a2 a3 a4 a5 K
theorem f93_2_ok {R : Type} (k : Nat) {e : Dr D R} (he : FnOk Try.prog cx 93 e) : FnOk Try.prog cx 93 (f93_2_d (f93_2 k) e) := (rec_f93_2_ok (R := R) k).1 e he
noncomputable def f73_2 {R : Type} (k : Nat) (a0 : List D2) (a1 a2 : Int) (K : Int → Int → Int → Option R) : Option R := (rec_f93_2 (R := R) k).2.1 a0 a1 a2 K
theorem f73_2_ok {R : Type} (k : Nat) {e : Dr D R} (he : FnOk Try.prog cx 73 e) : FnOk Try.prog cx 73 (f73_2_d (f73_2 k) e) := (rec_f93_2_ok (R := R) k).2.1 e he
noncomputable def f92_2 {R : Type} (k : Nat) (a0 : List D2) (a1 a2 : Int) (K : Bool → Int → Int → Option R) : Option R := (rec_f93_2 (R := R) k).2.2.1 a0 a1 a2 K
theorem f92_2_ok {R : Type} (k : Nat) {e : Dr D R} (he : FnOk Try.prog cx 92 e) : FnOk Try.prog cx 92 (f92_2_d (f92_2 k) e) := (rec_f93_2_ok (R := R) k).2.2.1 e he
noncomputable def f69 {R : Type} (k : Nat) (a0 : List D2) (a1 a2 : Int) (K : Bool → Option R) : Option R := (rec_f93_2 (R := R) k).2.2.2 a0 a1 a2 K
theorem f69_ok {R : Type} (k : Nat) {e : Dr D R} (he : FnOk Try.prog cx 69 e) : FnOk Try.prog cx 69 (f69_d (f69 k) e) := (rec_f93_2_ok (R := R) k).2.2.2 e he
theorem f93_2_step {R : Type} (k : Nat) (a0 : Int) (a1 : List Int) (a2 : List D2) (a3 : Bool) (a4 a5 : Int) (K : Bool → Int → Int → Option R) : f93_2 (k + 1) a0 a1 a2 a3 a4 a5 K = f93_2_s (fun _ => f69 (R := R) k) k a0 a1 a2 a3 a4 a5 K := rfl
theorem f73_2_step {R : Type} (k : Nat) (a0 : List D2) (a1 a2 : Int) (K : Int → Int → Int → Option R) : f73_2 (k + 1) a0 a1 a2 K = f73_2_s (fun _ => f93_2 (R := R) k) k a0 a1 a2 K := rfl
theorem f92_2_step {R : Type} (k : Nat) (a0 : List D2) (a1 a2 : Int) (K : Bool → Int → Int → Option R) : f92_2 (k + 1) a0 a1 a2 K = f92_2_s (fun _ => f73_2 (R := R) k) k a0 a1 a2 K := rfl
theorem f69_step {R : Type} (k : Nat) (a0 : List D2) (a1 a2 : Int) (K : Bool → Option R) : f69 (k + 1) a0 a1 a2 K = f69_s (fun _ => f92_2 (R := R) k) k a0 a1 a2 K := rfl

abbrev f67_T (R : Type) : Type := Int → List Int → List D2 → Bool → Int → Int → (Bool → Option R) → Option R
/-! ## 67: diorama/element.Check$2 -/
noncomputable def f67 {R : Type} (k : Nat) (a0 : Int) (_a1 : List Int) (_a2 : List D2) (_a3 : Bool) (a4 _a5 : Int) (K : Bool → Option R) : Option R :=
 f25 k a0 (fun v1 v2 v3 v4 v5 _v6 =>
  f68 k v1 v2 v3 v4 v5 a4 (fun v7 =>
   K (!v7)))
noncomputable def f67_d {R : Type} (g : f67_T R) (e : Dr D R) : Dr D R := door [.agg [.int .i64, .list (.int .u8), .list (.named 2), .bool], .int .i64, .int .i64] [] (fun (x : ((Int × List Int × List D2 × Bool × Unit) × Int × Int × Unit)) (y : (Unit)) K => g x.1.1 x.1.2.1 x.1.2.2.1 x.1.2.2.2.1 x.2.1 x.2.2.1 (fun z0 => K ⟨.bool z0, []⟩)) e
noncomputable def f67_o {R : Type} (k : Nat) : Orc D R := (orcAdd 68 (f68_d (f68 k) noDr) (orcAdd 25 (f25_d (f25 k) noDr) noOrc))
theorem f67_o_ok {R : Type} (k : Nat) : OrcOk Try.prog cx (f67_o (R := R) k) := (OrcOk.add (f68_ok k FnOk.no) (OrcOk.add (f25_ok k FnOk.no) OrcOk.no))
noncomputable def f67_b : Code := bodyOf Try.f67
noncomputable def f67_ann : Nat → Option LAnn := fun _key => none
noncomputable def f67_r {R : Type} (_k : Nat) : Lrc D R := noLrc
theorem f67_ok {R : Type} (k : Nat) {e : Dr D R} (he : FnOk Try.prog cx 67 e) : FnOk Try.prog cx 67 (f67_d (f67 k) e) :=
  he.door fun _x _y => body_ok (keep := kp) (ann := f67_ann) (lrc := f67_r (R := R) k) (N := 19) (n0 := 0) (c := []) cxOk mixed (f67_o_ok k) (body := f67_b) (by kernel_rfl : Try.prog.funcs[67]? = some Try.f67) (by kernel_rfl) (by kernel_rfl) (by kernel_rfl) (by kernel_rfl) (of_decide_eq_true (by kernel_rfl)) (L := []) (by kernel_rfl) trivial (J := []) (by kernel_rfl) trivial (LrcNat.no) (fun _K => by delta f67 f67_o; generalize @f25 R = a0; generalize @f68 R = a1; revert a0 a1; refine id ?_; intros; kernel_rfl)

abbrev f93_4_T (R : Type) : Type := Int → List Int → List D2 → Bool → Int → Int → (Bool → Int → Int → Option R) → Option R
abbrev f73_4_T (R : Type) : Type := List D2 → Int → Int → (Int → Int → Int → Option R) → Option R
abbrev f92_4_T (R : Type) : Type := List D2 → Int → Int → (Bool → Int → Int → Option R) → Option R
abbrev f69_2_T (R : Type) : Type := List D2 → Int → Int → (Bool → Option R) → Option R
/-! ## 93: diorama/element.some$1 -/
noncomputable def f93_4_s {R : Type} (g_f69_2 : Nat → f69_2_T R) (k : Nat) (a0 : Int) (a1 : List Int) (a2 : List D2) (a3 : Bool) (a4 a5 : Int) (K : Bool → Int → Int → Option R) : Option R :=
 f67 k a0 a1 a2 a3 a4 a5 (fun v1 =>
  bif v1 then
   K true a4 a5
  else
   g_f69_2 k a2 a0 (IntKind.i64.wrap (a5 + 1)) (fun v2 =>
    K v2 a4 a5))
noncomputable def f93_4_d {R : Type} (g : f93_4_T R) (e : Dr D R) : Dr D R := door [.agg [.int .i64, .list (.int .u8), .list (.named 2), .bool], .ptr 0 0, .ptr 1 0, .ptr 2 0] [.box [.fn 67 []], .box [.int .i64], .box [.int .i64]] (fun (x : ((Int × List Int × List D2 × Bool × Unit) × Unit × Unit × Unit × Unit)) (y : (((Unit) × Unit) × (Int × Unit) × (Int × Unit) × Unit)) K => g x.1.1 x.1.2.1 x.1.2.2.1 x.1.2.2.2.1 y.2.1.1 y.2.2.1.1 (fun z0 z1 z2 => K ⟨.bool z0, [some (.box [.fn 67 []]), some (.box [.int .i64 z1]), some (.box [.int .i64 z2])]⟩)) e
/-! ## 73: slices.IndexFunc[[]diorama/api.Node,diorama/api.Node] -/
noncomputable def f73_4_l2 {R : Type} (g_f93_4 : Nat → f93_4_T R) : Nat → List D2 → Int → Int → Int → Int → (Int → Int → Option R) → (Int → Int → Int → Option R) → Option R
  | 0, _, _, _, _, _, _, _ => none
  | k + 1, v1, v2, v3, v4, v5, X0, X1 =>
  bif decide (v3 < v2) then
   bif inb v3 v1.length then
    g_f93_4 k (D2.c0 (v1.getD v3.toNat zero2)) (D2.c1 (v1.getD v3.toNat zero2)) (D2.c2 (v1.getD v3.toNat zero2)) (D2.c3 (v1.getD v3.toNat zero2)) v4 v5 (fun v6 v7 v8 =>
     bif v6 then
      X1 v3 v7 v8
     else
      f73_4_l2 g_f93_4 k v1 v2 (IntKind.i64.wrap (v3 + 1)) v7 v8 X0 X1)
   else
    none
  else
   X0 v4 v5
noncomputable def f73_4_s {R : Type} (g_f93_4 : Nat → f93_4_T R) (k : Nat) (a0 : List D2) (a1 a2 : Int) (K : Int → Int → Int → Option R) : Option R :=
 f73_4_l2 g_f93_4 k a0 (a0.length : Int) 0 a1 a2 (fun v9 v10 =>
  K (-1) v9 v10) K
noncomputable def f73_4_d {R : Type} (g : f73_4_T R) (e : Dr D R) : Dr D R := door [.list (.named 2), .fn 93 [.ptr 0 0, .ptr 1 0, .ptr 2 0]] [.box [.fn 67 []], .box [.int .i64], .box [.int .i64]] (fun (x : (List D2 × (Unit × Unit × Unit × Unit) × Unit)) (y : (((Unit) × Unit) × (Int × Unit) × (Int × Unit) × Unit)) K => g x.1 y.2.1.1 y.2.2.1.1 (fun z0 z1 z2 => K ⟨.int .i64 z0, [some (.box [.fn 67 []]), some (.box [.int .i64 z1]), some (.box [.int .i64 z2])]⟩)) e
/-! ## 92: slices.ContainsFunc[[]diorama/api.Node,diorama/api.Node] -/
noncomputable def f92_4_s {R : Type} (g_f73_4 : Nat → f73_4_T R) (k : Nat) (a0 : List D2) (a1 a2 : Int) (K : Bool → Int → Int → Option R) : Option R :=
 g_f73_4 k a0 a1 a2 (fun v1 v2 v3 =>
  K (decide (v1 ≥ 0)) v2 v3)
noncomputable def f92_4_d {R : Type} (g : f92_4_T R) (e : Dr D R) : Dr D R := door [.list (.named 2), .fn 93 [.ptr 0 0, .ptr 1 0, .ptr 2 0]] [.box [.fn 67 []], .box [.int .i64], .box [.int .i64]] (fun (x : (List D2 × (Unit × Unit × Unit × Unit) × Unit)) (y : (((Unit) × Unit) × (Int × Unit) × (Int × Unit) × Unit)) K => g x.1 y.2.1.1 y.2.2.1.1 (fun z0 z1 z2 => K ⟨.bool z0, [some (.box [.fn 67 []]), some (.box [.int .i64 z1]), some (.box [.int .i64 z2])]⟩)) e
/-! ## 69: diorama/element.some -/
noncomputable def f69_2_s {R : Type} (g_f92_4 : Nat → f92_4_T R) (k : Nat) (a0 : List D2) (a1 a2 : Int) (K : Bool → Option R) : Option R :=
 g_f92_4 k a0 a1 a2 (fun v1 _v2 _v3 =>
  K v1)
noncomputable def f69_2_d {R : Type} (g : f69_2_T R) (e : Dr D R) : Dr D R := door [.list (.named 2), .int .i64, .int .i64, .fn 67 []] [] (fun (x : (List D2 × Int × Int × (Unit) × Unit)) (y : (Unit)) K => g x.1 x.2.1 x.2.2.1 (fun z0 => K ⟨.bool z0, []⟩)) e
noncomputable def f93_4_o {R : Type} (g_f69_2 : Nat → f69_2_T R) (k : Nat) : Orc D R := (orcAdd 69 (f69_2_d (g_f69_2 k) noDr) (orcAdd 67 (f67_d (f67 k) noDr) noOrc))
theorem f93_4_o_ok {R : Type} (g_f69_2 : Nat → f69_2_T R) (h_f69_2 : ∀ (k : Nat) (e : Dr D R), FnOk Try.prog cx 69 e → FnOk Try.prog cx 69 (f69_2_d (g_f69_2 k) e)) (k : Nat) : OrcOk Try.prog cx (f93_4_o (R := R) g_f69_2 k) := (OrcOk.add (h_f69_2 k _ FnOk.no) (OrcOk.add (f67_ok k FnOk.no) OrcOk.no))
noncomputable def f93_4_b : Code := bodyOf Try.f93
noncomputable def f93_4_ann : Nat → Option LAnn := fun _key => none
noncomputable def f93_4_r {R : Type} (_g_f69_2 : Nat → f69_2_T R) (_k : Nat) : Lrc D R := noLrc
noncomputable def f73_4_o {R : Type} (g_f93_4 : Nat → f93_4_T R) (k : Nat) : Orc D R := (orcAdd 93 (f93_4_d (g_f93_4 k) noDr) noOrc)
theorem f73_4_o_ok {R : Type} (g_f93_4 : Nat → f93_4_T R) (h_f93_4 : ∀ (k : Nat) (e : Dr D R), FnOk Try.prog cx 93 e → FnOk Try.prog cx 93 (f93_4_d (g_f93_4 k) e)) (k : Nat) : OrcOk Try.prog cx (f73_4_o (R := R) g_f93_4 k) := (OrcOk.add (h_f93_4 k _ FnOk.no) OrcOk.no)
noncomputable def f73_4_b : Code := bodyOf Try.f73
noncomputable def f73_4_l2_a : LAnn := ⟨⟨[], [0, 1, 7, 8], [0, 1, 2], []⟩, exOf (some ⟨[], [4], [0, 1, 2], []⟩) [(0, ⟨[], [], [0, 1, 2], []⟩)]⟩
noncomputable def f73_4_ann : Nat → Option LAnn := fun key => bif Nat.beq key 2 then some f73_4_l2_a else none
noncomputable def f73_4_l2_b : Code := loopAt f73_4_b 0
noncomputable def f73_4_l2_g {R : Type} (g_f93_4 : Nat → f93_4_T R) (k : Nat) (x : (List D2 × (Unit × Unit × Unit × Unit) × Int × Int × Unit)) (y : (((Unit) × Unit) × (Int × Unit) × (Int × Unit) × Unit)) (K : KX R) : Option R := f73_4_l2 g_f93_4 k x.1 x.2.2.1 x.2.2.2.1 y.2.1.1 y.2.2.1.1 (fun z0 z1 => K (.exit 0) [] [some (.box [.fn 67 []]), some (.box [.int .i64 z0]), some (.box [.int .i64 z1])]) (fun z0 z1 z2 => K (.ret) [.int .i64 z0] [some (.box [.fn 67 []]), some (.box [.int .i64 z1]), some (.box [.int .i64 z2])])
noncomputable def f73_4_l2_d {R : Type} (g_f93_4 : Nat → f93_4_T R) (k : Nat) : Lr D R := ldoor [.list (.named 2), .fn 93 [.ptr 0 0, .ptr 1 0, .ptr 2 0], .int .i64, .int .i64] [some (.box [.fn 67 []]), some (.box [.int .i64]), some (.box [.int .i64])] (f73_4_l2_g g_f93_4 k)
noncomputable def f73_4_l2_r {R : Type} (_g_f93_4 : Nat → f93_4_T R) (_k : Nat) : Lrc D R := noLrc
theorem f73_4_l2_d_ok {R : Type} (g_f93_4 : Nat → f93_4_T R) (h_f93_4 : ∀ (k : Nat) (e : Dr D R), FnOk Try.prog cx 93 e → FnOk Try.prog cx 93 (f93_4_d (g_f93_4 k) e)) : ∀ k, LoopOk Try.prog cx 19 3 f73_4_ann (f73_4_l2_d (R := R) g_f93_4 k) f73_4_l2_b :=
  loop_ok (keep := kp) (lrc := f73_4_l2_r (R := R) g_f93_4) cxOk mixed (f73_4_o_ok g_f93_4 h_f93_4) (show f73_4_ann (Am.keyOf f73_4_l2_b) = some f73_4_l2_a by kernel_rfl) (L := []) (by kernel_rfl) (fun _k => trivial) (J := []) (by kernel_rfl) (fun _k => trivial) (fun _k => LrcNat.no) (fun _x _y _K => by kernel_rfl) (fun _k _x _y _K => by kernel_rfl)
noncomputable def f73_4_r {R : Type} (g_f93_4 : Nat → f93_4_T R) (k : Nat) : Lrc D R := (lrcAdd 2 (f73_4_l2_d g_f93_4 k) noLrc)
noncomputable def f92_4_o {R : Type} (g_f73_4 : Nat → f73_4_T R) (k : Nat) : Orc D R := (orcAdd 73 (f73_4_d (g_f73_4 k) noDr) noOrc)
theorem f92_4_o_ok {R : Type} (g_f73_4 : Nat → f73_4_T R) (h_f73_4 : ∀ (k : Nat) (e : Dr D R), FnOk Try.prog cx 73 e → FnOk Try.prog cx 73 (f73_4_d (g_f73_4 k) e)) (k : Nat) : OrcOk Try.prog cx (f92_4_o (R := R) g_f73_4 k) := (OrcOk.add (h_f73_4 k _ FnOk.no) OrcOk.no)
noncomputable def f92_4_b : Code := bodyOf Try.f92
noncomputable def f92_4_ann : Nat → Option LAnn := fun _key => none
noncomputable def f92_4_r {R : Type} (_g_f73_4 : Nat → f73_4_T R) (_k : Nat) : Lrc D R := noLrc
noncomputable def f69_2_o {R : Type} (g_f92_4 : Nat → f92_4_T R) (k : Nat) : Orc D R := (orcAdd 92 (f92_4_d (g_f92_4 k) noDr) noOrc)
theorem f69_2_o_ok {R : Type} (g_f92_4 : Nat → f92_4_T R) (h_f92_4 : ∀ (k : Nat) (e : Dr D R), FnOk Try.prog cx 92 e → FnOk Try.prog cx 92 (f92_4_d (g_f92_4 k) e)) (k : Nat) : OrcOk Try.prog cx (f69_2_o (R := R) g_f92_4 k) := (OrcOk.add (h_f92_4 k _ FnOk.no) OrcOk.no)
noncomputable def f69_2_b : Code := bodyOf Try.f69
noncomputable def f69_2_ann : Nat → Option LAnn := fun _key => none
noncomputable def f69_2_r {R : Type} (_g_f92_4 : Nat → f92_4_T R) (_k : Nat) : Lrc D R := noLrc
noncomputable def rec_f93_4 {R : Type} : Nat → (f93_4_T R) × (f73_4_T R) × (f92_4_T R) × (f69_2_T R)
  | 0 => (fun _ _ _ _ _ _ _ => none, fun _ _ _ _ => none, fun _ _ _ _ => none, fun _ _ _ _ => none)
  | k + 1 => (f93_4_s (fun _ => (rec_f93_4 (R := R) k).2.2.2) k, f73_4_s (fun _ => (rec_f93_4 (R := R) k).1) k, f92_4_s (fun _ => (rec_f93_4 (R := R) k).2.1) k, f69_2_s (fun _ => (rec_f93_4 (R := R) k).2.2.1) k)
theorem rec_f93_4_succ {R : Type} (k : Nat) : rec_f93_4 (R := R) (k + 1) = (f93_4_s (fun _ => (rec_f93_4 (R := R) k).2.2.2) k, f73_4_s (fun _ => (rec_f93_4 (R := R) k).1) k, f92_4_s (fun _ => (rec_f93_4 (R := R) k).2.1) k, f69_2_s (fun _ => (rec_f93_4 (R := R) k).2.2.1) k) := rfl
theorem rec_f93_4_ok {R : Type} : ∀ k, (∀ e : Dr D R, FnOk Try.prog cx 93 e → FnOk Try.prog cx 93 (f93_4_d (rec_f93_4 (R := R) k).1 e)) ∧ (∀ e : Dr D R, FnOk Try.prog cx 73 e → FnOk Try.prog cx 73 (f73_4_d (rec_f93_4 (R := R) k).2.1 e)) ∧ (∀ e : Dr D R, FnOk Try.prog cx 92 e → FnOk Try.prog cx 92 (f92_4_d (rec_f93_4 (R := R) k).2.2.1 e)) ∧ (∀ e : Dr D R, FnOk Try.prog cx 69 e → FnOk Try.prog cx 69 (f69_2_d (rec_f93_4 (R := R) k).2.2.2 e))
  | 0 => ⟨fun e he => he.door0 fun x y K => rfl, fun e he => he.door0 fun x y K => rfl, fun e he => he.door0 fun x y K => rfl, fun e he => he.door0 fun x y _K => rfl⟩
  | k + 1 => by
    rw [rec_f93_4_succ]
    exact ⟨fun e he => he.door fun x y => body_ok (keep := kp) (ann := f93_4_ann) (lrc := f93_4_r (R := R) (fun _ => (rec_f93_4 (R := R) k).2.2.2) k) (N := 21) (n0 := 3) (c := []) cxOk mixed (f93_4_o_ok (fun _ => (rec_f93_4 (R := R) k).2.2.2) (fun _ e he => (rec_f93_4_ok (R := R) k).2.2.2 e he) k) (body := f93_4_b) (by kernel_rfl : Try.prog.funcs[93]? = some Try.f93) (by kernel_rfl) (by kernel_rfl) (by kernel_rfl) (by kernel_rfl) (of_decide_eq_true (by kernel_rfl)) (L := []) (by kernel_rfl) trivial (J := []) (by kernel_rfl) trivial (LrcNat.no) (fun _K => by delta f93_4_s f93_4_o; generalize @f67 R = a0; revert a0; refine id ?_; intros; kernel_rfl),
      fun e he => he.door fun x y => body_ok (keep := kp) (ann := f73_4_ann) (lrc := f73_4_r (R := R) (fun _ => (rec_f93_4 (R := R) k).1) k) (N := 19) (n0 := 3) (c := []) cxOk mixed (f73_4_o_ok (fun _ => (rec_f93_4 (R := R) k).1) (fun _ e he => (rec_f93_4_ok (R := R) k).1 e he) k) (body := f73_4_b) (by kernel_rfl : Try.prog.funcs[73]? = some Try.f73) (by kernel_rfl) (by kernel_rfl) (by kernel_rfl) (by kernel_rfl) (of_decide_eq_true (by kernel_rfl)) (L := [f73_4_l2_b]) (by kernel_rfl) (⟨(f73_4_l2_d_ok (fun _ => (rec_f93_4 (R := R) k).1) (fun _ e he => (rec_f93_4_ok (R := R) k).1 e he) k).use (by kernel_rfl), trivial⟩) (J := []) (by kernel_rfl) trivial ((LrcNat.add (f73_4_l2_d_ok (fun _ => (rec_f93_4 (R := R) k).1) (fun _ e he => (rec_f93_4_ok (R := R) k).1 e he) k).2 LrcNat.no)) (fun _K => by kernel_rfl),
      fun e he => he.door fun x y => body_ok (keep := kp) (ann := f92_4_ann) (lrc := f92_4_r (R := R) (fun _ => (rec_f93_4 (R := R) k).2.1) k) (N := 9) (n0 := 3) (c := []) cxOk mixed (f92_4_o_ok (fun _ => (rec_f93_4 (R := R) k).2.1) (fun _ e he => (rec_f93_4_ok (R := R) k).2.1 e he) k) (body := f92_4_b) (by kernel_rfl : Try.prog.funcs[92]? = some Try.f92) (by kernel_rfl) (by kernel_rfl) (by kernel_rfl) (by kernel_rfl) (of_decide_eq_true (by kernel_rfl)) (L := []) (by kernel_rfl) trivial (J := []) (by kernel_rfl) trivial (LrcNat.no) (fun _K => by kernel_rfl),
      fun e he => he.door fun _x _y => body_ok (keep := kp) (ann := f69_2_ann) (lrc := f69_2_r (R := R) (fun _ => (rec_f93_4 (R := R) k).2.2.1) k) (N := 12) (n0 := 0) (c := []) cxOk mixed (f69_2_o_ok (fun _ => (rec_f93_4 (R := R) k).2.2.1) (fun _ e he => (rec_f93_4_ok (R := R) k).2.2.1 e he) k) (body := f69_2_b) (by kernel_rfl : Try.prog.funcs[69]? = some Try.f69) (by kernel_rfl) (by kernel_rfl) (by kernel_rfl) (by kernel_rfl) (of_decide_eq_true (by kernel_rfl)) (L := []) (by kernel_rfl) trivial (J := []) (by kernel_rfl) trivial (LrcNat.no) (fun _K => by kernel_rfl)⟩
noncomputable def f93_4 {R : Type} (k : Nat) (a0 : Int) (a1 : List Int) (a2 : List D2) (a3 : Bool) (a4 a5 : Int) (K : Bool → Int → Int → Option R) : Option R := (rec_f93_4 (R := R) k).1 a0 a1 a2 a3 a4 a5 K
theorem f93_4_ok {R : Type} (k : Nat) {e : Dr D R} (he : FnOk Try.prog cx 93 e) : FnOk Try.prog cx 93 (f93_4_d (f93_4 k) e) := (rec_f93_4_ok (R := R) k).1 e he
noncomputable def f73_4 {R : Type} (k : Nat) (a0 : List D2) (a1 a2 : Int) (K : Int → Int → Int → Option R) : Option R := (rec_f93_4 (R := R) k).2.1 a0 a1 a2 K
theorem f73_4_ok {R : Type} (k : Nat) {e : Dr D R} (he : FnOk Try.prog cx 73 e) : FnOk Try.prog cx 73 (f73_4_d (f73_4 k) e) := (rec_f93_4_ok (R := R) k).2.1 e he
noncomputable def f92_4 {R : Type} (k : Nat) (a0 : List D2) (a1 a2 : Int) (K : Bool → Int → Int → Option R) : Option R := (rec_f93_4 (R := R) k).2.2.1 a0 a1 a2 K
theorem f92_4_ok {R : Type} (k : Nat) {e : Dr D R} (he : FnOk Try.prog cx 92 e) : FnOk Try.prog cx 92 (f92_4_d (f92_4 k) e) := (rec_f93_4_ok (R := R) k).2.2.1 e he
noncomputable def f69_2 {R : Type} (k : Nat) (a0 : List D2) (a1 a2 : Int) (K : Bool → Option R) : Option R := (rec_f93_4 (R := R) k).2.2.2 a0 a1 a2 K
theorem f69_2_ok {R : Type} (k : Nat) {e : Dr D R} (he : FnOk Try.prog cx 69 e) : FnOk Try.prog cx 69 (f69_2_d (f69_2 k) e) := (rec_f93_4_ok (R := R) k).2.2.2 e he
theorem f93_4_step {R : Type} (k : Nat) (a0 : Int) (a1 : List Int) (a2 : List D2) (a3 : Bool) (a4 a5 : Int) (K : Bool → Int → Int → Option R) : f93_4 (k + 1) a0 a1 a2 a3 a4 a5 K = f93_4_s (fun _ => f69_2 (R := R) k) k a0 a1 a2 a3 a4 a5 K := rfl
theorem f73_4_step {R : Type} (k : Nat) (a0 : List D2) (a1 a2 : Int) (K : Int → Int → Int → Option R) : f73_4 (k + 1) a0 a1 a2 K = f73_4_s (fun _ => f93_4 (R := R) k) k a0 a1 a2 K := rfl
theorem f92_4_step {R : Type} (k : Nat) (a0 : List D2) (a1 a2 : Int) (K : Bool → Int → Int → Option R) : f92_4 (k + 1) a0 a1 a2 K = f92_4_s (fun _ => f73_4 (R := R) k) k a0 a1 a2 K := rfl
theorem f69_2_step {R : Type} (k : Nat) (a0 : List D2) (a1 a2 : Int) (K : Bool → Option R) : f69_2 (k + 1) a0 a1 a2 K = f69_2_s (fun _ => f92_4 (R := R) k) k a0 a1 a2 K := rfl


end Go.Proofs.Ytklhjegfkpmdoaa

/-! What the functions do, as plain functions; and that they do. -/
namespace Go.Proofs.Ytklhjegfkpmdoaa
open Go Go.Am
abbrev f70_T (R : Type) : Type := Int → List Int → List D2 → Bool → Int → Int → (Bool → Option R) → Option R
/-! ## 70: diorama/element.Check$3 -/
noncomputable def f70 {R : Type} (_k : Nat) (_a0 : Int) (_a1 : List Int) (_a2 : List D2) (_a3 : Bool) (_a4 a5 : Int) (K : Bool → Option R) : Option R :=
 K (decide (a5 > 8))
noncomputable def f70_d {R : Type} (g : f70_T R) (e : Dr D R) : Dr D R := door [.agg [.int .i64, .list (.int .u8), .list (.named 2), .bool], .int .i64, .int .i64] [] (fun (x : ((Int × List Int × List D2 × Bool × Unit) × Int × Int × Unit)) (y : (Unit)) K => g x.1.1 x.1.2.1 x.1.2.2.1 x.1.2.2.2.1 x.2.1 x.2.2.1 (fun z0 => K ⟨.bool z0, []⟩)) e
noncomputable def f70_o {R : Type} (_k : Nat) : Orc D R := noOrc
theorem f70_o_ok {R : Type} (k : Nat) : OrcOk Try.prog cx (f70_o (R := R) k) := OrcOk.no
noncomputable def f70_b : Code := bodyOf Try.f70
noncomputable def f70_ann : Nat → Option LAnn := fun _key => none
noncomputable def f70_r {R : Type} (_k : Nat) : Lrc D R := noLrc
theorem f70_ok {R : Type} (k : Nat) {e : Dr D R} (he : FnOk Try.prog cx 70 e) : FnOk Try.prog cx 70 (f70_d (f70 k) e) :=
  he.door fun _x _y => body_ok (keep := kp) (ann := f70_ann) (lrc := f70_r (R := R) k) (N := 9) (n0 := 0) (c := []) cxOk mixed (f70_o_ok k) (body := f70_b) (by kernel_rfl : Try.prog.funcs[70]? = some Try.f70) (by kernel_rfl) (by kernel_rfl) (by kernel_rfl) (by kernel_rfl) (of_decide_eq_true (by kernel_rfl)) (L := []) (by kernel_rfl) trivial (J := []) (by kernel_rfl) trivial (LrcNat.no) (fun _K => by kernel_rfl)

abbrev f93_6_T (R : Type) : Type := Int → List Int → List D2 → Bool → Int → Int → (Bool → Int → Int → Option R) → Option R
abbrev f73_6_T (R : Type) : Type := List D2 → Int → Int → (Int → Int → Int → Option R) → Option R
abbrev f92_6_T (R : Type) : Type := List D2 → Int → Int → (Bool → Int → Int → Option R) → Option R
abbrev f69_3_T (R : Type) : Type := List D2 → Int → Int → (Bool → Option R) → Option R
/-! ## 93: diorama/element.some$1 -/
noncomputable def f93_6_s {R : Type} (g_f69_3 : Nat → f69_3_T R) (k : Nat) (a0 : Int) (a1 : List Int) (a2 : List D2) (a3 : Bool) (a4 a5 : Int) (K : Bool → Int → Int → Option R) : Option R :=
 f70 k a0 a1 a2 a3 a4 a5 (fun v1 =>
  bif v1 then
   K true a4 a5
  else
   g_f69_3 k a2 a0 (IntKind.i64.wrap (a5 + 1)) (fun v2 =>
    K v2 a4 a5))
noncomputable def f93_6_d {R : Type} (g : f93_6_T R) (e : Dr D R) : Dr D R := door [.agg [.int .i64, .list (.int .u8), .list (.named 2), .bool], .ptr 0 0, .ptr 1 0, .ptr 2 0] [.box [.fn 70 []], .box [.int .i64], .box [.int .i64]] (fun (x : ((Int × List Int × List D2 × Bool × Unit) × Unit × Unit × Unit × Unit)) (y : (((Unit) × Unit) × (Int × Unit) × (Int × Unit) × Unit)) K => g x.1.1 x.1.2.1 x.1.2.2.1 x.1.2.2.2.1 y.2.1.1 y.2.2.1.1 (fun z0 z1 z2 => K ⟨.bool z0, [some (.box [.fn 70 []]), some (.box [.int .i64 z1]), some (.box [.int .i64 z2])]⟩)) e
/-! ## 73: slices.IndexFunc[[]diorama/api.Node,diorama/api.Node] -/
noncomputable def f73_6_l2 {R : Type} (g_f93_6 : Nat → f93_6_T R) : Nat → List D2 → Int → Int → Int → Int → (Int → Int → Option R) → (Int → Int → Int → Option R) → Option R
  | 0, _, _, _, _, _, _, _ => none
  | k + 1, v1, v2, v3, v4, v5, X0, X1 =>
  bif decide (v3 < v2) then
   bif inb v3 v1.length then
    g_f93_6 k (D2.c0 (v1.getD v3.toNat zero2)) (D2.c1 (v1.getD v3.toNat zero2)) (D2.c2 (v1.getD v3.toNat zero2)) (D2.c3 (v1.getD v3.toNat zero2)) v4 v5 (fun v6 v7 v8 =>
     bif v6 then
      X1 v3 v7 v8
     else
      f73_6_l2 g_f93_6 k v1 v2 (IntKind.i64.wrap (v3 + 1)) v7 v8 X0 X1)
   else
    none
  else
   X0 v4 v5
noncomputable def f73_6_s {R : Type} (g_f93_6 : Nat → f93_6_T R) (k : Nat) (a0 : List D2) (a1 a2 : Int) (K : Int → Int → Int → Option R) : Option R :=
 f73_6_l2 g_f93_6 k a0 (a0.length : Int) 0 a1 a2 (fun v9 v10 =>
  K (-1) v9 v10) K
noncomputable def f73_6_d {R : Type} (g : f73_6_T R) (e : Dr D R) : Dr D R := door [.list (.named 2), .fn 93 [.ptr 0 0, .ptr 1 0, .ptr 2 0]] [.box [.fn 70 []], .box [.int .i64], .box [.int .i64]] (fun (x : (List D2 × (Unit × Unit × Unit × Unit) × Unit)) (y : (((Unit) × Unit) × (Int × Unit) × (Int × Unit) × Unit)) K => g x.1 y.2.1.1 y.2.2.1.1 (fun z0 z1 z2 => K ⟨.int .i64 z0, [some (.box [.fn 70 []]), some (.box [.int .i64 z1]), some (.box [.int .i64 z2])]⟩)) e
/-! ## 92: slices.ContainsFunc[[]diorama/api.Node,diorama/api.Node] -/
noncomputable def f92_6_s {R : Type} (g_f73_6 : Nat → f73_6_T R) (k : Nat) (a0 : List D2) (a1 a2 : Int) (K : Bool → Int → Int → Option R) : Option R :=
 g_f73_6 k a0 a1 a2 (fun v1 v2 v3 =>
  K (decide (v1 ≥ 0)) v2 v3)
noncomputable def f92_6_d {R : Type} (g : f92_6_T R) (e : Dr D R) : Dr D R := door [.list (.named 2), .fn 93 [.ptr 0 0, .ptr 1 0, .ptr 2 0]] [.box [.fn 70 []], .box [.int .i64], .box [.int .i64]] (fun (x : (List D2 × (Unit × Unit × Unit × Unit) × Unit)) (y : (((Unit) × Unit) × (Int × Unit) × (Int × Unit) × Unit)) K => g x.1 y.2.1.1 y.2.2.1.1 (fun z0 z1 z2 => K ⟨.bool z0, [some (.box [.fn 70 []]), some (.box [.int .i64 z1]), some (.box [.int .i64 z2])]⟩)) e
/-! ## 69: diorama/element.some -/
noncomputable def f69_3_s {R : Type} (g_f92_6 : Nat → f92_6_T R) (k : Nat) (a0 : List D2) (a1 a2 : Int) (K : Bool → Option R) : Option R :=
 g_f92_6 k a0 a1 a2 (fun v1 _v2 _v3 =>
  K v1)
noncomputable def f69_3_d {R : Type} (g : f69_3_T R) (e : Dr D R) : Dr D R := door [.list (.named 2), .int .i64, .int .i64, .fn 70 []] [] (fun (x : (List D2 × Int × Int × (Unit) × Unit)) (y : (Unit)) K => g x.1 x.2.1 x.2.2.1 (fun z0 => K ⟨.bool z0, []⟩)) e
noncomputable def f93_6_o {R : Type} (g_f69_3 : Nat → f69_3_T R) (k : Nat) : Orc D R := (orcAdd 69 (f69_3_d (g_f69_3 k) noDr) (orcAdd 70 (f70_d (f70 k) noDr) noOrc))
theorem f93_6_o_ok {R : Type} (g_f69_3 : Nat → f69_3_T R) (h_f69_3 : ∀ (k : Nat) (e : Dr D R), FnOk Try.prog cx 69 e → FnOk Try.prog cx 69 (f69_3_d (g_f69_3 k) e)) (k : Nat) : OrcOk Try.prog cx (f93_6_o (R := R) g_f69_3 k) := (OrcOk.add (h_f69_3 k _ FnOk.no) (OrcOk.add (f70_ok k FnOk.no) OrcOk.no))
noncomputable def f93_6_b : Code := bodyOf Try.f93
noncomputable def f93_6_ann : Nat → Option LAnn := fun _key => none
noncomputable def f93_6_r {R : Type} (_g_f69_3 : Nat → f69_3_T R) (_k : Nat) : Lrc D R := noLrc
noncomputable def f73_6_o {R : Type} (g_f93_6 : Nat → f93_6_T R) (k : Nat) : Orc D R := (orcAdd 93 (f93_6_d (g_f93_6 k) noDr) noOrc)
theorem f73_6_o_ok {R : Type} (g_f93_6 : Nat → f93_6_T R) (h_f93_6 : ∀ (k : Nat) (e : Dr D R), FnOk Try.prog cx 93 e → FnOk Try.prog cx 93 (f93_6_d (g_f93_6 k) e)) (k : Nat) : OrcOk Try.prog cx (f73_6_o (R := R) g_f93_6 k) := (OrcOk.add (h_f93_6 k _ FnOk.no) OrcOk.no)
noncomputable def f73_6_b : Code := bodyOf Try.f73
noncomputable def f73_6_l2_a : LAnn := ⟨⟨[], [0, 1, 7, 8], [0, 1, 2], []⟩, exOf (some ⟨[], [4], [0, 1, 2], []⟩) [(0, ⟨[], [], [0, 1, 2], []⟩)]⟩
noncomputable def f73_6_ann : Nat → Option LAnn := fun key => bif Nat.beq key 2 then some f73_6_l2_a else none
noncomputable def f73_6_l2_b : Code := loopAt f73_6_b 0
noncomputable def f73_6_l2_g {R : Type} (g_f93_6 : Nat → f93_6_T R) (k : Nat) (x : (List D2 × (Unit × Unit × Unit × Unit) × Int × Int × Unit)) (y : (((Unit) × Unit) × (Int × Unit) × (Int × Unit) × Unit)) (K : KX R) : Option R := f73_6_l2 g_f93_6 k x.1 x.2.2.1 x.2.2.2.1 y.2.1.1 y.2.2.1.1 (fun z0 z1 => K (.exit 0) [] [some (.box [.fn 70 []]), some (.box [.int .i64 z0]), some (.box [.int .i64 z1])]) (fun z0 z1 z2 => K (.ret) [.int .i64 z0] [some (.box [.fn 70 []]), some (.box [.int .i64 z1]), some (.box [.int .i64 z2])])
noncomputable def f73_6_l2_d {R : Type} (g_f93_6 : Nat → f93_6_T R) (k : Nat) : Lr D R := ldoor [.list (.named 2), .fn 93 [.ptr 0 0, .ptr 1 0, .ptr 2 0], .int .i64, .int .i64] [some (.box [.fn 70 []]), some (.box [.int .i64]), some (.box [.int .i64])] (f73_6_l2_g g_f93_6 k)
noncomputable def f73_6_l2_r {R : Type} (_g_f93_6 : Nat → f93_6_T R) (_k : Nat) : Lrc D R := noLrc
theorem f73_6_l2_d_ok {R : Type} (g_f93_6 : Nat → f93_6_T R) (h_f93_6 : ∀ (k : Nat) (e : Dr D R), FnOk Try.prog cx 93 e → FnOk Try.prog cx 93 (f93_6_d (g_f93_6 k) e)) : ∀ k, LoopOk Try.prog cx 19 3 f73_6_ann (f73_6_l2_d (R := R) g_f93_6 k) f73_6_l2_b :=
  loop_ok (keep := kp) (lrc := f73_6_l2_r (R := R) g_f93_6) cxOk mixed (f73_6_o_ok g_f93_6 h_f93_6) (show f73_6_ann (Am.keyOf f73_6_l2_b) = some f73_6_l2_a by kernel_rfl) (L := []) (by kernel_rfl) (fun _k => trivial) (J := []) (by kernel_rfl) (fun _k => trivial) (fun _k => LrcNat.no) (fun _x _y _K => by kernel_rfl) (fun _k _x _y _K => by kernel_rfl)
noncomputable def f73_6_r {R : Type} (g_f93_6 : Nat → f93_6_T R) (k : Nat) : Lrc D R := (lrcAdd 2 (f73_6_l2_d g_f93_6 k) noLrc)
noncomputable def f92_6_o {R : Type} (g_f73_6 : Nat → f73_6_T R) (k : Nat) : Orc D R := (orcAdd 73 (f73_6_d (g_f73_6 k) noDr) noOrc)
theorem f92_6_o_ok {R : Type} (g_f73_6 : Nat → f73_6_T R) (h_f73_6 : ∀ (k : Nat) (e : Dr D R), FnOk Try.prog cx 73 e → FnOk Try.prog cx 73 (f73_6_d (g_f73_6 k) e)) (k : Nat) : OrcOk Try.prog cx (f92_6_o (R := R) g_f73_6 k) := (OrcOk.add (h_f73_6 k _ FnOk.no) OrcOk.no)
noncomputable def f92_6_b : Code := bodyOf Try.f92
noncomputable def f92_6_ann : Nat → Option LAnn := fun _key => none
noncomputable def f92_6_r {R : Type} (_g_f73_6 : Nat → f73_6_T R) (_k : Nat) : Lrc D R := noLrc
noncomputable def f69_3_o {R : Type} (g_f92_6 : Nat → f92_6_T R) (k : Nat) : Orc D R := (orcAdd 92 (f92_6_d (g_f92_6 k) noDr) noOrc)
theorem f69_3_o_ok {R : Type} (g_f92_6 : Nat → f92_6_T R) (h_f92_6 : ∀ (k : Nat) (e : Dr D R), FnOk Try.prog cx 92 e → FnOk Try.prog cx 92 (f92_6_d (g_f92_6 k) e)) (k : Nat) : OrcOk Try.prog cx (f69_3_o (R := R) g_f92_6 k) := (OrcOk.add (h_f92_6 k _ FnOk.no) OrcOk.no)
noncomputable def f69_3_b : Code := bodyOf Try.f69
noncomputable def f69_3_ann : Nat → Option LAnn := fun _key => none
noncomputable def f69_3_r {R : Type} (_g_f92_6 : Nat → f92_6_T R) (_k : Nat) : Lrc D R := noLrc
noncomputable def rec_f93_6 {R : Type} : Nat → (f93_6_T R) × (f73_6_T R) × (f92_6_T R) × (f69_3_T R)
  | 0 => (fun _ _ _ _ _ _ _ => none, fun _ _ _ _ => none, fun _ _ _ _ => none, fun _ _ _ _ => none)
  | k + 1 => (f93_6_s (fun _ => (rec_f93_6 (R := R) k).2.2.2) k, f73_6_s (fun _ => (rec_f93_6 (R := R) k).1) k, f92_6_s (fun _ => (rec_f93_6 (R := R) k).2.1) k, f69_3_s (fun _ => (rec_f93_6 (R := R) k).2.2.1) k)
theorem rec_f93_6_succ {R : Type} (k : Nat) : rec_f93_6 (R := R) (k + 1) = (f93_6_s (fun _ => (rec_f93_6 (R := R) k).2.2.2) k, f73_6_s (fun _ => (rec_f93_6 (R := R) k).1) k, f92_6_s (fun _ => (rec_f93_6 (R := R) k).2.1) k, f69_3_s (fun _ => (rec_f93_6 (R := R) k).2.2.1) k) := rfl
theorem rec_f93_6_ok {R : Type} : ∀ k, (∀ e : Dr D R, FnOk Try.prog cx 93 e → FnOk Try.prog cx 93 (f93_6_d (rec_f93_6 (R := R) k).1 e)) ∧ (∀ e : Dr D R, FnOk Try.prog cx 73 e → FnOk Try.prog cx 73 (f73_6_d (rec_f93_6 (R := R) k).2.1 e)) ∧ (∀ e : Dr D R, FnOk Try.prog cx 92 e → FnOk Try.prog cx 92 (f92_6_d (rec_f93_6 (R := R) k).2.2.1 e)) ∧ (∀ e : Dr D R, FnOk Try.prog cx 69 e → FnOk Try.prog cx 69 (f69_3_d (rec_f93_6 (R := R) k).2.2.2 e))
  | 0 => ⟨fun e he => he.door0 fun x y K => rfl, fun e he => he.door0 fun x y K => rfl, fun e he => he.door0 fun x y K => rfl, fun e he => he.door0 fun x y _K => rfl⟩
  | k + 1 => by
    rw [rec_f93_6_succ]
    exact ⟨fun e he => he.door fun x y => body_ok (keep := kp) (ann := f93_6_ann) (lrc := f93_6_r (R := R) (fun _ => (rec_f93_6 (R := R) k).2.2.2) k) (N := 21) (n0 := 3) (c := []) cxOk mixed (f93_6_o_ok (fun _ => (rec_f93_6 (R := R) k).2.2.2) (fun _ e he => (rec_f93_6_ok (R := R) k).2.2.2 e he) k) (body := f93_6_b) (by kernel_rfl : Try.prog.funcs[93]? = some Try.f93) (by kernel_rfl) (by kernel_rfl) (by kernel_rfl) (by kernel_rfl) (of_decide_eq_true (by kernel_rfl)) (L := []) (by kernel_rfl) trivial (J := []) (by kernel_rfl) trivial (LrcNat.no) (fun _K => by delta f93_6_s f93_6_o; generalize @f70 R = a0; revert a0; refine id ?_; intros; kernel_rfl),
      fun e he => he.door fun x y => body_ok (keep := kp) (ann := f73_6_ann) (lrc := f73_6_r (R := R) (fun _ => (rec_f93_6 (R := R) k).1) k) (N := 19) (n0 := 3) (c := []) cxOk mixed (f73_6_o_ok (fun _ => (rec_f93_6 (R := R) k).1) (fun _ e he => (rec_f93_6_ok (R := R) k).1 e he) k) (body := f73_6_b) (by kernel_rfl : Try.prog.funcs[73]? = some Try.f73) (by kernel_rfl) (by kernel_rfl) (by kernel_rfl) (by kernel_rfl) (of_decide_eq_true (by kernel_rfl)) (L := [f73_6_l2_b]) (by kernel_rfl) (⟨(f73_6_l2_d_ok (fun _ => (rec_f93_6 (R := R) k).1) (fun _ e he => (rec_f93_6_ok (R := R) k).1 e he) k).use (by kernel_rfl), trivial⟩) (J := []) (by kernel_rfl) trivial ((LrcNat.add (f73_6_l2_d_ok (fun _ => (rec_f93_6 (R := R) k).1) (fun _ e he => (rec_f93_6_ok (R := R) k).1 e he) k).2 LrcNat.no)) (fun _K => by kernel_rfl),
      fun e he => he.door fun x y => body_ok (keep := kp) (ann := f92_6_ann) (lrc := f92_6_r (R := R) (fun _ => (rec_f93_6 (R := R) k).2.1) k) (N := 9) (n0 := 3) (c := []) cxOk mixed (f92_6_o_ok (fun _ => (rec_f93_6 (R := R) k).2.1) (fun _ e he => (rec_f93_6_ok (R := R) k).2.1 e he) k) (body := f92_6_b) (by kernel_rfl : Try.prog.funcs[92]? = some Try.f92) (by kernel_rfl) (by kernel_rfl) (by kernel_rfl) (by kernel_rfl) (of_decide_eq_true (by kernel_rfl)) (L := []) (by kernel_rfl) trivial (J := []) (by kernel_rfl) trivial (LrcNat.no) (fun _K => by kernel_rfl),
      fun e he => he.door fun _x _y => body_ok (keep := kp) (ann := f69_3_ann) (lrc := f69_3_r (R := R) (fun _ => (rec_f93_6 (R := R) k).2.2.1) k) (N := 12) (n0 := 0) (c := []) cxOk mixed (f69_3_o_ok (fun _ => (rec_f93_6 (R := R) k).2.2.1) (fun _ e he => (rec_f93_6_ok (R := R) k).2.2.1 e he) k) (body := f69_3_b) (by kernel_rfl : Try.prog.funcs[69]? = some Try.f69) (by kernel_rfl) (by kernel_rfl) (by kernel_rfl) (by kernel_rfl) (of_decide_eq_true (by kernel_rfl)) (L := []) (by kernel_rfl) trivial (J := []) (by kernel_rfl) trivial (LrcNat.no) (fun _K => by kernel_rfl)⟩
noncomputable def f93_6 {R : Type} (k : Nat) (a0 : Int) (a1 : List Int) (a2 : List D2) (a3 : Bool) (a4 a5 : Int) (K : Bool → Int → Int → Option R) : Option R := (rec_f93_6 (R := R) k).1 a0 a1 a2 a3 a4 a5 K
theorem f93_6_ok {R : Type} (k : Nat) {e : Dr D R} (he : FnOk Try.prog cx 93 e) : FnOk Try.prog cx 93 (f93_6_d (f93_6 k) e) := (rec_f93_6_ok (R := R) k).1 e he
noncomputable def f73_6 {R : Type} (k : Nat) (a0 : List D2) (a1 a2 : Int) (K : Int → Int → Int → Option R) : Option R := (rec_f93_6 (R := R) k).2.1 a0 a1 a2 K
theorem f73_6_ok {R : Type} (k : Nat) {e : Dr D R} (he : FnOk Try.prog cx 73 e) : FnOk Try.prog cx 73 (f73_6_d (f73_6 k) e) := (rec_f93_6_ok (R := R) k).2.1 e he
noncomputable def f92_6 {R : Type} (k : Nat) (a0 : List D2) (a1 a2 : Int) (K : Bool → Int → Int → Option R) : Option R := (rec_f93_6 (R := R) k).2.2.1 a0 a1 a2 K
theorem f92_6_ok {R : Type} (k : Nat) {e : Dr D R} (he : FnOk Try.prog cx 92 e) : FnOk Try.prog cx 92 (f92_6_d (f92_6 k) e) := (rec_f93_6_ok (R := R) k).2.2.1 e he
noncomputable def f69_3 {R : Type} (k : Nat) (a0 : List D2) (a1 a2 : Int) (K : Bool → Option R) : Option R := (rec_f93_6 (R := R) k).2.2.2 a0 a1 a2 K
theorem f69_3_ok {R : Type} (k : Nat) {e : Dr D R} (he : FnOk Try.prog cx 69 e) : FnOk Try.prog cx 69 (f69_3_d (f69_3 k) e) := (rec_f93_6_ok (R := R) k).2.2.2 e he
theorem f93_6_step {R : Type} (k : Nat) (a0 : Int) (a1 : List Int) (a2 : List D2) (a3 : Bool) (a4 a5 : Int) (K : Bool → Int → Int → Option R) : f93_6 (k + 1) a0 a1 a2 a3 a4 a5 K = f93_6_s (fun _ => f69_3 (R := R) k) k a0 a1 a2 a3 a4 a5 K := rfl
theorem f73_6_step {R : Type} (k : Nat) (a0 : List D2) (a1 a2 : Int) (K : Int → Int → Int → Option R) : f73_6 (k + 1) a0 a1 a2 K = f73_6_s (fun _ => f93_6 (R := R) k) k a0 a1 a2 K := rfl
theorem f92_6_step {R : Type} (k : Nat) (a0 : List D2) (a1 a2 : Int) (K : Bool → Int → Int → Option R) : f92_6 (k + 1) a0 a1 a2 K = f92_6_s (fun _ => f73_6 (R := R) k) k a0 a1 a2 K := rfl
theorem f69_3_step {R : Type} (k : Nat) (a0 : List D2) (a1 a2 : Int) (K : Bool → Option R) : f69_3 (k + 1) a0 a1 a2 K = f69_3_s (fun _ => f92_6 (R := R) k) k a0 a1 a2 K := rfl

abbrev f71_T (R : Type) : Type := Int → List Int → List D2 → Bool → Int → Int → Int → (Bool → Int → Option R) → Option R
/-! ## 71: diorama/element.Check$4 -/
noncomputable def f71 {R : Type} (_k : Nat) (_a0 : Int) (_a1 : List Int) (_a2 : List D2) (_a3 : Bool) (_a4 _a5 a6 : Int) (K : Bool → Int → Option R) : Option R :=
 K (decide ((IntKind.i64.wrap (a6 + 1)) > 4000)) (IntKind.i64.wrap (a6 + 1))
noncomputable def f71_d {R : Type} (g : f71_T R) (e : Dr D R) : Dr D R := door [.agg [.int .i64, .list (.int .u8), .list (.named 2), .bool], .int .i64, .int .i64, .ptr 0 0] [.box [.int .i64]] (fun (x : ((Int × List Int × List D2 × Bool × Unit) × Int × Int × Unit × Unit)) (y : ((Int × Unit) × Unit)) K => g x.1.1 x.1.2.1 x.1.2.2.1 x.1.2.2.2.1 x.2.1 x.2.2.1 y.1.1 (fun z0 z1 => K ⟨.bool z0, [some (.box [.int .i64 z1])]⟩)) e
noncomputable def f71_o {R : Type} (_k : Nat) : Orc D R := noOrc
theorem f71_o_ok {R : Type} (k : Nat) : OrcOk Try.prog cx (f71_o (R := R) k) := OrcOk.no
noncomputable def f71_b : Code := bodyOf Try.f71
noncomputable def f71_ann : Nat → Option LAnn := fun _key => none
noncomputable def f71_r {R : Type} (_k : Nat) : Lrc D R := noLrc
theorem f71_ok {R : Type} (k : Nat) {e : Dr D R} (he : FnOk Try.prog cx 71 e) : FnOk Try.prog cx 71 (f71_d (f71 k) e) :=
  he.door fun _x _y => body_ok (keep := kp) (ann := f71_ann) (lrc := f71_r (R := R) k) (N := 12) (n0 := 1) (c := []) cxOk mixed (f71_o_ok k) (body := f71_b) (by kernel_rfl : Try.prog.funcs[71]? = some Try.f71) (by kernel_rfl) (by kernel_rfl) (by kernel_rfl) (by kernel_rfl) (of_decide_eq_true (by kernel_rfl)) (L := []) (by kernel_rfl) trivial (J := []) (by kernel_rfl) trivial (LrcNat.no) (fun _K => by kernel_rfl)

abbrev f93_8_T (R : Type) : Type := Int → List Int → List D2 → Bool → Int → Int → Int → (Bool → Int → Int → Int → Option R) → Option R
abbrev f73_8_T (R : Type) : Type := List D2 → Int → Int → Int → (Int → Int → Int → Int → Option R) → Option R
abbrev f92_8_T (R : Type) : Type := List D2 → Int → Int → Int → (Bool → Int → Int → Int → Option R) → Option R
abbrev f69_4_T (R : Type) : Type := List D2 → Int → Int → Int → (Bool → Int → Option R) → Option R
/-! ## 93: diorama/element.some$1 -/
noncomputable def f93_8_s {R : Type} (g_f69_4 : Nat → f69_4_T R) (k : Nat) (a0 : Int) (a1 : List Int) (a2 : List D2) (a3 : Bool) (a4 a5 a6 : Int) (K : Bool → Int → Int → Int → Option R) : Option R :=
 f71 k a0 a1 a2 a3 a5 a6 a4 (fun v1 v2 =>
  bif v1 then
   K true v2 a5 a6
  else
   g_f69_4 k a2 a0 (IntKind.i64.wrap (a6 + 1)) v2 (fun v3 v4 =>
    K v3 v4 a5 a6))
noncomputable def f93_8_d {R : Type} (g : f93_8_T R) (e : Dr D R) : Dr D R := door [.agg [.int .i64, .list (.int .u8), .list (.named 2), .bool], .ptr 0 0, .ptr 2 0, .ptr 3 0] [.box [.fn 71 [.ptr 1 0]], .box [.int .i64], .box [.int .i64], .box [.int .i64]] (fun (x : ((Int × List Int × List D2 × Bool × Unit) × Unit × Unit × Unit × Unit)) (y : (((Unit × Unit) × Unit) × (Int × Unit) × (Int × Unit) × (Int × Unit) × Unit)) K => g x.1.1 x.1.2.1 x.1.2.2.1 x.1.2.2.2.1 y.2.1.1 y.2.2.1.1 y.2.2.2.1.1 (fun z0 z1 z2 z3 => K ⟨.bool z0, [some (.box [.fn 71 [.ptr 1 0]]), some (.box [.int .i64 z1]), some (.box [.int .i64 z2]), some (.box [.int .i64 z3])]⟩)) e
/-! ## 73: slices.IndexFunc[[]diorama/api.Node,diorama/api.Node] -/
noncomputable def f73_8_l2 {R : Type} (g_f93_8 : Nat → f93_8_T R) : Nat → List D2 → Int → Int → Int → Int → Int → (Int → Int → Int → Option R) → (Int → Int → Int → Int → Option R) → Option R
  | 0, _, _, _, _, _, _, _, _ => none
  | k + 1, v1, v2, v3, v4, v5, v6, X0, X1 =>
  bif decide (v3 < v2) then
   bif inb v3 v1.length then
    g_f93_8 k (D2.c0 (v1.getD v3.toNat zero2)) (D2.c1 (v1.getD v3.toNat zero2)) (D2.c2 (v1.getD v3.toNat zero2)) (D2.c3 (v1.getD v3.toNat zero2)) v4 v5 v6 (fun v7 v8 v9 v10 =>
     bif v7 then
      X1 v3 v8 v9 v10
     else
      f73_8_l2 g_f93_8 k v1 v2 (IntKind.i64.wrap (v3 + 1)) v8 v9 v10 X0 X1)
   else
    none
  else
   X0 v4 v5 v6
noncomputable def f73_8_s {R : Type} (g_f93_8 : Nat → f93_8_T R) (k : Nat) (a0 : List D2) (a1 a2 a3 : Int) (K : Int → Int → Int → Int → Option R) : Option R :=
 f73_8_l2 g_f93_8 k a0 (a0.length : Int) 0 a1 a2 a3 (fun v11 v12 v13 =>
  K (-1) v11 v12 v13) K
noncomputable def f73_8_d {R : Type} (g : f73_8_T R) (e : Dr D R) : Dr D R := door [.list (.named 2), .fn 93 [.ptr 0 0, .ptr 2 0, .ptr 3 0]] [.box [.fn 71 [.ptr 1 0]], .box [.int .i64], .box [.int .i64], .box [.int .i64]] (fun (x : (List D2 × (Unit × Unit × Unit × Unit) × Unit)) (y : (((Unit × Unit) × Unit) × (Int × Unit) × (Int × Unit) × (Int × Unit) × Unit)) K => g x.1 y.2.1.1 y.2.2.1.1 y.2.2.2.1.1 (fun z0 z1 z2 z3 => K ⟨.int .i64 z0, [some (.box [.fn 71 [.ptr 1 0]]), some (.box [.int .i64 z1]), some (.box [.int .i64 z2]), some (.box [.int .i64 z3])]⟩)) e
/-! ## 92: slices.ContainsFunc[[]diorama/api.Node,diorama/api.Node] -/
noncomputable def f92_8_s {R : Type} (g_f73_8 : Nat → f73_8_T R) (k : Nat) (a0 : List D2) (a1 a2 a3 : Int) (K : Bool → Int → Int → Int → Option R) : Option R :=
 g_f73_8 k a0 a1 a2 a3 (fun v1 v2 v3 v4 =>
  K (decide (v1 ≥ 0)) v2 v3 v4)
noncomputable def f92_8_d {R : Type} (g : f92_8_T R) (e : Dr D R) : Dr D R := door [.list (.named 2), .fn 93 [.ptr 0 0, .ptr 2 0, .ptr 3 0]] [.box [.fn 71 [.ptr 1 0]], .box [.int .i64], .box [.int .i64], .box [.int .i64]] (fun (x : (List D2 × (Unit × Unit × Unit × Unit) × Unit)) (y : (((Unit × Unit) × Unit) × (Int × Unit) × (Int × Unit) × (Int × Unit) × Unit)) K => g x.1 y.2.1.1 y.2.2.1.1 y.2.2.2.1.1 (fun z0 z1 z2 z3 => K ⟨.bool z0, [some (.box [.fn 71 [.ptr 1 0]]), some (.box [.int .i64 z1]), some (.box [.int .i64 z2]), some (.box [.int .i64 z3])]⟩)) e
/-! ## 69: diorama/element.some -/
noncomputable def f69_4_s {R : Type} (g_f92_8 : Nat → f92_8_T R) (k : Nat) (a0 : List D2) (a1 a2 a3 : Int) (K : Bool → Int → Option R) : Option R :=
 g_f92_8 k a0 a3 a1 a2 (fun v1 v2 _v3 _v4 =>
  K v1 v2)
noncomputable def f69_4_d {R : Type} (g : f69_4_T R) (e : Dr D R) : Dr D R := door [.list (.named 2), .int .i64, .int .i64, .fn 71 [.ptr 0 0]] [.box [.int .i64]] (fun (x : (List D2 × Int × Int × (Unit × Unit) × Unit)) (y : ((Int × Unit) × Unit)) K => g x.1 x.2.1 x.2.2.1 y.1.1 (fun z0 z1 => K ⟨.bool z0, [some (.box [.int .i64 z1])]⟩)) e
noncomputable def f93_8_o {R : Type} (g_f69_4 : Nat → f69_4_T R) (k : Nat) : Orc D R := (orcAdd 69 (f69_4_d (g_f69_4 k) noDr) (orcAdd 71 (f71_d (f71 k) noDr) noOrc))
theorem f93_8_o_ok {R : Type} (g_f69_4 : Nat → f69_4_T R) (h_f69_4 : ∀ (k : Nat) (e : Dr D R), FnOk Try.prog cx 69 e → FnOk Try.prog cx 69 (f69_4_d (g_f69_4 k) e)) (k : Nat) : OrcOk Try.prog cx (f93_8_o (R := R) g_f69_4 k) := (OrcOk.add (h_f69_4 k _ FnOk.no) (OrcOk.add (f71_ok k FnOk.no) OrcOk.no))
noncomputable def f93_8_b : Code := bodyOf Try.f93
noncomputable def f93_8_ann : Nat → Option LAnn := fun _key => none
noncomputable def f93_8_r {R : Type} (_g_f69_4 : Nat → f69_4_T R) (_k : Nat) : Lrc D R := noLrc
noncomputable def f73_8_o {R : Type} (g_f93_8 : Nat → f93_8_T R) (k : Nat) : Orc D R := (orcAdd 93 (f93_8_d (g_f93_8 k) noDr) noOrc)
theorem f73_8_o_ok {R : Type} (g_f93_8 : Nat → f93_8_T R) (h_f93_8 : ∀ (k : Nat) (e : Dr D R), FnOk Try.prog cx 93 e → FnOk Try.prog cx 93 (f93_8_d (g_f93_8 k) e)) (k : Nat) : OrcOk Try.prog cx (f73_8_o (R := R) g_f93_8 k) := (OrcOk.add (h_f93_8 k _ FnOk.no) OrcOk.no)
noncomputable def f73_8_b : Code := bodyOf Try.f73
noncomputable def f73_8_l2_a : LAnn := ⟨⟨[], [0, 1, 7, 8], [0, 1, 2, 3], []⟩, exOf (some ⟨[], [4], [0, 1, 2, 3], []⟩) [(0, ⟨[], [], [0, 1, 2, 3], []⟩)]⟩
noncomputable def f73_8_ann : Nat → Option LAnn := fun key => bif Nat.beq key 2 then some f73_8_l2_a else none
noncomputable def f73_8_l2_b : Code := loopAt f73_8_b 0
noncomputable def f73_8_l2_g {R : Type} (g_f93_8 : Nat → f93_8_T R) (k : Nat) (x : (List D2 × (Unit × Unit × Unit × Unit) × Int × Int × Unit)) (y : (((Unit × Unit) × Unit) × (Int × Unit) × (Int × Unit) × (Int × Unit) × Unit)) (K : KX R) : Option R := f73_8_l2 g_f93_8 k x.1 x.2.2.1 x.2.2.2.1 y.2.1.1 y.2.2.1.1 y.2.2.2.1.1 (fun z0 z1 z2 => K (.exit 0) [] [some (.box [.fn 71 [.ptr 1 0]]), some (.box [.int .i64 z0]), some (.box [.int .i64 z1]), some (.box [.int .i64 z2])]) (fun z0 z1 z2 z3 => K (.ret) [.int .i64 z0] [some (.box [.fn 71 [.ptr 1 0]]), some (.box [.int .i64 z1]), some (.box [.int .i64 z2]), some (.box [.int .i64 z3])])
noncomputable def f73_8_l2_d {R : Type} (g_f93_8 : Nat → f93_8_T R) (k : Nat) : Lr D R := ldoor [.list (.named 2), .fn 93 [.ptr 0 0, .ptr 2 0, .ptr 3 0], .int .i64, .int .i64] [some (.box [.fn 71 [.ptr 1 0]]), some (.box [.int .i64]), some (.box [.int .i64]), some (.box [.int .i64])] (f73_8_l2_g g_f93_8 k)
noncomputable def f73_8_l2_r {R : Type} (_g_f93_8 : Nat → f93_8_T R) (_k : Nat) : Lrc D R := noLrc
theorem f73_8_l2_d_ok {R : Type} (g_f93_8 : Nat → f93_8_T R) (h_f93_8 : ∀ (k : Nat) (e : Dr D R), FnOk Try.prog cx 93 e → FnOk Try.prog cx 93 (f93_8_d (g_f93_8 k) e)) : ∀ k, LoopOk Try.prog cx 19 4 f73_8_ann (f73_8_l2_d (R := R) g_f93_8 k) f73_8_l2_b :=
  loop_ok (keep := kp) (lrc := f73_8_l2_r (R := R) g_f93_8) cxOk mixed (f73_8_o_ok g_f93_8 h_f93_8) (show f73_8_ann (Am.keyOf f73_8_l2_b) = some f73_8_l2_a by kernel_rfl) (L := []) (by kernel_rfl) (fun _k => trivial) (J := []) (by kernel_rfl) (fun _k => trivial) (fun _k => LrcNat.no) (fun _x _y _K => by kernel_rfl) (fun _k _x _y _K => by kernel_rfl)
noncomputable def f73_8_r {R : Type} (g_f93_8 : Nat → f93_8_T R) (k : Nat) : Lrc D R := (lrcAdd 2 (f73_8_l2_d g_f93_8 k) noLrc)
noncomputable def f92_8_o {R : Type} (g_f73_8 : Nat → f73_8_T R) (k : Nat) : Orc D R := (orcAdd 73 (f73_8_d (g_f73_8 k) noDr) noOrc)
theorem f92_8_o_ok {R : Type} (g_f73_8 : Nat → f73_8_T R) (h_f73_8 : ∀ (k : Nat) (e : Dr D R), FnOk Try.prog cx 73 e → FnOk Try.prog cx 73 (f73_8_d (g_f73_8 k) e)) (k : Nat) : OrcOk Try.prog cx (f92_8_o (R := R) g_f73_8 k) := (OrcOk.add (h_f73_8 k _ FnOk.no) OrcOk.no)
noncomputable def f92_8_b : Code := bodyOf Try.f92
noncomputable def f92_8_ann : Nat → Option LAnn := fun _key => none
noncomputable def f92_8_r {R : Type} (_g_f73_8 : Nat → f73_8_T R) (_k : Nat) : Lrc D R := noLrc
noncomputable def f69_4_o {R : Type} (g_f92_8 : Nat → f92_8_T R) (k : Nat) : Orc D R := (orcAdd 92 (f92_8_d (g_f92_8 k) noDr) noOrc)
theorem f69_4_o_ok {R : Type} (g_f92_8 : Nat → f92_8_T R) (h_f92_8 : ∀ (k : Nat) (e : Dr D R), FnOk Try.prog cx 92 e → FnOk Try.prog cx 92 (f92_8_d (g_f92_8 k) e)) (k : Nat) : OrcOk Try.prog cx (f69_4_o (R := R) g_f92_8 k) := (OrcOk.add (h_f92_8 k _ FnOk.no) OrcOk.no)
noncomputable def f69_4_b : Code := bodyOf Try.f69
noncomputable def f69_4_ann : Nat → Option LAnn := fun _key => none
noncomputable def f69_4_r {R : Type} (_g_f92_8 : Nat → f92_8_T R) (_k : Nat) : Lrc D R := noLrc
noncomputable def rec_f93_8 {R : Type} : Nat → (f93_8_T R) × (f73_8_T R) × (f92_8_T R) × (f69_4_T R)
  | 0 => (fun _ _ _ _ _ _ _ _ => none, fun _ _ _ _ _ => none, fun _ _ _ _ _ => none, fun _ _ _ _ _ => none)
  | k + 1 => (f93_8_s (fun _ => (rec_f93_8 (R := R) k).2.2.2) k, f73_8_s (fun _ => (rec_f93_8 (R := R) k).1) k, f92_8_s (fun _ => (rec_f93_8 (R := R) k).2.1) k, f69_4_s (fun _ => (rec_f93_8 (R := R) k).2.2.1) k)
theorem rec_f93_8_succ {R : Type} (k : Nat) : rec_f93_8 (R := R) (k + 1) = (f93_8_s (fun _ => (rec_f93_8 (R := R) k).2.2.2) k, f73_8_s (fun _ => (rec_f93_8 (R := R) k).1) k, f92_8_s (fun _ => (rec_f93_8 (R := R) k).2.1) k, f69_4_s (fun _ => (rec_f93_8 (R := R) k).2.2.1) k) := rfl
theorem rec_f93_8_ok {R : Type} : ∀ k, (∀ e : Dr D R, FnOk Try.prog cx 93 e → FnOk Try.prog cx 93 (f93_8_d (rec_f93_8 (R := R) k).1 e)) ∧ (∀ e : Dr D R, FnOk Try.prog cx 73 e → FnOk Try.prog cx 73 (f73_8_d (rec_f93_8 (R := R) k).2.1 e)) ∧ (∀ e : Dr D R, FnOk Try.prog cx 92 e → FnOk Try.prog cx 92 (f92_8_d (rec_f93_8 (R := R) k).2.2.1 e)) ∧ (∀ e : Dr D R, FnOk Try.prog cx 69 e → FnOk Try.prog cx 69 (f69_4_d (rec_f93_8 (R := R) k).2.2.2 e))
  | 0 => ⟨fun e he => he.door0 fun x y K => rfl, fun e he => he.door0 fun x y K => rfl, fun e he => he.door0 fun x y K => rfl, fun e he => he.door0 fun x y _K => rfl⟩
  | k + 1 => by
    rw [rec_f93_8_succ]
    exact ⟨fun e he => he.door fun x y => body_ok (keep := kp) (ann := f93_8_ann) (lrc := f93_8_r (R := R) (fun _ => (rec_f93_8 (R := R) k).2.2.2) k) (N := 21) (n0 := 4) (c := []) cxOk mixed (f93_8_o_ok (fun _ => (rec_f93_8 (R := R) k).2.2.2) (fun _ e he => (rec_f93_8_ok (R := R) k).2.2.2 e he) k) (body := f93_8_b) (by kernel_rfl : Try.prog.funcs[93]? = some Try.f93) (by kernel_rfl) (by kernel_rfl) (by kernel_rfl) (by kernel_rfl) (of_decide_eq_true (by kernel_rfl)) (L := []) (by kernel_rfl) trivial (J := []) (by kernel_rfl) trivial (LrcNat.no) (fun _K => by delta f93_8_s f93_8_o; generalize @f71 R = a0; revert a0; refine id ?_; intros; kernel_rfl),
      fun e he => he.door fun x y => body_ok (keep := kp) (ann := f73_8_ann) (lrc := f73_8_r (R := R) (fun _ => (rec_f93_8 (R := R) k).1) k) (N := 19) (n0 := 4) (c := []) cxOk mixed (f73_8_o_ok (fun _ => (rec_f93_8 (R := R) k).1) (fun _ e he => (rec_f93_8_ok (R := R) k).1 e he) k) (body := f73_8_b) (by kernel_rfl : Try.prog.funcs[73]? = some Try.f73) (by kernel_rfl) (by kernel_rfl) (by kernel_rfl) (by kernel_rfl) (of_decide_eq_true (by kernel_rfl)) (L := [f73_8_l2_b]) (by kernel_rfl) (⟨(f73_8_l2_d_ok (fun _ => (rec_f93_8 (R := R) k).1) (fun _ e he => (rec_f93_8_ok (R := R) k).1 e he) k).use (by kernel_rfl), trivial⟩) (J := []) (by kernel_rfl) trivial ((LrcNat.add (f73_8_l2_d_ok (fun _ => (rec_f93_8 (R := R) k).1) (fun _ e he => (rec_f93_8_ok (R := R) k).1 e he) k).2 LrcNat.no)) (fun _K => by kernel_rfl),
      fun e he => he.door fun x y => body_ok (keep := kp) (ann := f92_8_ann) (lrc := f92_8_r (R := R) (fun _ => (rec_f93_8 (R := R) k).2.1) k) (N := 9) (n0 := 4) (c := []) cxOk mixed (f92_8_o_ok (fun _ => (rec_f93_8 (R := R) k).2.1) (fun _ e he => (rec_f93_8_ok (R := R) k).2.1 e he) k) (body := f92_8_b) (by kernel_rfl : Try.prog.funcs[92]? = some Try.f92) (by kernel_rfl) (by kernel_rfl) (by kernel_rfl) (by kernel_rfl) (of_decide_eq_true (by kernel_rfl)) (L := []) (by kernel_rfl) trivial (J := []) (by kernel_rfl) trivial (LrcNat.no) (fun _K => by kernel_rfl),
      fun e he => he.door fun _x _y => body_ok (keep := kp) (ann := f69_4_ann) (lrc := f69_4_r (R := R) (fun _ => (rec_f93_8 (R := R) k).2.2.1) k) (N := 12) (n0 := 1) (c := []) cxOk mixed (f69_4_o_ok (fun _ => (rec_f93_8 (R := R) k).2.2.1) (fun _ e he => (rec_f93_8_ok (R := R) k).2.2.1 e he) k) (body := f69_4_b) (by kernel_rfl : Try.prog.funcs[69]? = some Try.f69) (by kernel_rfl) (by kernel_rfl) (by kernel_rfl) (by kernel_rfl) (of_decide_eq_true (by kernel_rfl)) (L := []) (by kernel_rfl) trivial (J := []) (by kernel_rfl) trivial (LrcNat.no) (fun _K => by kernel_rfl)⟩
noncomputable def f93_8 {R : Type} (k : Nat) (a0 : Int) (a1 : List Int) (a2 : List D2) (a3 : Bool) (a4 a5 a6 : Int) (K : Bool → Int → Int → Int → Option R) : Option R := (rec_f93_8 (R := R) k).1 a0 a1 a2 a3 a4 a5 a6 K
theorem f93_8_ok {R : Type} (k : Nat) {e : Dr D R} (he : FnOk Try.prog cx 93 e) : FnOk Try.prog cx 93 (f93_8_d (f93_8 k) e) := (rec_f93_8_ok (R := R) k).1 e he
noncomputable def f73_8 {R : Type} (k : Nat) (a0 : List D2) (a1 a2 a3 : Int) (K : Int → Int → Int → Int → Option R) : Option R := (rec_f93_8 (R := R) k).2.1 a0 a1 a2 a3 K
theorem f73_8_ok {R : Type} (k : Nat) {e : Dr D R} (he : FnOk Try.prog cx 73 e) : FnOk Try.prog cx 73 (f73_8_d (f73_8 k) e) := (rec_f93_8_ok (R := R) k).2.1 e he
noncomputable def f92_8 {R : Type} (k : Nat) (a0 : List D2) (a1 a2 a3 : Int) (K : Bool → Int → Int → Int → Option R) : Option R := (rec_f93_8 (R := R) k).2.2.1 a0 a1 a2 a3 K
theorem f92_8_ok {R : Type} (k : Nat) {e : Dr D R} (he : FnOk Try.prog cx 92 e) : FnOk Try.prog cx 92 (f92_8_d (f92_8 k) e) := (rec_f93_8_ok (R := R) k).2.2.1 e he
noncomputable def f69_4 {R : Type} (k : Nat) (a0 : List D2) (a1 a2 a3 : Int) (K : Bool → Int → Option R) : Option R := (rec_f93_8 (R := R) k).2.2.2 a0 a1 a2 a3 K
theorem f69_4_ok {R : Type} (k : Nat) {e : Dr D R} (he : FnOk Try.prog cx 69 e) : FnOk Try.prog cx 69 (f69_4_d (f69_4 k) e) := (rec_f93_8_ok (R := R) k).2.2.2 e he
theorem f93_8_step {R : Type} (k : Nat) (a0 : Int) (a1 : List Int) (a2 : List D2) (a3 : Bool) (a4 a5 a6 : Int) (K : Bool → Int → Int → Int → Option R) : f93_8 (k + 1) a0 a1 a2 a3 a4 a5 a6 K = f93_8_s (fun _ => f69_4 (R := R) k) k a0 a1 a2 a3 a4 a5 a6 K := rfl
theorem f73_8_step {R : Type} (k : Nat) (a0 : List D2) (a1 a2 a3 : Int) (K : Int → Int → Int → Int → Option R) : f73_8 (k + 1) a0 a1 a2 a3 K = f73_8_s (fun _ => f93_8 (R := R) k) k a0 a1 a2 a3 K := rfl
theorem f92_8_step {R : Type} (k : Nat) (a0 : List D2) (a1 a2 a3 : Int) (K : Bool → Int → Int → Int → Option R) : f92_8 (k + 1) a0 a1 a2 a3 K = f92_8_s (fun _ => f73_8 (R := R) k) k a0 a1 a2 a3 K := rfl
theorem f69_4_step {R : Type} (k : Nat) (a0 : List D2) (a1 a2 a3 : Int) (K : Bool → Int → Option R) : f69_4 (k + 1) a0 a1 a2 a3 K = f69_4_s (fun _ => f92_8 (R := R) k) k a0 a1 a2 a3 K := rfl

abbrev f37_T (R : Type) : Type := List D2 → (Int → Option R) → Option R
/-! ## 37: diorama/element.Check -/
noncomputable def f37 {R : Type} (k : Nat) (a0 : List D2) (K : Int → Option R) : Option R :=
 f69 k a0 0 1 (fun v1 =>
  bif v1 then
   K 4
  else
   f69_2 k a0 0 1 (fun v2 =>
    bif v2 then
     K 42
    else
     f69_3 k a0 0 1 (fun v3 =>
      bif v3 then
      K 43
      else
      f69_4 k a0 0 1 0 (fun v4 _v5 =>
      bif v4 then
      K 2
      else
      K 0))))
noncomputable def f37_d {R : Type} (g : f37_T R) (e : Dr D R) : Dr D R := door [.list (.named 2)] [] (fun (x : (List D2 × Unit)) (y : (Unit)) K => g x.1 (fun z0 => K ⟨.int .i64 z0, []⟩)) e
noncomputable def f37_o {R : Type} (k : Nat) : Orc D R := (orcAdd 69 (f69_4_d (f69_4 k) (f69_3_d (f69_3 k) (f69_2_d (f69_2 k) (f69_d (f69 k) noDr)))) noOrc)
theorem f37_o_ok {R : Type} (k : Nat) : OrcOk Try.prog cx (f37_o (R := R) k) := (OrcOk.add (f69_4_ok k (f69_3_ok k (f69_2_ok k (f69_ok k FnOk.no)))) OrcOk.no)
noncomputable def f37_b : Code := bodyOf Try.f37
noncomputable def f37_ann : Nat → Option LAnn := fun _key => none
noncomputable def f37_r {R : Type} (_k : Nat) : Lrc D R := noLrc
theorem f37_ok {R : Type} (k : Nat) {e : Dr D R} (he : FnOk Try.prog cx 37 e) : FnOk Try.prog cx 37 (f37_d (f37 k) e) :=
  he.door fun _x _y => body_ok (keep := kp) (ann := f37_ann) (lrc := f37_r (R := R) k) (N := 21) (n0 := 0) (c := []) cxOk mixed (f37_o_ok k) (body := f37_b) (by kernel_rfl : Try.prog.funcs[37]? = some Try.f37) (by kernel_rfl) (by kernel_rfl) (by kernel_rfl) (by kernel_rfl) (of_decide_eq_true (by kernel_rfl)) (L := []) (by kernel_rfl) trivial (J := []) (by kernel_rfl) trivial (LrcNat.no) (fun _K => by delta f37 f37_o; generalize @f69 R = a0; generalize @f69_2 R = a1; generalize @f69_3 R = a2; generalize @f69_4 R = a3; revert a0 a1 a2 a3; refine id ?_; intros; kernel_rfl)

abbrev f74_T (R : Type) : Type := Int → List Int → List D2 → Bool → Int → (Bool → Int → Option R) → Option R
/-! ## 74: diorama/element.Find$1 -/
noncomputable def f74 {R : Type} (_k : Nat) (a0 : Int) (_a1 : List Int) (_a2 : List D2) (_a3 : Bool) (a4 : Int) (K : Bool → Int → Option R) : Option R :=
 K (a0 == a4) a4
noncomputable def f74_d {R : Type} (g : f74_T R) (e : Dr D R) : Dr D R := door [.agg [.int .i64, .list (.int .u8), .list (.named 2), .bool], .ptr 0 0] [.box [.int .i64]] (fun (x : ((Int × List Int × List D2 × Bool × Unit) × Unit × Unit)) (y : ((Int × Unit) × Unit)) K => g x.1.1 x.1.2.1 x.1.2.2.1 x.1.2.2.2.1 y.1.1 (fun z0 z1 => K ⟨.bool z0, [some (.box [.int .i64 z1])]⟩)) e
noncomputable def f74_o {R : Type} (_k : Nat) : Orc D R := noOrc
theorem f74_o_ok {R : Type} (k : Nat) : OrcOk Try.prog cx (f74_o (R := R) k) := OrcOk.no
noncomputable def f74_b : Code := bodyOf Try.f74
noncomputable def f74_ann : Nat → Option LAnn := fun _key => none
noncomputable def f74_r {R : Type} (_k : Nat) : Lrc D R := noLrc
theorem f74_ok {R : Type} (k : Nat) {e : Dr D R} (he : FnOk Try.prog cx 74 e) : FnOk Try.prog cx 74 (f74_d (f74 k) e) :=
  he.door fun _x _y => body_ok (keep := kp) (ann := f74_ann) (lrc := f74_r (R := R) k) (N := 8) (n0 := 1) (c := []) cxOk mixed (f74_o_ok k) (body := f74_b) (by kernel_rfl : Try.prog.funcs[74]? = some Try.f74) (by kernel_rfl) (by kernel_rfl) (by kernel_rfl) (by kernel_rfl) (of_decide_eq_true (by kernel_rfl)) (L := []) (by kernel_rfl) trivial (J := []) (by kernel_rfl) trivial (LrcNat.no) (fun _K => by kernel_rfl)

abbrev f73_9_T (R : Type) : Type := List D2 → Int → (Int → Int → Option R) → Option R
/-! ## 73: slices.IndexFunc[[]diorama/api.Node,diorama/api.Node] -/
noncomputable def f73_9_l2 {R : Type} : Nat → List D2 → Int → Int → Int → (Int → Option R) → (Int → Int → Option R) → Option R
  | 0, _, _, _, _, _, _ => none
  | k + 1, v1, v2, v3, v4, X0, X1 =>
  bif decide (v3 < v2) then
   bif inb v3 v1.length then
    f74 k (D2.c0 (v1.getD v3.toNat zero2)) (D2.c1 (v1.getD v3.toNat zero2)) (D2.c2 (v1.getD v3.toNat zero2)) (D2.c3 (v1.getD v3.toNat zero2)) v4 (fun v5 v6 =>
     bif v5 then
      X1 v3 v6
     else
      f73_9_l2 k v1 v2 (IntKind.i64.wrap (v3 + 1)) v6 X0 X1)
   else
    none
  else
   X0 v4
noncomputable def f73_9 {R : Type} (k : Nat) (a0 : List D2) (a1 : Int) (K : Int → Int → Option R) : Option R :=
 f73_9_l2 k a0 (a0.length : Int) 0 a1 (fun v7 =>
  K (-1) v7) K
noncomputable def f73_9_d {R : Type} (g : f73_9_T R) (e : Dr D R) : Dr D R := door [.list (.named 2), .fn 74 [.ptr 0 0]] [.box [.int .i64]] (fun (x : (List D2 × (Unit × Unit) × Unit)) (y : ((Int × Unit) × Unit)) K => g x.1 y.1.1 (fun z0 z1 => K ⟨.int .i64 z0, [some (.box [.int .i64 z1])]⟩)) e
noncomputable def f73_9_o {R : Type} (k : Nat) : Orc D R := (orcAdd 74 (f74_d (f74 k) noDr) noOrc)
theorem f73_9_o_ok {R : Type} (k : Nat) : OrcOk Try.prog cx (f73_9_o (R := R) k) := (OrcOk.add (f74_ok k FnOk.no) OrcOk.no)
noncomputable def f73_9_b : Code := bodyOf Try.f73
noncomputable def f73_9_l2_a : LAnn := ⟨⟨[], [0, 1, 7, 8], [0], []⟩, exOf (some ⟨[], [4], [0], []⟩) [(0, ⟨[], [], [0], []⟩)]⟩
noncomputable def f73_9_ann : Nat → Option LAnn := fun key => bif Nat.beq key 2 then some f73_9_l2_a else none
noncomputable def f73_9_l2_b : Code := loopAt f73_9_b 0
noncomputable def f73_9_l2_g {R : Type} (k : Nat) (x : (List D2 × (Unit × Unit) × Int × Int × Unit)) (y : ((Int × Unit) × Unit)) (K : KX R) : Option R := f73_9_l2 k x.1 x.2.2.1 x.2.2.2.1 y.1.1 (fun z0 => K (.exit 0) [] [some (.box [.int .i64 z0])]) (fun z0 z1 => K (.ret) [.int .i64 z0] [some (.box [.int .i64 z1])])
noncomputable def f73_9_l2_d {R : Type} (k : Nat) : Lr D R := ldoor [.list (.named 2), .fn 74 [.ptr 0 0], .int .i64, .int .i64] [some (.box [.int .i64])] (f73_9_l2_g k)
noncomputable def f73_9_l2_r {R : Type} (_k : Nat) : Lrc D R := noLrc
theorem f73_9_l2_d_ok {R : Type} : ∀ k, LoopOk Try.prog cx 19 1 f73_9_ann (f73_9_l2_d (R := R) k) f73_9_l2_b :=
  loop_ok (keep := kp) (lrc := f73_9_l2_r (R := R)) cxOk mixed (f73_9_o_ok) (show f73_9_ann (Am.keyOf f73_9_l2_b) = some f73_9_l2_a by kernel_rfl) (L := []) (by kernel_rfl) (fun _k => trivial) (J := []) (by kernel_rfl) (fun _k => trivial) (fun _k => LrcNat.no) (fun _x _y _K => by kernel_rfl) (fun _k _x _y _K => by kernel_rfl)
noncomputable def f73_9_r {R : Type} (k : Nat) : Lrc D R := (lrcAdd 2 (f73_9_l2_d k) noLrc)
theorem f73_9_ok {R : Type} (k : Nat) {e : Dr D R} (he : FnOk Try.prog cx 73 e) : FnOk Try.prog cx 73 (f73_9_d (f73_9 k) e) :=
  he.door fun _x _y => body_ok (keep := kp) (ann := f73_9_ann) (lrc := f73_9_r (R := R) k) (N := 19) (n0 := 1) (c := []) cxOk mixed (f73_9_o_ok k) (body := f73_9_b) (by kernel_rfl : Try.prog.funcs[73]? = some Try.f73) (by kernel_rfl) (by kernel_rfl) (by kernel_rfl) (by kernel_rfl) (of_decide_eq_true (by kernel_rfl)) (L := [f73_9_l2_b]) (by kernel_rfl) (⟨(f73_9_l2_d_ok k).use (by kernel_rfl), trivial⟩) (J := []) (by kernel_rfl) trivial ((LrcNat.add (f73_9_l2_d_ok k).2 LrcNat.no)) (fun _K => by delta f73_9 f73_9_o; generalize @f74 R = a0; revert a0; refine id ?_; intros; kernel_rfl)


end Go.Proofs.Ytklhjegfkpmdoaa

/-! What the functions do, as plain functions; and that they do. -/
namespace Go.Proofs.Ytklhjegfkpmdoaa
open Go Go.Am
abbrev f110_T (R : Type) : Type := Int → (Int → List Int → Option R) → Option R
/-! ## 110: diorama/bits.Unknown -/
noncomputable def f110 {R : Type} (k : Nat) (a0 : Int) (K : Int → List Int → Option R) : Option R :=
 bif decide (a0 < 1) then
  K 1 ([] : List Int)
 else
  bif decide (a0 > 8) then
   K 1 ([] : List Int)
  else
   f82 k a0 (fun v1 =>
    f83 k (IntKind.u64.wrap (v1)) a0 (fun v2 =>
     K 0 v2))
noncomputable def f110_d {R : Type} (g : f110_T R) (e : Dr D R) : Dr D R := door [.int .i64] [] (fun (x : (Int × Unit)) (y : (Unit)) K => g x.1 (fun z0 z1 => K ⟨.tup [.own 0, .int .i64 z0], [some (.row (.int .u8) z1 true)]⟩)) e
noncomputable def f110_o {R : Type} (k : Nat) : Orc D R := (orcAdd 83 (f83_d (f83 k) noDr) (orcAdd 82 (f82_d (f82 k) noDr) noOrc))
theorem f110_o_ok {R : Type} (k : Nat) : OrcOk Try.prog cx (f110_o (R := R) k) := (OrcOk.add (f83_ok k FnOk.no) (OrcOk.add (f82_ok k FnOk.no) OrcOk.no))
noncomputable def f110_b : Code := bodyOf Try.f110
noncomputable def f110_ann : Nat → Option LAnn := fun _key => none
noncomputable def f110_r {R : Type} (_k : Nat) : Lrc D R := noLrc
theorem f110_ok {R : Type} (k : Nat) {e : Dr D R} (he : FnOk Try.prog cx 110 e) : FnOk Try.prog cx 110 (f110_d (f110 k) e) :=
  he.door fun _x _y => body_ok (keep := kp) (ann := f110_ann) (lrc := f110_r (R := R) k) (N := 15) (n0 := 0) (c := [(.tmp 2, .own 1099511627776 (.int .u8))]) cxOk mixed (f110_o_ok k) (body := f110_b) (by kernel_rfl : Try.prog.funcs[110]? = some Try.f110) (by kernel_rfl) (by kernel_rfl) (by kernel_rfl) (by kernel_rfl) (of_decide_eq_true (by kernel_rfl)) (L := []) (by kernel_rfl) trivial (J := []) (by kernel_rfl) trivial (LrcNat.no) (fun _K => by delta f110 f110_o; generalize @f82 R = a0; generalize @f83 R = a1; revert a0 a1; refine id ?_; intros; kernel_rfl)

abbrev f106_2_T (R : Type) : Type := Bool → Bool → Int → List Int → List D2 → Bool → (List Int → Option R) → Option R
abbrev f97_T (R : Type) : Type := Bool → Bool → List D2 → (List Int → Option R) → Option R
/-! ## 106: (diorama/element.writer).node -/
noncomputable def f106_2_s {R : Type} (g_f97 : Nat → f97_T R) (k : Nat) (a0 a1 : Bool) (a2 : Int) (a3 : List Int) (a4 : List D2) (a5 : Bool) (K : List Int → Option R) : Option R :=
 f27 k a2 (fun _v1 v2 =>
  bif a5 then
   g_f97 k a0 a1 a4 (fun v3 =>
    bif a0 then
     f108 k v3 (fun v4 =>
      f61 k (IntKind.i64.wrap (v4)) 4 (fun _v5 v6 =>
      f53 k ([[237, 132], v6, v3]) (fun v7 =>
      f52 k (v7.length : Int) 0 (fun _v8 v9 =>
      f25 k a2 (fun _v10 _v11 _v12 _v13 v14 _v15 =>
      bif v14 then
      bif a1 then
      f110 k 1 (fun _v16 v17 =>
      f53 k ([v2, v17, v7]) K)
      else
      f53 k ([v2, v9, v7]) K
      else
      f53 k ([v2, v9, v7]) K)))))
    else
     f52 k (v3.length : Int) 0 (fun _v21 v22 =>
      f25 k a2 (fun _v23 _v24 _v25 _v26 v27 _v28 =>
      bif v27 then
      bif a1 then
      f110 k 1 (fun _v29 v30 =>
      f53 k ([v2, v30, v3]) K)
      else
      f53 k ([v2, v22, v3]) K
      else
      f53 k ([v2, v22, v3]) K)))
  else
   f52 k (a3.length : Int) 0 (fun _v34 v35 =>
    f25 k a2 (fun _v36 _v37 _v38 _v39 v40 _v41 =>
     bif v40 then
      bif a1 then
      f110 k 1 (fun _v42 v43 =>
      f53 k ([v2, v43, a3]) K)
      else
      f53 k ([v2, v35, a3]) K
     else
      f53 k ([v2, v35, a3]) K)))
noncomputable def f106_2_d {R : Type} (g : f106_2_T R) (e : Dr D R) : Dr D R := door [.agg [.bool, .bool], .agg [.int .i64, .list (.int .u8), .list (.named 2), .bool]] [] (fun (x : ((Bool × Bool × Unit) × (Int × List Int × List D2 × Bool × Unit) × Unit)) (y : (Unit)) K => g x.1.1 x.1.2.1 x.2.1.1 x.2.1.2.1 x.2.1.2.2.1 x.2.1.2.2.2.1 (fun z0 => K ⟨.own 0, [some (.row (.int .u8) z0 true)]⟩)) e
/-! ## 97: (diorama/element.writer).list -/
noncomputable def f97_l3 {R : Type} (g_f106_2 : Nat → f106_2_T R) : Nat → List D2 → Int → Int → Bool → Bool → List Int → (List Int → Option R) → Option R
  | 0, _, _, _, _, _, _, _ => none
  | k + 1, v1, v2, v3, v4, v5, v6, X0 =>
  bif decide (v3 < v2) then
   bif inb v3 v1.length then
    g_f106_2 k v4 v5 (D2.c0 (v1.getD v3.toNat zero2)) (D2.c1 (v1.getD v3.toNat zero2)) (D2.c2 (v1.getD v3.toNat zero2)) (D2.c3 (v1.getD v3.toNat zero2)) (fun v7 =>
     bif room 1 (v6.length + v7.length) then
      f97_l3 g_f106_2 k v1 v2 (IntKind.i64.wrap (v3 + 1)) v4 v5 (v6 ++ v7) X0
     else
      none)
   else
    none
  else
   X0 v6
noncomputable def f97_s {R : Type} (g_f106_2 : Nat → f106_2_T R) (k : Nat) (a0 a1 : Bool) (a2 : List D2) (K : List Int → Option R) : Option R :=
 f97_l3 g_f106_2 k a2 (a2.length : Int) 0 a0 a1 ([] : List Int) K
noncomputable def f97_d {R : Type} (g : f97_T R) (e : Dr D R) : Dr D R := door [.agg [.bool, .bool], .list (.named 2)] [] (fun (x : ((Bool × Bool × Unit) × List D2 × Unit)) (y : (Unit)) K => g x.1.1 x.1.2.1 x.2.1 (fun z0 => K ⟨.own 0, [some (.row (.int .u8) z0 true)]⟩)) e
noncomputable def f106_2_o {R : Type} (g_f97 : Nat → f97_T R) (k : Nat) : Orc D R := (orcAdd 97 (f97_d (g_f97 k) noDr) (orcAdd 110 (f110_d (f110 k) noDr) (orcAdd 27 (f27_d (f27 k) noDr) (orcAdd 61 (f61_d (f61 k) noDr) (orcAdd 108 (f108_d (f108 k) noDr) (orcAdd 25 (f25_d (f25 k) noDr) (orcAdd 53 (f53_d (f53 k) noDr) (orcAdd 52 (f52_d (f52 k) noDr) noOrc))))))))
theorem f106_2_o_ok {R : Type} (g_f97 : Nat → f97_T R) (h_f97 : ∀ (k : Nat) (e : Dr D R), FnOk Try.prog cx 97 e → FnOk Try.prog cx 97 (f97_d (g_f97 k) e)) (k : Nat) : OrcOk Try.prog cx (f106_2_o (R := R) g_f97 k) := (OrcOk.add (h_f97 k _ FnOk.no) (OrcOk.add (f110_ok k FnOk.no) (OrcOk.add (f27_ok k FnOk.no) (OrcOk.add (f61_ok k FnOk.no) (OrcOk.add (f108_ok k FnOk.no) (OrcOk.add (f25_ok k FnOk.no) (OrcOk.add (f53_ok k FnOk.no) (OrcOk.add (f52_ok k FnOk.no) OrcOk.no))))))))
noncomputable def f106_2_b : Code := bodyOf Try.f106
noncomputable def f106_2_ann : Nat → Option LAnn := fun _key => none
noncomputable def f106_2_r {R : Type} (_g_f97 : Nat → f97_T R) (_k : Nat) : Lrc D R := noLrc
noncomputable def f97_o {R : Type} (g_f106_2 : Nat → f106_2_T R) (k : Nat) : Orc D R := (orcAdd 106 (f106_2_d (g_f106_2 k) noDr) noOrc)
theorem f97_o_ok {R : Type} (g_f106_2 : Nat → f106_2_T R) (h_f106_2 : ∀ (k : Nat) (e : Dr D R), FnOk Try.prog cx 106 e → FnOk Try.prog cx 106 (f106_2_d (g_f106_2 k) e)) (k : Nat) : OrcOk Try.prog cx (f97_o (R := R) g_f106_2 k) := (OrcOk.add (h_f106_2 k _ FnOk.no) OrcOk.no)
noncomputable def f97_b : Code := bodyOf Try.f97
noncomputable def f97_l3_a : LAnn := ⟨⟨[(.tmp 5, .own 68719489024 (.int .u8))], [2, 5, 8, 9, 10], [65584, 68719489024], []⟩, exOf (none) [(0, ⟨[], [5], [68719489024], []⟩)]⟩
noncomputable def f97_ann : Nat → Option LAnn := fun key => bif Nat.beq key 3 then some f97_l3_a else none
noncomputable def f97_l3_b : Code := loopAt f97_b 0
noncomputable def f97_l3_g {R : Type} (g_f106_2 : Nat → f106_2_T R) (k : Nat) (x : (Unit × Unit × List D2 × Int × Int × Unit)) (y : ((Bool × Bool × Unit) × List Int × Unit)) (K : KX R) : Option R := f97_l3 g_f106_2 k x.2.2.1 x.2.2.2.1 x.2.2.2.2.1 y.1.1 y.1.2.1 y.2.1 (fun z0 => K (.exit 0) [.own 68719489024] [some (.row (.int .u8) z0 true)])
noncomputable def f97_l3_d {R : Type} (g_f106_2 : Nat → f106_2_T R) (k : Nat) : Lr D R := ldoor [.ptr 65584 0, .own 68719489024, .list (.named 2), .int .i64, .int .i64] [some (.box [.bool, .bool]), some (.row (.int .u8) true)] (f97_l3_g g_f106_2 k)
noncomputable def f97_l3_r {R : Type} (_g_f106_2 : Nat → f106_2_T R) (_k : Nat) : Lrc D R := noLrc
theorem f97_l3_d_ok {R : Type} (g_f106_2 : Nat → f106_2_T R) (h_f106_2 : ∀ (k : Nat) (e : Dr D R), FnOk Try.prog cx 106 e → FnOk Try.prog cx 106 (f106_2_d (g_f106_2 k) e)) : ∀ k, LoopOk Try.prog cx 21 0 f97_ann (f97_l3_d (R := R) g_f106_2 k) f97_l3_b :=
  loop_ok (keep := kp) (lrc := f97_l3_r (R := R) g_f106_2) cxOk mixed (f97_o_ok g_f106_2 h_f106_2) (show f97_ann (Am.keyOf f97_l3_b) = some f97_l3_a by kernel_rfl) (L := []) (by kernel_rfl) (fun _k => trivial) (J := []) (by kernel_rfl) (fun _k => trivial) (fun _k => LrcNat.no) (fun _x _y _K => by kernel_rfl) (fun _k _x _y _K => by kernel_rfl)
noncomputable def f97_r {R : Type} (g_f106_2 : Nat → f106_2_T R) (k : Nat) : Lrc D R := (lrcAdd 3 (f97_l3_d g_f106_2 k) noLrc)
noncomputable def rec_f106_2 {R : Type} : Nat → (f106_2_T R) × (f97_T R)
  | 0 => (fun _ _ _ _ _ _ _ => none, fun _ _ _ _ => none)
  | k + 1 => (f106_2_s (fun _ => (rec_f106_2 (R := R) k).2) k, f97_s (fun _ => (rec_f106_2 (R := R) k).1) k)
theorem rec_f106_2_succ {R : Type} (k : Nat) : rec_f106_2 (R := R) (k + 1) = (f106_2_s (fun _ => (rec_f106_2 (R := R) k).2) k, f97_s (fun _ => (rec_f106_2 (R := R) k).1) k) := rfl
theorem rec_f106_2_ok {R : Type} : ∀ k, (∀ e : Dr D R, FnOk Try.prog cx 106 e → FnOk Try.prog cx 106 (f106_2_d (rec_f106_2 (R := R) k).1 e)) ∧ (∀ e : Dr D R, FnOk Try.prog cx 97 e → FnOk Try.prog cx 97 (f97_d (rec_f106_2 (R := R) k).2 e))
  | 0 => ⟨fun e he => he.door0 fun x y K => rfl, fun e he => he.door0 fun x y _K => rfl⟩
  | k + 1 => by
    rw [rec_f106_2_succ]
    exact ⟨fun e he => he.door fun x y => body_ok (keep := kp) (ann := f106_2_ann) (lrc := f106_2_r (R := R) (fun _ => (rec_f106_2 (R := R) k).2) k) (N := 69) (n0 := 0) (c := []) cxOk mixed (f106_2_o_ok (fun _ => (rec_f106_2 (R := R) k).2) (fun _ e he => (rec_f106_2_ok (R := R) k).2 e he) k) (body := f106_2_b) (by kernel_rfl : Try.prog.funcs[106]? = some Try.f106) (by kernel_rfl) (by kernel_rfl) (by kernel_rfl) (by kernel_rfl) (of_decide_eq_true (by kernel_rfl)) (L := []) (by kernel_rfl) trivial (J := []) (by kernel_rfl) trivial (LrcNat.no) (fun _K => by delta f106_2_s f106_2_o; generalize @f52 R = a0; generalize @f53 R = a1; generalize @f25 R = a2; generalize @f108 R = a3; generalize @f61 R = a4; generalize @f27 R = a5; generalize @f110 R = a6; revert a0 a1 a2 a3 a4 a5 a6; refine id ?_; intros; kernel_rfl),
      fun e he => he.door fun _x _y => body_ok (keep := kp) (ann := f97_ann) (lrc := f97_r (R := R) (fun _ => (rec_f106_2 (R := R) k).1) k) (N := 21) (n0 := 0) (c := []) cxOk mixed (f97_o_ok (fun _ => (rec_f106_2 (R := R) k).1) (fun _ e he => (rec_f106_2_ok (R := R) k).1 e he) k) (body := f97_b) (by kernel_rfl : Try.prog.funcs[97]? = some Try.f97) (by kernel_rfl) (by kernel_rfl) (by kernel_rfl) (by kernel_rfl) (of_decide_eq_true (by kernel_rfl)) (L := [f97_l3_b]) (by kernel_rfl) (⟨(f97_l3_d_ok (fun _ => (rec_f106_2 (R := R) k).1) (fun _ e he => (rec_f106_2_ok (R := R) k).1 e he) k).use (by kernel_rfl), trivial⟩) (J := []) (by kernel_rfl) trivial ((LrcNat.add (f97_l3_d_ok (fun _ => (rec_f106_2 (R := R) k).1) (fun _ e he => (rec_f106_2_ok (R := R) k).1 e he) k).2 LrcNat.no)) (fun _K => by kernel_rfl)⟩
noncomputable def f106_2 {R : Type} (k : Nat) (a0 a1 : Bool) (a2 : Int) (a3 : List Int) (a4 : List D2) (a5 : Bool) (K : List Int → Option R) : Option R := (rec_f106_2 (R := R) k).1 a0 a1 a2 a3 a4 a5 K
theorem f106_2_ok {R : Type} (k : Nat) {e : Dr D R} (he : FnOk Try.prog cx 106 e) : FnOk Try.prog cx 106 (f106_2_d (f106_2 k) e) := (rec_f106_2_ok (R := R) k).1 e he
noncomputable def f97 {R : Type} (k : Nat) (a0 a1 : Bool) (a2 : List D2) (K : List Int → Option R) : Option R := (rec_f106_2 (R := R) k).2 a0 a1 a2 K
theorem f97_ok {R : Type} (k : Nat) {e : Dr D R} (he : FnOk Try.prog cx 97 e) : FnOk Try.prog cx 97 (f97_d (f97 k) e) := (rec_f106_2_ok (R := R) k).2 e he
theorem f106_2_step {R : Type} (k : Nat) (a0 a1 : Bool) (a2 : Int) (a3 : List Int) (a4 : List D2) (a5 : Bool) (K : List Int → Option R) : f106_2 (k + 1) a0 a1 a2 a3 a4 a5 K = f106_2_s (fun _ => f97 (R := R) k) k a0 a1 a2 a3 a4 a5 K := rfl
theorem f97_step {R : Type} (k : Nat) (a0 a1 : Bool) (a2 : List D2) (K : List Int → Option R) : f97 (k + 1) a0 a1 a2 K = f97_s (fun _ => f106_2 (R := R) k) k a0 a1 a2 K := rfl

abbrev f79_T (R : Type) : Type := Bool → Bool → List D2 → (Int → List Int → Option R) → Option R
/-! ## 79: (diorama/element.writer).tree -/
noncomputable def f79 {R : Type} (k : Nat) (a0 a1 : Bool) (a2 : List D2) (K : Int → List Int → Option R) : Option R :=
 f37 k a2 (fun v1 =>
  bif (v1 != 0) then
   K v1 ([] : List Int)
  else
   f97 k a0 a1 a2 (fun v2 =>
    bif decide ((v2.length : Int) > 1048576) then
     K 2 ([] : List Int)
    else
     K 0 v2))
noncomputable def f79_d {R : Type} (g : f79_T R) (e : Dr D R) : Dr D R := door [.agg [.bool, .bool], .list (.named 2)] [] (fun (x : ((Bool × Bool × Unit) × List D2 × Unit)) (y : (Unit)) K => g x.1.1 x.1.2.1 x.2.1 (fun z0 z1 => K ⟨.tup [.own 0, .int .i64 z0], [some (.row (.int .u8) z1 true)]⟩)) e
noncomputable def f79_o {R : Type} (k : Nat) : Orc D R := (orcAdd 97 (f97_d (f97 k) noDr) (orcAdd 37 (f37_d (f37 k) noDr) noOrc))
theorem f79_o_ok {R : Type} (k : Nat) : OrcOk Try.prog cx (f79_o (R := R) k) := (OrcOk.add (f97_ok k FnOk.no) (OrcOk.add (f37_ok k FnOk.no) OrcOk.no))
noncomputable def f79_b : Code := bodyOf Try.f79
noncomputable def f79_ann : Nat → Option LAnn := fun _key => none
noncomputable def f79_r {R : Type} (_k : Nat) : Lrc D R := noLrc
theorem f79_ok {R : Type} (k : Nat) {e : Dr D R} (he : FnOk Try.prog cx 79 e) : FnOk Try.prog cx 79 (f79_d (f79 k) e) :=
  he.door fun _x _y => body_ok (keep := kp) (ann := f79_ann) (lrc := f79_r (R := R) k) (N := 20) (n0 := 0) (c := [(.tmp 4, .own 1099511627776 (.int .u8))]) cxOk mixed (f79_o_ok k) (body := f79_b) (by kernel_rfl : Try.prog.funcs[79]? = some Try.f79) (by kernel_rfl) (by kernel_rfl) (by kernel_rfl) (by kernel_rfl) (of_decide_eq_true (by kernel_rfl)) (L := []) (by kernel_rfl) trivial (J := []) (by kernel_rfl) trivial (LrcNat.no) (fun _K => by delta f79 f79_o; generalize @f37 R = a0; generalize @f97 R = a1; revert a0 a1; refine id ?_; intros; kernel_rfl)

abbrev f47_T (R : Type) : Type := List D2 → Bool → (Int → List Int → Option R) → Option R
/-! ## 47: diorama/element.Write -/
noncomputable def f47 {R : Type} (k : Nat) (a0 : List D2) (a1 : Bool) (K : Int → List Int → Option R) : Option R :=
 f79 k a1 false a0 K
noncomputable def f47_d {R : Type} (g : f47_T R) (e : Dr D R) : Dr D R := door [.list (.named 2), .bool] [] (fun (x : (List D2 × Bool × Unit)) (y : (Unit)) K => g x.1 x.2.1 (fun z0 z1 => K ⟨.tup [.own 0, .int .i64 z0], [some (.row (.int .u8) z1 true)]⟩)) e
noncomputable def f47_o {R : Type} (k : Nat) : Orc D R := (orcAdd 79 (f79_d (f79 k) noDr) noOrc)
theorem f47_o_ok {R : Type} (k : Nat) : OrcOk Try.prog cx (f47_o (R := R) k) := (OrcOk.add (f79_ok k FnOk.no) OrcOk.no)
noncomputable def f47_b : Code := bodyOf Try.f47
noncomputable def f47_ann : Nat → Option LAnn := fun _key => none
noncomputable def f47_r {R : Type} (_k : Nat) : Lrc D R := noLrc
theorem f47_ok {R : Type} (k : Nat) {e : Dr D R} (he : FnOk Try.prog cx 47 e) : FnOk Try.prog cx 47 (f47_d (f47 k) e) :=
  he.door fun _x _y => body_ok (keep := kp) (ann := f47_ann) (lrc := f47_r (R := R) k) (N := 12) (n0 := 0) (c := []) cxOk mixed (f47_o_ok k) (body := f47_b) (by kernel_rfl : Try.prog.funcs[47]? = some Try.f47) (by kernel_rfl) (by kernel_rfl) (by kernel_rfl) (by kernel_rfl) (of_decide_eq_true (by kernel_rfl)) (L := []) (by kernel_rfl) trivial (J := []) (by kernel_rfl) trivial (LrcNat.no) (fun _K => by delta f47 f47_o; generalize @f79 R = a0; revert a0; refine id ?_; intros; kernel_rfl)

abbrev f14_T (R : Type) : Type := Int → List Int → List D2 → Bool → Int → Int → (Bool → Option R) → Option R
/-! ## 14: diorama/dioramalaw04.ElementHurt -/
noncomputable def f14 {R : Type} (k : Nat) (a0 : Int) (a1 : List Int) (a2 : List D2) (a3 : Bool) (a4 a5 : Int) (K : Bool → Option R) : Option R :=
 f47 k ([(D2.mk a0 a1 a2 a3)]) true (fun v1 v2 =>
  f21 k v2 (fun _v3 v4 v5 =>
   bif (v1 != 0) then
    f18 k K
   else
    bif (v4 != 0) then
     f18 k K
    else
     bif decide ((v5.length : Int) < 2) then
      f18 k K
     else
      bif inb 1 v5.length then
      bif (((v5.getD 1 zero1).1) != 237) then
      f18 k K
      else
      bif inb 1 v5.length then
      bif inb 1 v5.length then
      bif inb 1 v5.length then
      bif decide (a4 < (IntKind.i64.wrap ((IntKind.i64.wrap (((v5.getD 1 zero1).2.1) + ((v5.getD 1 zero1).2.2.1))) + ((v5.getD 1 zero1).2.2.2.1)))) then
      f18 k K
      else
      bif decide (a4 ≥ (v2.length : Int)) then
      f18 k K
      else
      bif decide (a5 < 1) then
      f18 k K
      else
      bif decide (a5 > 255) then
      f18 k K
      else
      bif inb a4 v2.length then
      bif inb a4 v2.length then
      f19 k (v2.set a4.toNat (IntKind.u8.wrap ((xorI .i64 (IntKind.i64.wrap ((v2.getD a4.toNat 0))) a5)))) (fun _v14 v15 _v16 =>
      bif (v15 != 0) then
      f18 k K
      else
      K false)
      else
      none
      else
      none
      else
      none
      else
      none
      else
      none
      else
      none))
noncomputable def f14_d {R : Type} (g : f14_T R) (e : Dr D R) : Dr D R := door [.agg [.int .i64, .list (.int .u8), .list (.named 2), .bool], .int .i64, .int .i64] [] (fun (x : ((Int × List Int × List D2 × Bool × Unit) × Int × Int × Unit)) (y : (Unit)) K => g x.1.1 x.1.2.1 x.1.2.2.1 x.1.2.2.2.1 x.2.1 x.2.2.1 (fun z0 => K ⟨.bool z0, []⟩)) e
noncomputable def f14_o {R : Type} (k : Nat) : Orc D R := (orcAdd 47 (f47_d (f47 k) noDr) (orcAdd 21 (f21_d (f21 k) noDr) (orcAdd 18 (f18_d (f18 k) noDr) (orcAdd 19 (f19_d (f19 k) noDr) noOrc))))
theorem f14_o_ok {R : Type} (k : Nat) : OrcOk Try.prog cx (f14_o (R := R) k) := (OrcOk.add (f47_ok k FnOk.no) (OrcOk.add (f21_ok k FnOk.no) (OrcOk.add (f18_ok k FnOk.no) (OrcOk.add (f19_ok k FnOk.no) OrcOk.no))))
noncomputable def f14_b : Code := bodyOf Try.f14
noncomputable def f14_ann : Nat → Option LAnn := fun _key => none
noncomputable def f14_r {R : Type} (_k : Nat) : Lrc D R := noLrc
theorem f14_ok {R : Type} (k : Nat) {e : Dr D R} (he : FnOk Try.prog cx 14 e) : FnOk Try.prog cx 14 (f14_d (f14 k) e) :=
  he.door fun _x _y => body_ok (keep := kp) (ann := f14_ann) (lrc := f14_r (R := R) k) (N := 101) (n0 := 0) (c := []) cxOk mixed (f14_o_ok k) (body := f14_b) (by kernel_rfl : Try.prog.funcs[14]? = some Try.f14) (by kernel_rfl) (by kernel_rfl) (by kernel_rfl) (by kernel_rfl) (of_decide_eq_true (by kernel_rfl)) (L := []) (by kernel_rfl) trivial (J := []) (by kernel_rfl) trivial (LrcNat.no) (fun _K => by delta f14 f14_o; generalize @f19 R = a0; generalize @f18 R = a1; generalize @f21 R = a2; generalize @f47 R = a3; revert a0 a1 a2 a3; refine id ?_; intros; kernel_rfl)


end Go.Proofs.Ytklhjegfkpmdoaa
