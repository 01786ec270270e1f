/- Proved: each of these functions does what a plain function says. Conditions: none. -/
import Derived.Test.YtklhjegfkpmdoaaElWalk2

/-! What the functions do, as plain functions; and that they do. -/
namespace Go.Proofs.Ytklhjegfkpmdoaa
open Go Go.Am
abbrev f72_T (R : Type) : Type := List D2 → Bool → Bool → (List Int → Option R) → Option R
/-! ## 72: diorama/dioramaref04.bytes -/
noncomputable def f72_l3 {R : Type} (g_f72 : Nat → f72_T R) : Nat → List D2 → Bool → Bool → Int → List Int → (List Int → Option R) → Option R
  | 0, _, _, _, _, _, _ => none
  | k + 1, v1, v2, v3, v4, v5, X0 =>
  bif decide (v4 < (v1.length : Int)) then
   bif inb v4 v1.length then
    f28 k (D2.c0 (v1.getD v4.toNat zero2)) (fun _v6 v7 =>
     bif room 1 (v5.length + v7.length) then
      bif (D2.c3 (v1.getD v4.toNat zero2)) then
      g_f72 k (D2.c2 (v1.getD v4.toNat zero2)) v2 v3 (fun v8 =>
      bif (D2.c3 (v1.getD v4.toNat zero2)) then
      bif v2 then
      f94 k v8 (fun v9 =>
      bif room 1 (([237, 132, (IntKind.u8.wrap ((shrI .i64 (IntKind.i64.wrap (v9)) 24))), (IntKind.u8.wrap ((shrI .i64 (IntKind.i64.wrap (v9)) 16))), (IntKind.u8.wrap ((shrI .i64 (IntKind.i64.wrap (v9)) 8))), (IntKind.u8.wrap ((IntKind.i64.wrap (v9))))]).length + v8.length) then
      f26 k (D2.c0 (v1.getD v4.toNat zero2)) (fun _v10 _v11 _v12 _v13 v14 _v15 =>
      bif v3 then
      bif v14 then
      bif room 1 ((v5 ++ v7).length + ([255]).length) then
      bif room 1 (((v5 ++ v7) ++ ([255])).length + (([237, 132, (IntKind.u8.wrap ((shrI .i64 (IntKind.i64.wrap (v9)) 24))), (IntKind.u8.wrap ((shrI .i64 (IntKind.i64.wrap (v9)) 16))), (IntKind.u8.wrap ((shrI .i64 (IntKind.i64.wrap (v9)) 8))), (IntKind.u8.wrap ((IntKind.i64.wrap (v9))))]) ++ v8).length) then
      f72_l3 g_f72 k v1 v2 v3 (IntKind.i64.wrap (v4 + 1)) (((v5 ++ v7) ++ ([255])) ++ (([237, 132, (IntKind.u8.wrap ((shrI .i64 (IntKind.i64.wrap (v9)) 24))), (IntKind.u8.wrap ((shrI .i64 (IntKind.i64.wrap (v9)) 16))), (IntKind.u8.wrap ((shrI .i64 (IntKind.i64.wrap (v9)) 8))), (IntKind.u8.wrap ((IntKind.i64.wrap (v9))))]) ++ v8)) X0
      else
      none
      else
      none
      else
      f54 k ((([237, 132, (IntKind.u8.wrap ((shrI .i64 (IntKind.i64.wrap (v9)) 24))), (IntKind.u8.wrap ((shrI .i64 (IntKind.i64.wrap (v9)) 16))), (IntKind.u8.wrap ((shrI .i64 (IntKind.i64.wrap (v9)) 8))), (IntKind.u8.wrap ((IntKind.i64.wrap (v9))))]) ++ v8).length : Int) 0 (fun _v16 v17 =>
      bif room 1 ((v5 ++ v7).length + v17.length) then
      bif room 1 (((v5 ++ v7) ++ v17).length + (([237, 132, (IntKind.u8.wrap ((shrI .i64 (IntKind.i64.wrap (v9)) 24))), (IntKind.u8.wrap ((shrI .i64 (IntKind.i64.wrap (v9)) 16))), (IntKind.u8.wrap ((shrI .i64 (IntKind.i64.wrap (v9)) 8))), (IntKind.u8.wrap ((IntKind.i64.wrap (v9))))]) ++ v8).length) then
      f72_l3 g_f72 k v1 v2 v3 (IntKind.i64.wrap (v4 + 1)) (((v5 ++ v7) ++ v17) ++ (([237, 132, (IntKind.u8.wrap ((shrI .i64 (IntKind.i64.wrap (v9)) 24))), (IntKind.u8.wrap ((shrI .i64 (IntKind.i64.wrap (v9)) 16))), (IntKind.u8.wrap ((shrI .i64 (IntKind.i64.wrap (v9)) 8))), (IntKind.u8.wrap ((IntKind.i64.wrap (v9))))]) ++ v8)) X0
      else
      none
      else
      none)
      else
      f54 k ((([237, 132, (IntKind.u8.wrap ((shrI .i64 (IntKind.i64.wrap (v9)) 24))), (IntKind.u8.wrap ((shrI .i64 (IntKind.i64.wrap (v9)) 16))), (IntKind.u8.wrap ((shrI .i64 (IntKind.i64.wrap (v9)) 8))), (IntKind.u8.wrap ((IntKind.i64.wrap (v9))))]) ++ v8).length : Int) 0 (fun _v18 v19 =>
      bif room 1 ((v5 ++ v7).length + v19.length) then
      bif room 1 (((v5 ++ v7) ++ v19).length + (([237, 132, (IntKind.u8.wrap ((shrI .i64 (IntKind.i64.wrap (v9)) 24))), (IntKind.u8.wrap ((shrI .i64 (IntKind.i64.wrap (v9)) 16))), (IntKind.u8.wrap ((shrI .i64 (IntKind.i64.wrap (v9)) 8))), (IntKind.u8.wrap ((IntKind.i64.wrap (v9))))]) ++ v8).length) then
      f72_l3 g_f72 k v1 v2 v3 (IntKind.i64.wrap (v4 + 1)) (((v5 ++ v7) ++ v19) ++ (([237, 132, (IntKind.u8.wrap ((shrI .i64 (IntKind.i64.wrap (v9)) 24))), (IntKind.u8.wrap ((shrI .i64 (IntKind.i64.wrap (v9)) 16))), (IntKind.u8.wrap ((shrI .i64 (IntKind.i64.wrap (v9)) 8))), (IntKind.u8.wrap ((IntKind.i64.wrap (v9))))]) ++ v8)) X0
      else
      none
      else
      none))
      else
      none)
      else
      f26 k (D2.c0 (v1.getD v4.toNat zero2)) (fun _v20 _v21 _v22 _v23 v24 _v25 =>
      bif v3 then
      bif v24 then
      bif room 1 ((v5 ++ v7).length + ([255]).length) then
      bif room 1 (((v5 ++ v7) ++ ([255])).length + v8.length) then
      f72_l3 g_f72 k v1 v2 v3 (IntKind.i64.wrap (v4 + 1)) (((v5 ++ v7) ++ ([255])) ++ v8) X0
      else
      none
      else
      none
      else
      f54 k (v8.length : Int) 0 (fun _v26 v27 =>
      bif room 1 ((v5 ++ v7).length + v27.length) then
      bif room 1 (((v5 ++ v7) ++ v27).length + v8.length) then
      f72_l3 g_f72 k v1 v2 v3 (IntKind.i64.wrap (v4 + 1)) (((v5 ++ v7) ++ v27) ++ v8) X0
      else
      none
      else
      none)
      else
      f54 k (v8.length : Int) 0 (fun _v28 v29 =>
      bif room 1 ((v5 ++ v7).length + v29.length) then
      bif room 1 (((v5 ++ v7) ++ v29).length + v8.length) then
      f72_l3 g_f72 k v1 v2 v3 (IntKind.i64.wrap (v4 + 1)) (((v5 ++ v7) ++ v29) ++ v8) X0
      else
      none
      else
      none))
      else
      f26 k (D2.c0 (v1.getD v4.toNat zero2)) (fun _v30 _v31 _v32 _v33 v34 _v35 =>
      bif v3 then
      bif v34 then
      bif room 1 ((v5 ++ v7).length + ([255]).length) then
      bif room 1 (((v5 ++ v7) ++ ([255])).length + v8.length) then
      f72_l3 g_f72 k v1 v2 v3 (IntKind.i64.wrap (v4 + 1)) (((v5 ++ v7) ++ ([255])) ++ v8) X0
      else
      none
      else
      none
      else
      f54 k (v8.length : Int) 0 (fun _v36 v37 =>
      bif room 1 ((v5 ++ v7).length + v37.length) then
      bif room 1 (((v5 ++ v7) ++ v37).length + v8.length) then
      f72_l3 g_f72 k v1 v2 v3 (IntKind.i64.wrap (v4 + 1)) (((v5 ++ v7) ++ v37) ++ v8) X0
      else
      none
      else
      none)
      else
      f54 k (v8.length : Int) 0 (fun _v38 v39 =>
      bif room 1 ((v5 ++ v7).length + v39.length) then
      bif room 1 (((v5 ++ v7) ++ v39).length + v8.length) then
      f72_l3 g_f72 k v1 v2 v3 (IntKind.i64.wrap (v4 + 1)) (((v5 ++ v7) ++ v39) ++ v8) X0
      else
      none
      else
      none)))
      else
      bif (D2.c3 (v1.getD v4.toNat zero2)) then
      bif v2 then
      f94 k (D2.c1 (v1.getD v4.toNat zero2)) (fun v40 =>
      bif room 1 (([237, 132, (IntKind.u8.wrap ((shrI .i64 (IntKind.i64.wrap (v40)) 24))), (IntKind.u8.wrap ((shrI .i64 (IntKind.i64.wrap (v40)) 16))), (IntKind.u8.wrap ((shrI .i64 (IntKind.i64.wrap (v40)) 8))), (IntKind.u8.wrap ((IntKind.i64.wrap (v40))))]).length + (D2.c1 (v1.getD v4.toNat zero2)).length) then
      f26 k (D2.c0 (v1.getD v4.toNat zero2)) (fun _v41 _v42 _v43 _v44 v45 _v46 =>
      bif v3 then
      bif v45 then
      bif room 1 ((v5 ++ v7).length + ([255]).length) then
      bif room 1 (((v5 ++ v7) ++ ([255])).length + (([237, 132, (IntKind.u8.wrap ((shrI .i64 (IntKind.i64.wrap (v40)) 24))), (IntKind.u8.wrap ((shrI .i64 (IntKind.i64.wrap (v40)) 16))), (IntKind.u8.wrap ((shrI .i64 (IntKind.i64.wrap (v40)) 8))), (IntKind.u8.wrap ((IntKind.i64.wrap (v40))))]) ++ (D2.c1 (v1.getD v4.toNat zero2))).length) then
      f72_l3 g_f72 k v1 v2 v3 (IntKind.i64.wrap (v4 + 1)) (((v5 ++ v7) ++ ([255])) ++ (([237, 132, (IntKind.u8.wrap ((shrI .i64 (IntKind.i64.wrap (v40)) 24))), (IntKind.u8.wrap ((shrI .i64 (IntKind.i64.wrap (v40)) 16))), (IntKind.u8.wrap ((shrI .i64 (IntKind.i64.wrap (v40)) 8))), (IntKind.u8.wrap ((IntKind.i64.wrap (v40))))]) ++ (D2.c1 (v1.getD v4.toNat zero2)))) X0
      else
      none
      else
      none
      else
      f54 k ((([237, 132, (IntKind.u8.wrap ((shrI .i64 (IntKind.i64.wrap (v40)) 24))), (IntKind.u8.wrap ((shrI .i64 (IntKind.i64.wrap (v40)) 16))), (IntKind.u8.wrap ((shrI .i64 (IntKind.i64.wrap (v40)) 8))), (IntKind.u8.wrap ((IntKind.i64.wrap (v40))))]) ++ (D2.c1 (v1.getD v4.toNat zero2))).length : Int) 0 (fun _v47 v48 =>
      bif room 1 ((v5 ++ v7).length + v48.length) then
      bif room 1 (((v5 ++ v7) ++ v48).length + (([237, 132, (IntKind.u8.wrap ((shrI .i64 (IntKind.i64.wrap (v40)) 24))), (IntKind.u8.wrap ((shrI .i64 (IntKind.i64.wrap (v40)) 16))), (IntKind.u8.wrap ((shrI .i64 (IntKind.i64.wrap (v40)) 8))), (IntKind.u8.wrap ((IntKind.i64.wrap (v40))))]) ++ (D2.c1 (v1.getD v4.toNat zero2))).length) then
      f72_l3 g_f72 k v1 v2 v3 (IntKind.i64.wrap (v4 + 1)) (((v5 ++ v7) ++ v48) ++ (([237, 132, (IntKind.u8.wrap ((shrI .i64 (IntKind.i64.wrap (v40)) 24))), (IntKind.u8.wrap ((shrI .i64 (IntKind.i64.wrap (v40)) 16))), (IntKind.u8.wrap ((shrI .i64 (IntKind.i64.wrap (v40)) 8))), (IntKind.u8.wrap ((IntKind.i64.wrap (v40))))]) ++ (D2.c1 (v1.getD v4.toNat zero2)))) X0
      else
      none
      else
      none)
      else
      f54 k ((([237, 132, (IntKind.u8.wrap ((shrI .i64 (IntKind.i64.wrap (v40)) 24))), (IntKind.u8.wrap ((shrI .i64 (IntKind.i64.wrap (v40)) 16))), (IntKind.u8.wrap ((shrI .i64 (IntKind.i64.wrap (v40)) 8))), (IntKind.u8.wrap ((IntKind.i64.wrap (v40))))]) ++ (D2.c1 (v1.getD v4.toNat zero2))).length : Int) 0 (fun _v49 v50 =>
      bif room 1 ((v5 ++ v7).length + v50.length) then
      bif room 1 (((v5 ++ v7) ++ v50).length + (([237, 132, (IntKind.u8.wrap ((shrI .i64 (IntKind.i64.wrap (v40)) 24))), (IntKind.u8.wrap ((shrI .i64 (IntKind.i64.wrap (v40)) 16))), (IntKind.u8.wrap ((shrI .i64 (IntKind.i64.wrap (v40)) 8))), (IntKind.u8.wrap ((IntKind.i64.wrap (v40))))]) ++ (D2.c1 (v1.getD v4.toNat zero2))).length) then
      f72_l3 g_f72 k v1 v2 v3 (IntKind.i64.wrap (v4 + 1)) (((v5 ++ v7) ++ v50) ++ (([237, 132, (IntKind.u8.wrap ((shrI .i64 (IntKind.i64.wrap (v40)) 24))), (IntKind.u8.wrap ((shrI .i64 (IntKind.i64.wrap (v40)) 16))), (IntKind.u8.wrap ((shrI .i64 (IntKind.i64.wrap (v40)) 8))), (IntKind.u8.wrap ((IntKind.i64.wrap (v40))))]) ++ (D2.c1 (v1.getD v4.toNat zero2)))) X0
      else
      none
      else
      none))
      else
      none)
      else
      f26 k (D2.c0 (v1.getD v4.toNat zero2)) (fun _v51 _v52 _v53 _v54 v55 _v56 =>
      bif v3 then
      bif v55 then
      bif room 1 ((v5 ++ v7).length + ([255]).length) then
      bif room 1 (((v5 ++ v7) ++ ([255])).length + (D2.c1 (v1.getD v4.toNat zero2)).length) then
      f72_l3 g_f72 k v1 v2 v3 (IntKind.i64.wrap (v4 + 1)) (((v5 ++ v7) ++ ([255])) ++ (D2.c1 (v1.getD v4.toNat zero2))) X0
      else
      none
      else
      none
      else
      f54 k ((D2.c1 (v1.getD v4.toNat zero2)).length : Int) 0 (fun _v57 v58 =>
      bif room 1 ((v5 ++ v7).length + v58.length) then
      bif room 1 (((v5 ++ v7) ++ v58).length + (D2.c1 (v1.getD v4.toNat zero2)).length) then
      f72_l3 g_f72 k v1 v2 v3 (IntKind.i64.wrap (v4 + 1)) (((v5 ++ v7) ++ v58) ++ (D2.c1 (v1.getD v4.toNat zero2))) X0
      else
      none
      else
      none)
      else
      f54 k ((D2.c1 (v1.getD v4.toNat zero2)).length : Int) 0 (fun _v59 v60 =>
      bif room 1 ((v5 ++ v7).length + v60.length) then
      bif room 1 (((v5 ++ v7) ++ v60).length + (D2.c1 (v1.getD v4.toNat zero2)).length) then
      f72_l3 g_f72 k v1 v2 v3 (IntKind.i64.wrap (v4 + 1)) (((v5 ++ v7) ++ v60) ++ (D2.c1 (v1.getD v4.toNat zero2))) X0
      else
      none
      else
      none))
      else
      f26 k (D2.c0 (v1.getD v4.toNat zero2)) (fun _v61 _v62 _v63 _v64 v65 _v66 =>
      bif v3 then
      bif v65 then
      bif room 1 ((v5 ++ v7).length + ([255]).length) then
      bif room 1 (((v5 ++ v7) ++ ([255])).length + (D2.c1 (v1.getD v4.toNat zero2)).length) then
      f72_l3 g_f72 k v1 v2 v3 (IntKind.i64.wrap (v4 + 1)) (((v5 ++ v7) ++ ([255])) ++ (D2.c1 (v1.getD v4.toNat zero2))) X0
      else
      none
      else
      none
      else
      f54 k ((D2.c1 (v1.getD v4.toNat zero2)).length : Int) 0 (fun _v67 v68 =>
      bif room 1 ((v5 ++ v7).length + v68.length) then
      bif room 1 (((v5 ++ v7) ++ v68).length + (D2.c1 (v1.getD v4.toNat zero2)).length) then
      f72_l3 g_f72 k v1 v2 v3 (IntKind.i64.wrap (v4 + 1)) (((v5 ++ v7) ++ v68) ++ (D2.c1 (v1.getD v4.toNat zero2))) X0
      else
      none
      else
      none)
      else
      f54 k ((D2.c1 (v1.getD v4.toNat zero2)).length : Int) 0 (fun _v69 v70 =>
      bif room 1 ((v5 ++ v7).length + v70.length) then
      bif room 1 (((v5 ++ v7) ++ v70).length + (D2.c1 (v1.getD v4.toNat zero2)).length) then
      f72_l3 g_f72 k v1 v2 v3 (IntKind.i64.wrap (v4 + 1)) (((v5 ++ v7) ++ v70) ++ (D2.c1 (v1.getD v4.toNat zero2))) X0
      else
      none
      else
      none))
     else
      none)
   else
    none
  else
   X0 v5
noncomputable def f72_s {R : Type} (g_f72 : Nat → f72_T R) (k : Nat) (a0 : List D2) (a1 a2 : Bool) (K : List Int → Option R) : Option R :=
 f72_l3 g_f72 k a0 a1 a2 0 ([] : List Int) K
noncomputable def f72_d {R : Type} (g : f72_T R) (e : Dr D R) : Dr D R := door [.list (.named 2), .bool, .bool] [] (fun (x : (List D2 × Bool × Bool × Unit)) (y : (Unit)) K => g x.1 x.2.1 x.2.2.1 (fun z0 => K ⟨.own 0, [some (.row (.int .u8) z0 true)]⟩)) e
noncomputable def f72_o {R : Type} (g_f72 : Nat → f72_T R) (k : Nat) : Orc D R := (orcAdd 72 (f72_d (g_f72 k) noDr) (orcAdd 28 (f28_d (f28 k) noDr) (orcAdd 94 (f94_d (f94 k) noDr) (orcAdd 26 (f26_d (f26 k) noDr) (orcAdd 54 (f54_d (f54 k) noDr) noOrc)))))
theorem f72_o_ok {R : Type} (g_f72 : Nat → f72_T R) (h_f72 : ∀ (k : Nat) (e : Dr D R), FnOk Try.prog cx 72 e → FnOk Try.prog cx 72 (f72_d (g_f72 k) e)) (k : Nat) : OrcOk Try.prog cx (f72_o (R := R) g_f72 k) := (OrcOk.add (h_f72 k _ FnOk.no) (OrcOk.add (f28_ok k FnOk.no) (OrcOk.add (f94_ok k FnOk.no) (OrcOk.add (f26_ok k FnOk.no) (OrcOk.add (f54_ok k FnOk.no) OrcOk.no)))))
noncomputable def f72_b : Code := bodyOf Try.f72
noncomputable def f72_l3_a : LAnn := ⟨⟨[(.tmp 7, .own 68719489024 (.int .u8))], [0, 1, 2, 7, 8], [68719489024], []⟩, exOf (none) [(0, ⟨[], [7], [68719489024], []⟩)]⟩
noncomputable def f72_ann : Nat → Option LAnn := fun key => bif Nat.beq key 3 then some f72_l3_a else none
noncomputable def f72_l3_b : Code := loopAt f72_b 0
noncomputable def f72_l3_g {R : Type} (g_f72 : Nat → f72_T R) (k : Nat) (x : (List D2 × Bool × Bool × Unit × Int × Unit)) (y : (List Int × Unit)) (K : KX R) : Option R := f72_l3 g_f72 k x.1 x.2.1 x.2.2.1 x.2.2.2.2.1 y.1 (fun z0 => K (.exit 0) [.own 68719489024] [some (.row (.int .u8) z0 true)])
noncomputable def f72_l3_d {R : Type} (g_f72 : Nat → f72_T R) (k : Nat) : Lr D R := ldoor [.list (.named 2), .bool, .bool, .own 68719489024, .int .i64] [some (.row (.int .u8) true)] (f72_l3_g g_f72 k)
noncomputable def f72_l3_r {R : Type} (_g_f72 : Nat → f72_T R) (_k : Nat) : Lrc D R := noLrc
theorem f72_l3_d_ok {R : Type} (g_f72 : Nat → f72_T R) (h_f72 : ∀ (k : Nat) (e : Dr D R), FnOk Try.prog cx 72 e → FnOk Try.prog cx 72 (f72_d (g_f72 k) e)) : ∀ k, LoopOk Try.prog cx 95 0 f72_ann (f72_l3_d (R := R) g_f72 k) f72_l3_b :=
  loop_ok (keep := kp) (lrc := f72_l3_r (R := R) g_f72) cxOk mixed (f72_o_ok g_f72 h_f72) (show f72_ann (Am.keyOf f72_l3_b) = some f72_l3_a by kernel_rfl) (L := []) (by kernel_rfl) (fun _k => trivial) (J := []) (by kernel_rfl) (fun _k => trivial) (fun _k => LrcNat.no) (fun _x _y _K => by kernel_rfl) (fun _k _x _y _K => by kernel_rfl)
noncomputable def f72_r {R : Type} (g_f72 : Nat → f72_T R) (k : Nat) : Lrc D R := (lrcAdd 3 (f72_l3_d g_f72 k) noLrc)
noncomputable def rec_f72 {R : Type} : Nat → (f72_T R)
  | 0 => (fun _ _ _ _ => none)
  | k + 1 => (f72_s (fun _ => (rec_f72 (R := R) k)) k)
theorem rec_f72_succ {R : Type} (k : Nat) : rec_f72 (R := R) (k + 1) = (f72_s (fun _ => (rec_f72 (R := R) k)) k) := rfl
theorem rec_f72_ok {R : Type} : ∀ k, (∀ e : Dr D R, FnOk Try.prog cx 72 e → FnOk Try.prog cx 72 (f72_d (rec_f72 (R := R) k) e))
  | 0 => fun e he => he.door0 fun x y _K => rfl
  | k + 1 => by
    rw [rec_f72_succ]
    exact fun e he => he.door fun _x _y => body_ok (keep := kp) (ann := f72_ann) (lrc := f72_r (R := R) (fun _ => (rec_f72 (R := R) k)) k) (N := 95) (n0 := 0) (c := []) cxOk mixed (f72_o_ok (fun _ => (rec_f72 (R := R) k)) (fun _ e he => (rec_f72_ok (R := R) k) e he) k) (body := f72_b) (by kernel_rfl : Try.prog.funcs[72]? = some Try.f72) (by kernel_rfl) (by kernel_rfl) (by kernel_rfl) (by kernel_rfl) (of_decide_eq_true (by kernel_rfl)) (L := [f72_l3_b]) (by kernel_rfl) (⟨(f72_l3_d_ok (fun _ => (rec_f72 (R := R) k)) (fun _ e he => (rec_f72_ok (R := R) k) e he) k).use (by kernel_rfl), trivial⟩) (J := []) (by kernel_rfl) trivial ((LrcNat.add (f72_l3_d_ok (fun _ => (rec_f72 (R := R) k)) (fun _ e he => (rec_f72_ok (R := R) k) e he) k).2 LrcNat.no)) (fun _K => by delta f72_s f72_o; generalize @f54 R = a0; generalize @f26 R = a1; generalize @f94 R = a2; generalize @f28 R = a3; revert a0 a1 a2 a3; refine id ?_; intros; kernel_rfl)
noncomputable def f72 {R : Type} (k : Nat) (a0 : List D2) (a1 a2 : Bool) (K : List Int → Option R) : Option R := (rec_f72 (R := R) k) a0 a1 a2 K
theorem f72_ok {R : Type} (k : Nat) {e : Dr D R} (he : FnOk Try.prog cx 72 e) : FnOk Try.prog cx 72 (f72_d (f72 k) e) := (rec_f72_ok (R := R) k) e he
theorem f72_step {R : Type} (k : Nat) (a0 : List D2) (a1 a2 : Bool) (K : List Int → Option R) : f72 (k + 1) a0 a1 a2 K = f72_s (fun _ => f72 (R := R) k) k a0 a1 a2 K := rfl

abbrev f41_T (R : Type) : Type := List D2 → Bool → Bool → (List Int → Option R) → Option R
/-! ## 41: diorama/dioramaref04.Bytes -/
noncomputable def f41 {R : Type} (k : Nat) (a0 : List D2) (a1 a2 : Bool) (K : List Int → Option R) : Option R :=
 f72 k a0 a1 a2 K
noncomputable def f41_d {R : Type} (g : f41_T R) (e : Dr D R) : Dr D R := door [.list (.named 2), .bool, .bool] [] (fun (x : (List D2 × Bool × Bool × Unit)) (y : (Unit)) K => g x.1 x.2.1 x.2.2.1 (fun z0 => K ⟨.own 0, [some (.row (.int .u8) z0 true)]⟩)) e
noncomputable def f41_o {R : Type} (k : Nat) : Orc D R := (orcAdd 72 (f72_d (f72 k) noDr) noOrc)
theorem f41_o_ok {R : Type} (k : Nat) : OrcOk Try.prog cx (f41_o (R := R) k) := (OrcOk.add (f72_ok k FnOk.no) OrcOk.no)
noncomputable def f41_b : Code := bodyOf Try.f41
noncomputable def f41_ann : Nat → Option LAnn := fun _key => none
noncomputable def f41_r {R : Type} (_k : Nat) : Lrc D R := noLrc
theorem f41_ok {R : Type} (k : Nat) {e : Dr D R} (he : FnOk Try.prog cx 41 e) : FnOk Try.prog cx 41 (f41_d (f41 k) e) :=
  he.door fun _x _y => body_ok (keep := kp) (ann := f41_ann) (lrc := f41_r (R := R) k) (N := 11) (n0 := 0) (c := []) cxOk mixed (f41_o_ok k) (body := f41_b) (by kernel_rfl : Try.prog.funcs[41]? = some Try.f41) (by kernel_rfl) (by kernel_rfl) (by kernel_rfl) (by kernel_rfl) (of_decide_eq_true (by kernel_rfl)) (L := []) (by kernel_rfl) trivial (J := []) (by kernel_rfl) trivial (LrcNat.no) (fun _K => by delta f41 f41_o; generalize @f72 R = a0; revert a0; refine id ?_; intros; kernel_rfl)

abbrev f10_T (R : Type) : Type := List D2 → Int → Int → Int → (Bool → Option R) → Option R
/-! ## 10: diorama/dioramalaw04.ElementVoids -/
noncomputable def f10_l6 {R : Type} : Nat → List D2 → Int → List D2 → Option R → (Bool → Option R) → Option R
  | 0, _, _, _, _, _ => none
  | k + 1, v13, v14, v15, X0, X1 =>
  bif decide (v14 < 2) then
   f41 k v15 false (v14 == 1) (fun v16 =>
    bif decide ((v16.length : Int) > 1048576) then
     f18 k X1
    else
     f19 k v16 (fun _v18 v19 v20 =>
      bif (v19 != 0) then
      X1 false
      else
      f23 k v20 v13 (fun v21 =>
      bif (!v21) then
      X1 false
      else
      f10_l6 k v13 (IntKind.i64.wrap (v14 + 1)) v15 X0 X1)))
  else
   X0
noncomputable def f10 {R : Type} (k : Nat) (a0 : List D2) (a1 a2 a3 : Int) (K : Bool → Option R) : Option R :=
 f37 k a0 (fun v1 =>
  bif (v1 != 0) then
   f18 k K
  else
   bif decide (a1 < 0) then
    f18 k K
   else
    bif decide (a2 < 0) then
     f18 k K
    else
     bif decide (a3 < 0) then
      f18 k K
     else
      bif decide (a3 > 1000) then
      f18 k K
      else
      f38 k a0 (fun v7 =>
      bif decide (v7 > 1000) then
      f18 k K
      else
      f39 k a0 (fun v9 =>
      bif decide (v9 ≥ 8) then
      f18 k K
      else
      f40 k a0 a1 a2 a3 (fun _v11 v12 =>
      f10_l6 k a0 0 v12 (
      f18 k K) K))))
noncomputable def f10_d {R : Type} (g : f10_T R) (e : Dr D R) : Dr D R := door [.agg [.list (.named 2), .int .i64, .int .i64, .int .i64]] [] (fun (x : ((List D2 × Int × Int × Int × Unit) × Unit)) (y : (Unit)) K => g x.1.1 x.1.2.1 x.1.2.2.1 x.1.2.2.2.1 (fun z0 => K ⟨.bool z0, []⟩)) e
noncomputable def f10_o {R : Type} (k : Nat) : Orc D R := (orcAdd 41 (f41_d (f41 k) noDr) (orcAdd 40 (f40_d (f40 k) noDr) (orcAdd 39 (f39_d (f39 k) noDr) (orcAdd 38 (f38_d (f38 k) noDr) (orcAdd 37 (f37_d (f37 k) noDr) (orcAdd 23 (f23_d (f23 k) noDr) (orcAdd 18 (f18_d (f18 k) noDr) (orcAdd 19 (f19_d (f19 k) noDr) noOrc))))))))
theorem f10_o_ok {R : Type} (k : Nat) : OrcOk Try.prog cx (f10_o (R := R) k) := (OrcOk.add (f41_ok k FnOk.no) (OrcOk.add (f40_ok k FnOk.no) (OrcOk.add (f39_ok k FnOk.no) (OrcOk.add (f38_ok k FnOk.no) (OrcOk.add (f37_ok k FnOk.no) (OrcOk.add (f23_ok k FnOk.no) (OrcOk.add (f18_ok k FnOk.no) (OrcOk.add (f19_ok k FnOk.no) OrcOk.no))))))))
noncomputable def f10_b : Code := bodyOf Try.f10
noncomputable def f10_l6_a : LAnn := ⟨⟨[], [3, 7, 9], [328608], []⟩, exOf (some ⟨[], [2], [], []⟩) [(0, ⟨[], [], [], []⟩)]⟩
noncomputable def f10_ann : Nat → Option LAnn := fun key => bif Nat.beq key 6 then some f10_l6_a else none
noncomputable def f10_l6_b : Code := loopAt f10_b 0
noncomputable def f10_l6_g {R : Type} (k : Nat) (x : (List D2 × Unit × Int × Unit)) (y : (List D2 × Unit)) (K : KX R) : Option R := f10_l6 k x.1 x.2.2.1 y.1 (K (.exit 0) [] []) (fun z0 => K (.ret) [.bool z0] [])
noncomputable def f10_l6_d {R : Type} (k : Nat) : Lr D R := ldoor [.list (.named 2), .own 328608, .int .i64] [some (.row (.named 2) true)] (f10_l6_g k)
noncomputable def f10_l6_r {R : Type} (_k : Nat) : Lrc D R := noLrc
theorem f10_l6_d_ok {R : Type} : ∀ k, LoopOk Try.prog cx 87 0 f10_ann (f10_l6_d (R := R) k) f10_l6_b :=
  loop_ok (keep := kp) (lrc := f10_l6_r (R := R)) cxOk mixed (f10_o_ok) (show f10_ann (Am.keyOf f10_l6_b) = some f10_l6_a by kernel_rfl) (L := []) (by kernel_rfl) (fun _k => trivial) (J := []) (by kernel_rfl) (fun _k => trivial) (fun _k => LrcNat.no) (fun _x _y _K => by kernel_rfl) (fun _k _x _y _K => by kernel_rfl)
noncomputable def f10_r {R : Type} (k : Nat) : Lrc D R := (lrcAdd 6 (f10_l6_d k) noLrc)
theorem f10_ok {R : Type} (k : Nat) {e : Dr D R} (he : FnOk Try.prog cx 10 e) : FnOk Try.prog cx 10 (f10_d (f10 k) e) :=
  he.door fun _x _y => body_ok (keep := kp) (ann := f10_ann) (lrc := f10_r (R := R) k) (N := 87) (n0 := 0) (c := []) cxOk mixed (f10_o_ok k) (body := f10_b) (by kernel_rfl : Try.prog.funcs[10]? = some Try.f10) (by kernel_rfl) (by kernel_rfl) (by kernel_rfl) (by kernel_rfl) (of_decide_eq_true (by kernel_rfl)) (L := [f10_l6_b]) (by kernel_rfl) (⟨(f10_l6_d_ok k).use (by kernel_rfl), trivial⟩) (J := []) (by kernel_rfl) trivial ((LrcNat.add (f10_l6_d_ok k).2 LrcNat.no)) (fun _K => by delta f10 f10_o; generalize @f19 R = a0; generalize @f18 R = a1; generalize @f23 R = a2; generalize @f37 R = a3; generalize @f38 R = a4; generalize @f39 R = a5; generalize @f40 R = a6; generalize @f41 R = a7; revert a0 a1 a2 a3 a4 a5 a6 a7; refine id ?_; intros; kernel_rfl)

abbrev f74_T (R : Type) : Type := Int → List Int → List D2 → Bool → Int → (Bool → Int → Option R) → Option R
/-! ## 74: diorama/element.Find$1 -/
noncomputable def f74 {R : Type} (_k : Nat) (a0 : Int) (_a1 : List Int) (_a2 : List D2) (_a3 : Bool) (a4 : Int) (K : Bool → Int → Option R) : Option R :=
 K (a0 == a4) a4
noncomputable def f74_d {R : Type} (g : f74_T R) (e : Dr D R) : Dr D R := door [.agg [.int .i64, .list (.int .u8), .list (.named 2), .bool], .ptr 0 0] [.box [.int .i64]] (fun (x : ((Int × List Int × List D2 × Bool × Unit) × Unit × Unit)) (y : ((Int × Unit) × Unit)) K => g x.1.1 x.1.2.1 x.1.2.2.1 x.1.2.2.2.1 y.1.1 (fun z0 z1 => K ⟨.bool z0, [some (.box [.int .i64 z1])]⟩)) e
noncomputable def f74_o {R : Type} (_k : Nat) : Orc D R := noOrc
theorem f74_o_ok {R : Type} (k : Nat) : OrcOk Try.prog cx (f74_o (R := R) k) := OrcOk.no
noncomputable def f74_b : Code := bodyOf Try.f74
noncomputable def f74_ann : Nat → Option LAnn := fun _key => none
noncomputable def f74_r {R : Type} (_k : Nat) : Lrc D R := noLrc
theorem f74_ok {R : Type} (k : Nat) {e : Dr D R} (he : FnOk Try.prog cx 74 e) : FnOk Try.prog cx 74 (f74_d (f74 k) e) :=
  he.door fun _x _y => body_ok (keep := kp) (ann := f74_ann) (lrc := f74_r (R := R) k) (N := 8) (n0 := 1) (c := []) cxOk mixed (f74_o_ok k) (body := f74_b) (by kernel_rfl : Try.prog.funcs[74]? = some Try.f74) (by kernel_rfl) (by kernel_rfl) (by kernel_rfl) (by kernel_rfl) (of_decide_eq_true (by kernel_rfl)) (L := []) (by kernel_rfl) trivial (J := []) (by kernel_rfl) trivial (LrcNat.no) (fun _K => by kernel_rfl)

abbrev f73_9_T (R : Type) : Type := List D2 → Int → (Int → Int → Option R) → Option R
/-! ## 73: slices.IndexFunc[[]diorama/api.Node,diorama/api.Node] -/
noncomputable def f73_9_l2 {R : Type} : Nat → List D2 → Int → Int → Int → (Int → Option R) → (Int → Int → Option R) → Option R
  | 0, _, _, _, _, _, _ => none
  | k + 1, v1, v2, v3, v4, X0, X1 =>
  bif decide (v3 < v2) then
   bif inb v3 v1.length then
    f74 k (D2.c0 (v1.getD v3.toNat zero2)) (D2.c1 (v1.getD v3.toNat zero2)) (D2.c2 (v1.getD v3.toNat zero2)) (D2.c3 (v1.getD v3.toNat zero2)) v4 (fun v5 v6 =>
     bif v5 then
      X1 v3 v6
     else
      f73_9_l2 k v1 v2 (IntKind.i64.wrap (v3 + 1)) v6 X0 X1)
   else
    none
  else
   X0 v4
noncomputable def f73_9 {R : Type} (k : Nat) (a0 : List D2) (a1 : Int) (K : Int → Int → Option R) : Option R :=
 f73_9_l2 k a0 (a0.length : Int) 0 a1 (fun v7 =>
  K (-1) v7) K
noncomputable def f73_9_d {R : Type} (g : f73_9_T R) (e : Dr D R) : Dr D R := door [.list (.named 2), .fn 74 [.ptr 0 0]] [.box [.int .i64]] (fun (x : (List D2 × (Unit × Unit) × Unit)) (y : ((Int × Unit) × Unit)) K => g x.1 y.1.1 (fun z0 z1 => K ⟨.int .i64 z0, [some (.box [.int .i64 z1])]⟩)) e
noncomputable def f73_9_o {R : Type} (k : Nat) : Orc D R := (orcAdd 74 (f74_d (f74 k) noDr) noOrc)
theorem f73_9_o_ok {R : Type} (k : Nat) : OrcOk Try.prog cx (f73_9_o (R := R) k) := (OrcOk.add (f74_ok k FnOk.no) OrcOk.no)
noncomputable def f73_9_b : Code := bodyOf Try.f73
noncomputable def f73_9_l2_a : LAnn := ⟨⟨[], [0, 1, 7, 8], [0], []⟩, exOf (some ⟨[], [4], [0], []⟩) [(0, ⟨[], [], [0], []⟩)]⟩
noncomputable def f73_9_ann : Nat → Option LAnn := fun key => bif Nat.beq key 2 then some f73_9_l2_a else none
noncomputable def f73_9_l2_b : Code := loopAt f73_9_b 0
noncomputable def f73_9_l2_g {R : Type} (k : Nat) (x : (List D2 × (Unit × Unit) × Int × Int × Unit)) (y : ((Int × Unit) × Unit)) (K : KX R) : Option R := f73_9_l2 k x.1 x.2.2.1 x.2.2.2.1 y.1.1 (fun z0 => K (.exit 0) [] [some (.box [.int .i64 z0])]) (fun z0 z1 => K (.ret) [.int .i64 z0] [some (.box [.int .i64 z1])])
noncomputable def f73_9_l2_d {R : Type} (k : Nat) : Lr D R := ldoor [.list (.named 2), .fn 74 [.ptr 0 0], .int .i64, .int .i64] [some (.box [.int .i64])] (f73_9_l2_g k)
noncomputable def f73_9_l2_r {R : Type} (_k : Nat) : Lrc D R := noLrc
theorem f73_9_l2_d_ok {R : Type} : ∀ k, LoopOk Try.prog cx 19 1 f73_9_ann (f73_9_l2_d (R := R) k) f73_9_l2_b :=
  loop_ok (keep := kp) (lrc := f73_9_l2_r (R := R)) cxOk mixed (f73_9_o_ok) (show f73_9_ann (Am.keyOf f73_9_l2_b) = some f73_9_l2_a by kernel_rfl) (L := []) (by kernel_rfl) (fun _k => trivial) (J := []) (by kernel_rfl) (fun _k => trivial) (fun _k => LrcNat.no) (fun _x _y _K => by kernel_rfl) (fun _k _x _y _K => by kernel_rfl)
noncomputable def f73_9_r {R : Type} (k : Nat) : Lrc D R := (lrcAdd 2 (f73_9_l2_d k) noLrc)
theorem f73_9_ok {R : Type} (k : Nat) {e : Dr D R} (he : FnOk Try.prog cx 73 e) : FnOk Try.prog cx 73 (f73_9_d (f73_9 k) e) :=
  he.door fun _x _y => body_ok (keep := kp) (ann := f73_9_ann) (lrc := f73_9_r (R := R) k) (N := 19) (n0 := 1) (c := []) cxOk mixed (f73_9_o_ok k) (body := f73_9_b) (by kernel_rfl : Try.prog.funcs[73]? = some Try.f73) (by kernel_rfl) (by kernel_rfl) (by kernel_rfl) (by kernel_rfl) (of_decide_eq_true (by kernel_rfl)) (L := [f73_9_l2_b]) (by kernel_rfl) (⟨(f73_9_l2_d_ok k).use (by kernel_rfl), trivial⟩) (J := []) (by kernel_rfl) trivial ((LrcNat.add (f73_9_l2_d_ok k).2 LrcNat.no)) (fun _K => by delta f73_9 f73_9_o; generalize @f74 R = a0; revert a0; refine id ?_; intros; kernel_rfl)


end Go.Proofs.Ytklhjegfkpmdoaa
