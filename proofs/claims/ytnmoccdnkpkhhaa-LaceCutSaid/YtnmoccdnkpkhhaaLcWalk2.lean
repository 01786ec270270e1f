/- Proved: each of these functions does what a plain function says. Conditions: none. -/
import Derived.Test.YtnmoccdnkpkhhaaLcWalk1

/-! What the functions do, as plain functions; and that they do. -/
namespace Go.Proofs.Ytnmoccdnkpkhhaa
open Go Go.Am
/-! ## 4: diorama/dioramalaw05.LaceBack -/
noncomputable def f4_l4 {R : Type} (g_f9 : Nat → List (List Int) → (Bool → Option R) → Option R) (g_f10 : Nat → Int → Int → Bool → Int → List (List Int) → (Int → List Int → Option R) → Option R) (g_f13 : Nat → Int → Int → Bool → Int → List (List Int) → (Int → Option R) → Option R) (g_f16 : Nat → List Int → (Int → Int → Bool → Int → Int → List (List Int) → Option R) → Option R) (g_f17 : Nat → Int → Int → Bool → Int → List (List Int) → Int → Int → Bool → Int → List (List Int) → (Bool → Option R) → Option R) (g_f15 : Nat → (Bool → Option R) → Option R) : Nat → Int → Int → Int → Bool → Int → List (List Int) → Option R → (Bool → Option R) → Option R
  | 0, _, _, _, _, _, _, _, _ => none
  | k + 1, v2, v3, v4, v5, _v6, v7, X0, X1 =>
    bif decide (v2 ≤ 3) then
      g_f13 k v3 v4 v5 v2 v7 (fun v8 =>
        bif (v8 != 0) then
          f4_l4 g_f9 g_f10 g_f13 g_f16 g_f17 g_f15 k (IntKind.i64.wrap (v2 + 1)) v3 v4 v5 v2 v7 X0 X1
        else
          g_f10 k v3 v4 v5 v2 v7 (fun v9 v10 =>
            bif (v9 != 0) then
              X1 false
            else
              g_f16 k v10 (fun v11 v12 v13 v14 v15 v16 =>
                bif (v15 != 0) then
                  X1 false
                else
                  g_f17 k v3 v4 v5 v2 v7 v11 v12 v13 v14 v16 (fun v17 =>
                    bif (!v17) then
                      X1 false
                    else
                      f4_l4 g_f9 g_f10 g_f13 g_f16 g_f17 g_f15 k (IntKind.i64.wrap (v2 + 1)) v3 v4 v5 v2 v7 X0 X1))))
    else
      X0
noncomputable def f4_s {R : Type} (g_f9 : Nat → List (List Int) → (Bool → Option R) → Option R) (g_f10 : Nat → Int → Int → Bool → Int → List (List Int) → (Int → List Int → Option R) → Option R) (g_f13 : Nat → Int → Int → Bool → Int → List (List Int) → (Int → Option R) → Option R) (g_f16 : Nat → List Int → (Int → Int → Bool → Int → Int → List (List Int) → Option R) → Option R) (g_f17 : Nat → Int → Int → Bool → Int → List (List Int) → Int → Int → Bool → Int → List (List Int) → (Bool → Option R) → Option R) (g_f15 : Nat → (Bool → Option R) → Option R) (k : Nat) (a0 : Int) (a1 : Int) (a2 : Bool) (a3 : Int) (a4 : List (List Int)) (K : Bool → Option R) : Option R :=
  g_f9 k a4 (fun v1 =>
    bif (!v1) then
      K true
    else
      f4_l4 g_f9 g_f10 g_f13 g_f16 g_f17 g_f15 k 0 a0 a1 a2 a3 a4 (
        g_f15 k (fun v18 =>
          K v18)) (fun v19 =>
        K v19))
noncomputable def f4 {R : Type} (k : Nat) (a0 : Int) (a1 : Int) (a2 : Bool) (a3 : Int) (a4 : List (List Int)) (K : Bool → Option R) : Option R := f4_s (f9 (R := R)) (f10 (R := R)) (f13 (R := R)) (f16 (R := R)) (f17 (R := R)) (f15 (R := R)) k a0 a1 a2 a3 a4 K
noncomputable def f4_o {R : Type} (g_f9 : Nat → List (List Int) → (Bool → Option R) → Option R) (g_f10 : Nat → Int → Int → Bool → Int → List (List Int) → (Int → List Int → Option R) → Option R) (g_f13 : Nat → Int → Int → Bool → Int → List (List Int) → (Int → Option R) → Option R) (g_f16 : Nat → List Int → (Int → Int → Bool → Int → Int → List (List Int) → Option R) → Option R) (g_f17 : Nat → Int → Int → Bool → Int → List (List Int) → Int → Int → Bool → Int → List (List Int) → (Bool → Option R) → Option R) (g_f15 : Nat → (Bool → Option R) → Option R) (k : Nat) : Orc D R := (orcAdd 15 (f15_d (g_f15 k) noDr) (orcAdd 17 (f17_d (g_f17 k) noDr) (orcAdd 16 (f16_d (g_f16 k) noDr) (orcAdd 13 (f13_d (g_f13 k) noDr) (orcAdd 10 (f10_d (g_f10 k) noDr) (orcAdd 9 (f9_d (g_f9 k) noDr) noOrc))))))
theorem f4_o_ok {R : Type} (k : Nat) : OrcOk Try.prog cx (f4_o (R := R) (f9 (R := R)) (f10 (R := R)) (f13 (R := R)) (f16 (R := R)) (f17 (R := R)) (f15 (R := R)) k) := (OrcOk.add (f15_ok k FnOk.no) (OrcOk.add (f17_ok k FnOk.no) (OrcOk.add (f16_ok k FnOk.no) (OrcOk.add (f13_ok k FnOk.no) (OrcOk.add (f10_ok k FnOk.no) (OrcOk.add (f9_ok k FnOk.no) OrcOk.no))))))
noncomputable def f4_b : Code := bodyOf Try.f4
noncomputable def f4_l4_a : LAnn := ⟨⟨[], [1, 3], [65568]⟩, exOf (some ⟨[], [2], []⟩) [(0, ⟨[], [], []⟩)]⟩
noncomputable def f4_ann : Nat → Option LAnn := fun key => bif Nat.beq key 4 then some f4_l4_a else none
noncomputable def f4_l4_b : Code := loopAt f4_b 0
noncomputable def f4_l4_g {R : Type} (g_f9 : Nat → List (List Int) → (Bool → Option R) → Option R) (g_f10 : Nat → Int → Int → Bool → Int → List (List Int) → (Int → List Int → Option R) → Option R) (g_f13 : Nat → Int → Int → Bool → Int → List (List Int) → (Int → Option R) → Option R) (g_f16 : Nat → List Int → (Int → Int → Bool → Int → Int → List (List Int) → Option R) → Option R) (g_f17 : Nat → Int → Int → Bool → Int → List (List Int) → Int → Int → Bool → Int → List (List Int) → (Bool → Option R) → Option R) (g_f15 : Nat → (Bool → Option R) → Option R) (k : Nat) (x : (Unit × Int × Unit)) (y : ((Int × Int × Bool × Int × List (List Int) × Unit) × Unit)) (K : Ex → List (PV D) → List (Option (Am.Obj D)) → Option R) : Option R := f4_l4 g_f9 g_f10 g_f13 g_f16 g_f17 g_f15 k x.2.1 y.1.1 y.1.2.1 y.1.2.2.1 y.1.2.2.2.1 y.1.2.2.2.2.1 (K (.exit 0) [] []) (fun z0 => K (.ret) [.bool z0] [])
noncomputable def f4_l4_d {R : Type} (g_f9 : Nat → List (List Int) → (Bool → Option R) → Option R) (g_f10 : Nat → Int → Int → Bool → Int → List (List Int) → (Int → List Int → Option R) → Option R) (g_f13 : Nat → Int → Int → Bool → Int → List (List Int) → (Int → Option R) → Option R) (g_f16 : Nat → List Int → (Int → Int → Bool → Int → Int → List (List Int) → Option R) → Option R) (g_f17 : Nat → Int → Int → Bool → Int → List (List Int) → Int → Int → Bool → Int → List (List Int) → (Bool → Option R) → Option R) (g_f15 : Nat → (Bool → Option R) → Option R) (k : Nat) : Lr D R := ldoor [.ptr 65568 0, .int .i64] [some (.box [.int .i64, .int .i64, .bool, .int .i64, .list (.slice (.int .u8))])] (f4_l4_g g_f9 g_f10 g_f13 g_f16 g_f17 g_f15 k)
noncomputable def f4_l4_lrc {R : Type} (_g_f9 : Nat → List (List Int) → (Bool → Option R) → Option R) (_g_f10 : Nat → Int → Int → Bool → Int → List (List Int) → (Int → List Int → Option R) → Option R) (_g_f13 : Nat → Int → Int → Bool → Int → List (List Int) → (Int → Option R) → Option R) (_g_f16 : Nat → List Int → (Int → Int → Bool → Int → Int → List (List Int) → Option R) → Option R) (_g_f17 : Nat → Int → Int → Bool → Int → List (List Int) → Int → Int → Bool → Int → List (List Int) → (Bool → Option R) → Option R) (_g_f15 : Nat → (Bool → Option R) → Option R) (_k : Nat) : Lrc D R := noLrc
theorem f4_l4_e {R : Type} (g_f9 : Nat → List (List Int) → (Bool → Option R) → Option R) (g_f10 : Nat → Int → Int → Bool → Int → List (List Int) → (Int → List Int → Option R) → Option R) (g_f13 : Nat → Int → Int → Bool → Int → List (List Int) → (Int → Option R) → Option R) (g_f16 : Nat → List Int → (Int → Int → Bool → Int → Int → List (List Int) → Option R) → Option R) (g_f17 : Nat → Int → Int → Bool → Int → List (List Int) → Int → Int → Bool → Int → List (List Int) → (Bool → Option R) → Option R) (g_f15 : Nat → (Bool → Option R) → Option R) (k : Nat) (x : (Unit × Int × Unit)) (y : ((Int × Int × Bool × Int × List (List Int) × Unit) × Unit)) (K : Ex → List (PV D) → List (Option (Am.Obj D)) → Option R) : f4_l4_g g_f9 g_f10 g_f13 g_f16 g_f17 g_f15 (k + 1) x y K = round cx (f4_o g_f9 g_f10 g_f13 g_f16 g_f17 g_f15 k) (f4_l4_lrc g_f9 g_f10 g_f13 g_f16 g_f17 g_f15 k) f4_ann kp 42 0 f4_l4_a f4_l4_b (gives (D := D) [.ptr 65568 0, .int .i64] x) (giveGs (D := D) [some (.box [.int .i64, .int .i64, .bool, .int .i64, .list (.slice (.int .u8))])] y) (fun vs os => f4_l4_d g_f9 g_f10 g_f13 g_f16 g_f17 g_f15 k vs os K) K := by kernel_rfl
theorem f4_l4_d_ok {R : Type} : ∀ k, LoopOk Try.prog cx 42 0 f4_ann (f4_l4_d (R := R) (f9 (R := R)) (f10 (R := R)) (f13 (R := R)) (f16 (R := R)) (f17 (R := R)) (f15 (R := R)) k) f4_l4_b :=
  loop_ok (keep := kp) (lrc := f4_l4_lrc (R := R) (f9 (R := R)) (f10 (R := R)) (f13 (R := R)) (f16 (R := R)) (f17 (R := R)) (f15 (R := R))) cxOk mixed f4_o_ok (show f4_ann (Am.keyOf f4_l4_b) = some f4_l4_a by kernel_rfl) (L := []) (by kernel_rfl) (fun k => trivial) (fun k => LrcNat.no) (fun x y K => by kernel_rfl) (f4_l4_e (f9 (R := R)) (f10 (R := R)) (f13 (R := R)) (f16 (R := R)) (f17 (R := R)) (f15 (R := R)))
noncomputable def f4_lrc {R : Type} (g_f9 : Nat → List (List Int) → (Bool → Option R) → Option R) (g_f10 : Nat → Int → Int → Bool → Int → List (List Int) → (Int → List Int → Option R) → Option R) (g_f13 : Nat → Int → Int → Bool → Int → List (List Int) → (Int → Option R) → Option R) (g_f16 : Nat → List Int → (Int → Int → Bool → Int → Int → List (List Int) → Option R) → Option R) (g_f17 : Nat → Int → Int → Bool → Int → List (List Int) → Int → Int → Bool → Int → List (List Int) → (Bool → Option R) → Option R) (g_f15 : Nat → (Bool → Option R) → Option R) (k : Nat) : Lrc D R := (lrcAdd 4 (f4_l4_d g_f9 g_f10 g_f13 g_f16 g_f17 g_f15 k) noLrc)
noncomputable def f4_d {R : Type} (g : Int → Int → Bool → Int → List (List Int) → (Bool → Option R) → Option R) (e : Dr D R) : Dr D R := door [.agg [.int .i64, .int .i64, .bool, .int .i64, .list (.slice (.int .u8))]] [] (fun (x : ((Int × Int × Bool × Int × List (List Int) × Unit) × Unit)) (_y : (Unit)) K => g x.1.1 x.1.2.1 x.1.2.2.1 x.1.2.2.2.1 x.1.2.2.2.2.1 (fun z0 => K ⟨.bool z0, []⟩)) e
theorem f4_e {R : Type} (g_f9 : Nat → List (List Int) → (Bool → Option R) → Option R) (g_f10 : Nat → Int → Int → Bool → Int → List (List Int) → (Int → List Int → Option R) → Option R) (g_f13 : Nat → Int → Int → Bool → Int → List (List Int) → (Int → Option R) → Option R) (g_f16 : Nat → List Int → (Int → Int → Bool → Int → Int → List (List Int) → Option R) → Option R) (g_f17 : Nat → Int → Int → Bool → Int → List (List Int) → Int → Int → Bool → Int → List (List Int) → (Bool → Option R) → Option R) (g_f15 : Nat → (Bool → Option R) → Option R) (k : Nat) (x : ((Int × Int × Bool × Int × List (List Int) × Unit) × Unit)) (y : (Unit)) (K : RV D → Option R) : f4_s g_f9 g_f10 g_f13 g_f16 g_f17 g_f15 k x.1.1 x.1.2.1 x.1.2.2.1 x.1.2.2.2.1 x.1.2.2.2.2.1 (fun z0 => K ⟨.bool z0, []⟩) = exec cx (f4_o g_f9 g_f10 g_f13 g_f16 g_f17 g_f15 k) (f4_lrc g_f9 g_f10 g_f13 g_f16 g_f17 g_f15 k) f4_ann kp 42 0 f4_b (entry (gives (D := D) [.agg [.int .i64, .int .i64, .bool, .int .i64, .list (.slice (.int .u8))]] x) (giveOs (D := D) [] y)) (fin cx Try.f4.results.toList [] 0 K) := by kernel_rfl
theorem f4_ok {R : Type} (k : Nat) {e : Dr D R} (he : FnOk Try.prog cx 4 e) : FnOk Try.prog cx 4 (f4_d (f4 k) e) :=
  he.door fun x y => body_ok (keep := kp) (ann := f4_ann) (lrc := f4_lrc (R := R) (f9 (R := R)) (f10 (R := R)) (f13 (R := R)) (f16 (R := R)) (f17 (R := R)) (f15 (R := R)) k) (N := 42) (n0 := 0) (c := []) cxOk mixed (f4_o_ok k) (body := f4_b) (by kernel_rfl : Try.prog.funcs[4]? = some Try.f4) (by kernel_rfl) (by kernel_rfl) (by kernel_rfl) (by kernel_rfl) (of_decide_eq_true (by kernel_rfl)) (L := [f4_l4_b]) (by kernel_rfl) ⟨(f4_l4_d_ok k).use (by kernel_rfl), trivial⟩ ((LrcNat.add (f4_l4_d_ok k).2 LrcNat.no)) (fun K => f4_e (f9 (R := R)) (f10 (R := R)) (f13 (R := R)) (f16 (R := R)) (f17 (R := R)) (f15 (R := R)) k x y K)

/-! ## 18: diorama/dioramaref00.Within -/
noncomputable def f18_s {R : Type} (_k : Nat) (a0 : Int) (a1 : Int) (K : Int → Option R) : Option R :=
  bif decide ((IntKind.u64.wrap (a1)) = 0) then
    none
  else
    K (IntKind.i64.wrap (((IntKind.u64.wrap (a0)).tmod (IntKind.u64.wrap (a1)))))
noncomputable def f18 {R : Type} (k : Nat) (a0 : Int) (a1 : Int) (K : Int → Option R) : Option R := f18_s k a0 a1 K
noncomputable def f18_o {R : Type} (_k : Nat) : Orc D R := noOrc
theorem f18_o_ok {R : Type} (k : Nat) : OrcOk Try.prog cx (f18_o (R := R) k) := OrcOk.no
noncomputable def f18_b : Code := bodyOf Try.f18
noncomputable def f18_ann : Nat → Option LAnn := fun _key => none
noncomputable def f18_lrc {R : Type} (_k : Nat) : Lrc D R := noLrc
noncomputable def f18_d {R : Type} (g : Int → Int → (Int → Option R) → Option R) (e : Dr D R) : Dr D R := door [.int .i64, .int .i64] [] (fun (x : (Int × Int × Unit)) (_y : (Unit)) K => g x.1 x.2.1 (fun z0 => K ⟨.int .i64 z0, []⟩)) e
theorem f18_e {R : Type} (k : Nat) (x : (Int × Int × Unit)) (y : (Unit)) (K : RV D → Option R) : f18_s k x.1 x.2.1 (fun z0 => K ⟨.int .i64 z0, []⟩) = exec cx (f18_o k) (f18_lrc k) f18_ann kp 11 0 f18_b (entry (gives (D := D) [.int .i64, .int .i64] x) (giveOs (D := D) [] y)) (fin cx Try.f18.results.toList [] 0 K) := by kernel_rfl
theorem f18_ok {R : Type} (k : Nat) {e : Dr D R} (he : FnOk Try.prog cx 18 e) : FnOk Try.prog cx 18 (f18_d (f18 k) e) :=
  he.door fun x y => body_ok (keep := kp) (ann := f18_ann) (lrc := f18_lrc (R := R) k) (N := 11) (n0 := 0) (c := []) cxOk mixed (f18_o_ok k) (body := f18_b) (by kernel_rfl : Try.prog.funcs[18]? = some Try.f18) (by kernel_rfl) (by kernel_rfl) (by kernel_rfl) (by kernel_rfl) (of_decide_eq_true (by kernel_rfl)) (L := []) (by kernel_rfl) trivial (LrcNat.no) (fun K => f18_e k x y K)

/-! ## 5: diorama/dioramalaw05.LaceCut -/
noncomputable def f5_l15 {R : Type} (g_f9 : Nat → List (List Int) → (Bool → Option R) → Option R) (g_f10 : Nat → Int → Int → Bool → Int → List (List Int) → (Int → List Int → Option R) → Option R) (g_f13 : Nat → Int → Int → Bool → Int → List (List Int) → (Int → Option R) → Option R) (g_f14 : Nat → List Int → List Int → (Bool → Option R) → Option R) (g_f16 : Nat → List Int → (Int → Int → Bool → Int → Int → List (List Int) → Option R) → Option R) (g_f19 : Nat → List (List Int) → List (List Int) → (Bool → Option R) → Option R) (g_f15 : Nat → (Bool → Option R) → Option R) (g_f18 : Nat → Int → Int → (Int → Option R) → Option R) : Nat → Int → Int → Int → Bool → Int → List (List Int) → Int → Int → Bool → Int → List (List Int) → Option R → (Bool → Option R) → Option R
  | 0, _, _, _, _, _, _, _, _, _, _, _, _, _ => none
  | k + 1, v16, v17, v18, v19, v20, v21, v22, v23, v24, v25, v26, X0, X1 =>
    bif decide (v16 < (v26.length : Int)) then
      bif inb v16 v26.length then
        bif inb 0 v26.length then
          bif (((v26.getD v16.toNat []).length : Int) != ((v26.getD 0 []).length : Int)) then
            X1 false
          else
            bif inb v16 v26.length then
              bif inb v16 v21.length then
                bif decide (((v26.getD v16.toNat []).length : Int) ≥ ((v21.getD v16.toNat []).length : Int)) then
                  X1 false
                else
                  f5_l15 g_f9 g_f10 g_f13 g_f14 g_f16 g_f19 g_f15 g_f18 k (IntKind.i64.wrap (v16 + 1)) v17 v18 v19 v20 v21 v22 v23 v24 v25 v26 X0 X1
              else
                none
            else
              none
        else
          none
      else
        none
    else
      X0
noncomputable def f5_s {R : Type} (g_f9 : Nat → List (List Int) → (Bool → Option R) → Option R) (g_f10 : Nat → Int → Int → Bool → Int → List (List Int) → (Int → List Int → Option R) → Option R) (g_f13 : Nat → Int → Int → Bool → Int → List (List Int) → (Int → Option R) → Option R) (g_f14 : Nat → List Int → List Int → (Bool → Option R) → Option R) (g_f16 : Nat → List Int → (Int → Int → Bool → Int → Int → List (List Int) → Option R) → Option R) (g_f19 : Nat → List (List Int) → List (List Int) → (Bool → Option R) → Option R) (g_f15 : Nat → (Bool → Option R) → Option R) (g_f18 : Nat → Int → Int → (Int → Option R) → Option R) (k : Nat) (a0 : Int) (a1 : Int) (a2 : Bool) (a3 : Int) (a4 : List (List Int)) (a5 : Int) (K : Bool → Option R) : Option R :=
  g_f9 k a4 (fun v1 =>
    bif (!v1) then
      g_f15 k (fun v2 =>
        K v2)
    else
      g_f13 k a0 a1 a2 a3 a4 (fun v3 =>
        bif (v3 != 0) then
          g_f15 k (fun v4 =>
            K v4)
        else
          g_f10 k a0 a1 a2 a3 a4 (fun v5 v6 =>
            bif (v5 != 0) then
              K false
            else
              bif ((v6.length : Int) == 0) then
                K false
              else
                bif decide ((v6.length : Int) > 4000) then
                  g_f15 k (fun v7 =>
                    K v7)
                else
                  g_f18 k a5 (v6.length : Int) (fun v8 =>
                    bif upto v8 v6.length then
                      g_f16 k (v6.take v8.toNat) (fun v9 v10 v11 v12 v13 v14 =>
                        bif (v13 != 0) then
                          g_f15 k (fun v15 =>
                            K v15)
                        else
                          bif ((v14.length : Int) != (a4.length : Int)) then
                            K false
                          else
                            bif (v9 != a0) then
                              K false
                            else
                              bif (v10 != a1) then
                                K false
                              else
                                bif (!(v11 == a2)) then
                                  K false
                                else
                                  bif (v12 != a3) then
                                    K false
                                  else
                                    bif (a3 == 2) then
                                      f5_l15 g_f9 g_f10 g_f13 g_f14 g_f16 g_f19 g_f15 g_f18 k 0 a0 a1 a2 a3 a4 v9 v10 v11 v12 v14 (
                                        g_f15 k (fun v27 =>
                                          K v27)) (fun v28 =>
                                        K v28)
                                    else
                                      bif upto (IntKind.i64.wrap ((a4.length : Int) - 1)) v14.length then
                                        bif upto (IntKind.i64.wrap ((a4.length : Int) - 1)) a4.length then
                                          g_f19 k (v14.take ((IntKind.i64.wrap ((a4.length : Int) - 1)).toNat)) (a4.take ((IntKind.i64.wrap ((a4.length : Int) - 1)).toNat)) (fun v29 =>
                                            bif (!v29) then
                                              K false
                                            else
                                              bif inb (IntKind.i64.wrap ((a4.length : Int) - 1)) v14.length then
                                                bif inb (IntKind.i64.wrap ((a4.length : Int) - 1)) a4.length then
                                                  bif decide (((v14.getD ((IntKind.i64.wrap ((a4.length : Int) - 1)).toNat) []).length : Int) ≥ ((a4.getD ((IntKind.i64.wrap ((a4.length : Int) - 1)).toNat) []).length : Int)) then
                                                    K false
                                                  else
                                                    bif inb (IntKind.i64.wrap ((a4.length : Int) - 1)) v14.length then
                                                      bif inb (IntKind.i64.wrap ((a4.length : Int) - 1)) a4.length then
                                                        bif inb (IntKind.i64.wrap ((a4.length : Int) - 1)) v14.length then
                                                          bif upto ((v14.getD ((IntKind.i64.wrap ((a4.length : Int) - 1)).toNat) []).length : Int) ((a4.getD ((IntKind.i64.wrap ((a4.length : Int) - 1)).toNat) []).length) then
                                                            g_f14 k (v14.getD ((IntKind.i64.wrap ((a4.length : Int) - 1)).toNat) []) ((a4.getD ((IntKind.i64.wrap ((a4.length : Int) - 1)).toNat) []).take (((v14.getD ((IntKind.i64.wrap ((a4.length : Int) - 1)).toNat) []).length : Int).toNat)) (fun v30 =>
                                                              bif v30 then
                                                                g_f15 k (fun v31 =>
                                                                  K v31)
                                                              else
                                                                K false)
                                                          else
                                                            none
                                                        else
                                                          none
                                                      else
                                                        none
                                                    else
                                                      none
                                                else
                                                  none
                                              else
                                                none)
                                        else
                                          none
                                      else
                                        none)
                    else
                      none))))
noncomputable def f5 {R : Type} (k : Nat) (a0 : Int) (a1 : Int) (a2 : Bool) (a3 : Int) (a4 : List (List Int)) (a5 : Int) (K : Bool → Option R) : Option R := f5_s (f9 (R := R)) (f10 (R := R)) (f13 (R := R)) (f14 (R := R)) (f16 (R := R)) (f19 (R := R)) (f15 (R := R)) (f18 (R := R)) k a0 a1 a2 a3 a4 a5 K
noncomputable def f5_o {R : Type} (g_f9 : Nat → List (List Int) → (Bool → Option R) → Option R) (g_f10 : Nat → Int → Int → Bool → Int → List (List Int) → (Int → List Int → Option R) → Option R) (g_f13 : Nat → Int → Int → Bool → Int → List (List Int) → (Int → Option R) → Option R) (g_f14 : Nat → List Int → List Int → (Bool → Option R) → Option R) (g_f16 : Nat → List Int → (Int → Int → Bool → Int → Int → List (List Int) → Option R) → Option R) (g_f19 : Nat → List (List Int) → List (List Int) → (Bool → Option R) → Option R) (g_f15 : Nat → (Bool → Option R) → Option R) (g_f18 : Nat → Int → Int → (Int → Option R) → Option R) (k : Nat) : Orc D R := (orcAdd 18 (f18_d (g_f18 k) noDr) (orcAdd 15 (f15_d (g_f15 k) noDr) (orcAdd 19 (f19_d (g_f19 k) noDr) (orcAdd 16 (f16_d (g_f16 k) noDr) (orcAdd 14 (f14_d (g_f14 k) noDr) (orcAdd 13 (f13_d (g_f13 k) noDr) (orcAdd 10 (f10_d (g_f10 k) noDr) (orcAdd 9 (f9_d (g_f9 k) noDr) noOrc))))))))
theorem f5_o_ok {R : Type} (k : Nat) : OrcOk Try.prog cx (f5_o (R := R) (f9 (R := R)) (f10 (R := R)) (f13 (R := R)) (f14 (R := R)) (f16 (R := R)) (f19 (R := R)) (f15 (R := R)) (f18 (R := R)) k) := (OrcOk.add (f18_ok k FnOk.no) (OrcOk.add (f15_ok k FnOk.no) (OrcOk.add (f19_ok k FnOk.no) (OrcOk.add (f16_ok k FnOk.no) (OrcOk.add (f14_ok k FnOk.no) (OrcOk.add (f13_ok k FnOk.no) (OrcOk.add (f10_ok k FnOk.no) (OrcOk.add (f9_ok k FnOk.no) OrcOk.no))))))))
noncomputable def f5_b : Code := bodyOf Try.f5
noncomputable def f5_l15_a : LAnn := ⟨⟨[], [2, 7, 9], [65584, 589952, 590544]⟩, exOf (some ⟨[], [4], []⟩) [(0, ⟨[], [], []⟩)]⟩
noncomputable def f5_ann : Nat → Option LAnn := fun key => bif Nat.beq key 15 then some f5_l15_a else none
noncomputable def f5_l15_b : Code := loopAt f5_b 0
noncomputable def f5_l15_g {R : Type} (g_f9 : Nat → List (List Int) → (Bool → Option R) → Option R) (g_f10 : Nat → Int → Int → Bool → Int → List (List Int) → (Int → List Int → Option R) → Option R) (g_f13 : Nat → Int → Int → Bool → Int → List (List Int) → (Int → Option R) → Option R) (g_f14 : Nat → List Int → List Int → (Bool → Option R) → Option R) (g_f16 : Nat → List Int → (Int → Int → Bool → Int → Int → List (List Int) → Option R) → Option R) (g_f19 : Nat → List (List Int) → List (List Int) → (Bool → Option R) → Option R) (g_f15 : Nat → (Bool → Option R) → Option R) (g_f18 : Nat → Int → Int → (Int → Option R) → Option R) (k : Nat) (x : (Unit × Unit × Int × Unit)) (y : ((Int × Int × Bool × Int × List (List Int) × Unit) × (Int × Int × Bool × Int × Unit × Unit) × List (List Int) × Unit)) (K : Ex → List (PV D) → List (Option (Am.Obj D)) → Option R) : Option R := f5_l15 g_f9 g_f10 g_f13 g_f14 g_f16 g_f19 g_f15 g_f18 k x.2.2.1 y.1.1 y.1.2.1 y.1.2.2.1 y.1.2.2.2.1 y.1.2.2.2.2.1 y.2.1.1 y.2.1.2.1 y.2.1.2.2.1 y.2.1.2.2.2.1 y.2.2.1 (K (.exit 0) [] []) (fun z0 => K (.ret) [.bool z0] [])
noncomputable def f5_l15_d {R : Type} (g_f9 : Nat → List (List Int) → (Bool → Option R) → Option R) (g_f10 : Nat → Int → Int → Bool → Int → List (List Int) → (Int → List Int → Option R) → Option R) (g_f13 : Nat → Int → Int → Bool → Int → List (List Int) → (Int → Option R) → Option R) (g_f14 : Nat → List Int → List Int → (Bool → Option R) → Option R) (g_f16 : Nat → List Int → (Int → Int → Bool → Int → Int → List (List Int) → Option R) → Option R) (g_f19 : Nat → List (List Int) → List (List Int) → (Bool → Option R) → Option R) (g_f15 : Nat → (Bool → Option R) → Option R) (g_f18 : Nat → Int → Int → (Int → Option R) → Option R) (k : Nat) : Lr D R := ldoor [.ptr 65584 0, .ptr 589952 0, .int .i64] [some (.box [.int .i64, .int .i64, .bool, .int .i64, .list (.slice (.int .u8))]), some (.box [.int .i64, .int .i64, .bool, .int .i64, .own 590544]), some (.row (.slice (.int .u8)) true)] (f5_l15_g g_f9 g_f10 g_f13 g_f14 g_f16 g_f19 g_f15 g_f18 k)
noncomputable def f5_l15_lrc {R : Type} (_g_f9 : Nat → List (List Int) → (Bool → Option R) → Option R) (_g_f10 : Nat → Int → Int → Bool → Int → List (List Int) → (Int → List Int → Option R) → Option R) (_g_f13 : Nat → Int → Int → Bool → Int → List (List Int) → (Int → Option R) → Option R) (_g_f14 : Nat → List Int → List Int → (Bool → Option R) → Option R) (_g_f16 : Nat → List Int → (Int → Int → Bool → Int → Int → List (List Int) → Option R) → Option R) (_g_f19 : Nat → List (List Int) → List (List Int) → (Bool → Option R) → Option R) (_g_f15 : Nat → (Bool → Option R) → Option R) (_g_f18 : Nat → Int → Int → (Int → Option R) → Option R) (_k : Nat) : Lrc D R := noLrc
theorem f5_l15_e {R : Type} (g_f9 : Nat → List (List Int) → (Bool → Option R) → Option R) (g_f10 : Nat → Int → Int → Bool → Int → List (List Int) → (Int → List Int → Option R) → Option R) (g_f13 : Nat → Int → Int → Bool → Int → List (List Int) → (Int → Option R) → Option R) (g_f14 : Nat → List Int → List Int → (Bool → Option R) → Option R) (g_f16 : Nat → List Int → (Int → Int → Bool → Int → Int → List (List Int) → Option R) → Option R) (g_f19 : Nat → List (List Int) → List (List Int) → (Bool → Option R) → Option R) (g_f15 : Nat → (Bool → Option R) → Option R) (g_f18 : Nat → Int → Int → (Int → Option R) → Option R) (k : Nat) (x : (Unit × Unit × Int × Unit)) (y : ((Int × Int × Bool × Int × List (List Int) × Unit) × (Int × Int × Bool × Int × Unit × Unit) × List (List Int) × Unit)) (K : Ex → List (PV D) → List (Option (Am.Obj D)) → Option R) : f5_l15_g g_f9 g_f10 g_f13 g_f14 g_f16 g_f19 g_f15 g_f18 (k + 1) x y K = round cx (f5_o g_f9 g_f10 g_f13 g_f14 g_f16 g_f19 g_f15 g_f18 k) (f5_l15_lrc g_f9 g_f10 g_f13 g_f14 g_f16 g_f19 g_f15 g_f18 k) f5_ann kp 173 0 f5_l15_a f5_l15_b (gives (D := D) [.ptr 65584 0, .ptr 589952 0, .int .i64] x) (giveGs (D := D) [some (.box [.int .i64, .int .i64, .bool, .int .i64, .list (.slice (.int .u8))]), some (.box [.int .i64, .int .i64, .bool, .int .i64, .own 590544]), some (.row (.slice (.int .u8)) true)] y) (fun vs os => f5_l15_d g_f9 g_f10 g_f13 g_f14 g_f16 g_f19 g_f15 g_f18 k vs os K) K := by kernel_rfl
theorem f5_l15_d_ok {R : Type} : ∀ k, LoopOk Try.prog cx 173 0 f5_ann (f5_l15_d (R := R) (f9 (R := R)) (f10 (R := R)) (f13 (R := R)) (f14 (R := R)) (f16 (R := R)) (f19 (R := R)) (f15 (R := R)) (f18 (R := R)) k) f5_l15_b :=
  loop_ok (keep := kp) (lrc := f5_l15_lrc (R := R) (f9 (R := R)) (f10 (R := R)) (f13 (R := R)) (f14 (R := R)) (f16 (R := R)) (f19 (R := R)) (f15 (R := R)) (f18 (R := R))) cxOk mixed f5_o_ok (show f5_ann (Am.keyOf f5_l15_b) = some f5_l15_a by kernel_rfl) (L := []) (by kernel_rfl) (fun k => trivial) (fun k => LrcNat.no) (fun x y K => by kernel_rfl) (f5_l15_e (f9 (R := R)) (f10 (R := R)) (f13 (R := R)) (f14 (R := R)) (f16 (R := R)) (f19 (R := R)) (f15 (R := R)) (f18 (R := R)))
noncomputable def f5_lrc {R : Type} (g_f9 : Nat → List (List Int) → (Bool → Option R) → Option R) (g_f10 : Nat → Int → Int → Bool → Int → List (List Int) → (Int → List Int → Option R) → Option R) (g_f13 : Nat → Int → Int → Bool → Int → List (List Int) → (Int → Option R) → Option R) (g_f14 : Nat → List Int → List Int → (Bool → Option R) → Option R) (g_f16 : Nat → List Int → (Int → Int → Bool → Int → Int → List (List Int) → Option R) → Option R) (g_f19 : Nat → List (List Int) → List (List Int) → (Bool → Option R) → Option R) (g_f15 : Nat → (Bool → Option R) → Option R) (g_f18 : Nat → Int → Int → (Int → Option R) → Option R) (k : Nat) : Lrc D R := (lrcAdd 15 (f5_l15_d g_f9 g_f10 g_f13 g_f14 g_f16 g_f19 g_f15 g_f18 k) noLrc)
noncomputable def f5_d {R : Type} (g : Int → Int → Bool → Int → List (List Int) → Int → (Bool → Option R) → Option R) (e : Dr D R) : Dr D R := door [.agg [.int .i64, .int .i64, .bool, .int .i64, .list (.slice (.int .u8))], .int .i64] [] (fun (x : ((Int × Int × Bool × Int × List (List Int) × Unit) × Int × Unit)) (_y : (Unit)) K => g x.1.1 x.1.2.1 x.1.2.2.1 x.1.2.2.2.1 x.1.2.2.2.2.1 x.2.1 (fun z0 => K ⟨.bool z0, []⟩)) e
theorem f5_e {R : Type} (g_f9 : Nat → List (List Int) → (Bool → Option R) → Option R) (g_f10 : Nat → Int → Int → Bool → Int → List (List Int) → (Int → List Int → Option R) → Option R) (g_f13 : Nat → Int → Int → Bool → Int → List (List Int) → (Int → Option R) → Option R) (g_f14 : Nat → List Int → List Int → (Bool → Option R) → Option R) (g_f16 : Nat → List Int → (Int → Int → Bool → Int → Int → List (List Int) → Option R) → Option R) (g_f19 : Nat → List (List Int) → List (List Int) → (Bool → Option R) → Option R) (g_f15 : Nat → (Bool → Option R) → Option R) (g_f18 : Nat → Int → Int → (Int → Option R) → Option R) (k : Nat) (x : ((Int × Int × Bool × Int × List (List Int) × Unit) × Int × Unit)) (y : (Unit)) (K : RV D → Option R) : f5_s g_f9 g_f10 g_f13 g_f14 g_f16 g_f19 g_f15 g_f18 k x.1.1 x.1.2.1 x.1.2.2.1 x.1.2.2.2.1 x.1.2.2.2.2.1 x.2.1 (fun z0 => K ⟨.bool z0, []⟩) = exec cx (f5_o g_f9 g_f10 g_f13 g_f14 g_f16 g_f19 g_f15 g_f18 k) (f5_lrc g_f9 g_f10 g_f13 g_f14 g_f16 g_f19 g_f15 g_f18 k) f5_ann kp 173 0 f5_b (entry (gives (D := D) [.agg [.int .i64, .int .i64, .bool, .int .i64, .list (.slice (.int .u8))], .int .i64] x) (giveOs (D := D) [] y)) (fin cx Try.f5.results.toList [] 0 K) := by kernel_rfl
theorem f5_ok {R : Type} (k : Nat) {e : Dr D R} (he : FnOk Try.prog cx 5 e) : FnOk Try.prog cx 5 (f5_d (f5 k) e) :=
  he.door fun x y => body_ok (keep := kp) (ann := f5_ann) (lrc := f5_lrc (R := R) (f9 (R := R)) (f10 (R := R)) (f13 (R := R)) (f14 (R := R)) (f16 (R := R)) (f19 (R := R)) (f15 (R := R)) (f18 (R := R)) k) (N := 173) (n0 := 0) (c := []) cxOk mixed (f5_o_ok k) (body := f5_b) (by kernel_rfl : Try.prog.funcs[5]? = some Try.f5) (by kernel_rfl) (by kernel_rfl) (by kernel_rfl) (by kernel_rfl) (of_decide_eq_true (by kernel_rfl)) (L := [f5_l15_b]) (by kernel_rfl) ⟨(f5_l15_d_ok k).use (by kernel_rfl), trivial⟩ ((LrcNat.add (f5_l15_d_ok k).2 LrcNat.no)) (fun K => f5_e (f9 (R := R)) (f10 (R := R)) (f13 (R := R)) (f14 (R := R)) (f16 (R := R)) (f19 (R := R)) (f15 (R := R)) (f18 (R := R)) k x y K)

/-! ## 70: diorama/dioramaref01.Vint -/
noncomputable def f70_l14 {R : Type} (g_f48 : Nat → Int → (Int → Option R) → Option R) : Nat → List Int → Int → Int → Int → Int → (Int → Int → Option R) → Option R
  | 0, _, _, _, _, _, _ => none
  | k + 1, v7, v8, v9, v10, v11, X0 =>
    bif decide (v11 < v9) then
      bif inb (IntKind.i64.wrap (v8 + v11)) v7.length then
        f70_l14 g_f48 k v7 v8 v9 (IntKind.i64.wrap ((IntKind.i64.wrap (v10 * 256)) + (IntKind.i64.wrap ((v7.getD ((IntKind.i64.wrap (v8 + v11)).toNat) 0))))) (IntKind.i64.wrap (v11 + 1)) X0
      else
        none
    else
      X0 v9 v10
noncomputable def f70_l8 {R : Type} (g_f48 : Nat → Int → (Int → Option R) → Option R) : Nat → List Int → Int → Int → (List Int → Int → Int → Option R) → Option R
  | 0, _, _, _, _ => none
  | k + 1, v1, v2, v3, X0 =>
    bif inb v2 v1.length then
      bif decide ((IntKind.u64.wrap ((IntKind.i64.wrap (8 - v3)))) < 0) then
        none
      else
        bif ((shrI .u8 (v1.getD v2.toNat 0) (IntKind.u64.wrap ((IntKind.i64.wrap (8 - v3))))) == 0) then
          f70_l8 g_f48 k v1 v2 (IntKind.i64.wrap (v3 + 1)) X0
        else
          X0 v1 v2 v3
    else
      none
noncomputable def f70_s {R : Type} (g_f48 : Nat → Int → (Int → Option R) → Option R) (k : Nat) (a0 : List Int) (a1 : Int) (K : Int → Int → Bool → Int → Option R) : Option R :=
  bif decide (a1 < 0) then
    K 0 0 false 1
  else
    bif decide (a1 ≥ (a0.length : Int)) then
      K 0 0 false 3
    else
      bif inb a1 a0.length then
        bif ((a0.getD a1.toNat 0) == 0) then
          K 0 0 false 4
        else
          f70_l8 g_f48 k a0 a1 1 (fun v4 v5 v6 =>
            bif decide (v5 > (IntKind.i64.wrap ((v4.length : Int) - v6))) then
              K 0 0 false 3
            else
              bif inb v5 v4.length then
                bif decide ((IntKind.u64.wrap ((IntKind.i64.wrap (8 - v6)))) < 0) then
                  none
                else
                  f70_l14 g_f48 k v4 v5 v6 (IntKind.i64.wrap ((IntKind.i64.wrap ((v4.getD v5.toNat 0))) - (shlI .i64 1 (IntKind.u64.wrap ((IntKind.i64.wrap (8 - v6))))))) 1 (fun v12 v13 =>
                    g_f48 k v12 (fun v14 =>
                      bif (v13 == v14) then
                        K 0 v12 true 0
                      else
                        K v13 v12 false 0))
              else
                none)
      else
        none
noncomputable def f70 {R : Type} (k : Nat) (a0 : List Int) (a1 : Int) (K : Int → Int → Bool → Int → Option R) : Option R := f70_s (f48 (R := R)) k a0 a1 K
noncomputable def f70_o {R : Type} (g_f48 : Nat → Int → (Int → Option R) → Option R) (k : Nat) : Orc D R := (orcAdd 48 (f48_d (g_f48 k) noDr) noOrc)
theorem f70_o_ok {R : Type} (k : Nat) : OrcOk Try.prog cx (f70_o (R := R) (f48 (R := R)) k) := (OrcOk.add (f48_ok k FnOk.no) OrcOk.no)
noncomputable def f70_b : Code := bodyOf Try.f70
noncomputable def f70_l8_a : LAnn := ⟨⟨[], [0, 1, 8], []⟩, exOf (none) [(0, ⟨[], [0, 1, 8], []⟩)]⟩
noncomputable def f70_l14_a : LAnn := ⟨⟨[], [0, 1, 8, 9, 10], []⟩, exOf (none) [(2, ⟨[], [8, 9], []⟩)]⟩
noncomputable def f70_ann : Nat → Option LAnn := fun key => bif Nat.beq key 14 then some f70_l14_a else bif Nat.beq key 8 then some f70_l8_a else none
noncomputable def f70_l14_b : Code := loopAt f70_b 1
noncomputable def f70_l14_g {R : Type} (g_f48 : Nat → Int → (Int → Option R) → Option R) (k : Nat) (x : (List Int × Int × Int × Int × Int × Unit)) (_y : (Unit)) (K : Ex → List (PV D) → List (Option (Am.Obj D)) → Option R) : Option R := f70_l14 g_f48 k x.1 x.2.1 x.2.2.1 x.2.2.2.1 x.2.2.2.2.1 (fun z0 z1 => K (.exit 2) [.int .i64 z0, .int .i64 z1] [])
noncomputable def f70_l14_d {R : Type} (g_f48 : Nat → Int → (Int → Option R) → Option R) (k : Nat) : Lr D R := ldoor [.list (.int .u8), .int .i64, .int .i64, .int .i64, .int .i64] [] (f70_l14_g g_f48 k)
noncomputable def f70_l14_lrc {R : Type} (_g_f48 : Nat → Int → (Int → Option R) → Option R) (_k : Nat) : Lrc D R := noLrc
theorem f70_l14_e {R : Type} (g_f48 : Nat → Int → (Int → Option R) → Option R) (k : Nat) (x : (List Int × Int × Int × Int × Int × Unit)) (y : (Unit)) (K : Ex → List (PV D) → List (Option (Am.Obj D)) → Option R) : f70_l14_g g_f48 (k + 1) x y K = round cx (f70_o g_f48 k) (f70_l14_lrc g_f48 k) f70_ann kp 71 0 f70_l14_a f70_l14_b (gives (D := D) [.list (.int .u8), .int .i64, .int .i64, .int .i64, .int .i64] x) (giveGs (D := D) [] y) (fun vs os => f70_l14_d g_f48 k vs os K) K := by kernel_rfl
theorem f70_l14_d_ok {R : Type} : ∀ k, LoopOk Try.prog cx 71 0 f70_ann (f70_l14_d (R := R) (f48 (R := R)) k) f70_l14_b :=
  loop_ok (keep := kp) (lrc := f70_l14_lrc (R := R) (f48 (R := R))) cxOk mixed f70_o_ok (show f70_ann (Am.keyOf f70_l14_b) = some f70_l14_a by kernel_rfl) (L := []) (by kernel_rfl) (fun k => trivial) (fun k => LrcNat.no) (fun x y K => by kernel_rfl) (f70_l14_e (f48 (R := R)))
noncomputable def f70_l8_b : Code := loopAt f70_b 0
noncomputable def f70_l8_g {R : Type} (g_f48 : Nat → Int → (Int → Option R) → Option R) (k : Nat) (x : (List Int × Int × Int × Unit)) (_y : (Unit)) (K : Ex → List (PV D) → List (Option (Am.Obj D)) → Option R) : Option R := f70_l8 g_f48 k x.1 x.2.1 x.2.2.1 (fun z0 z1 z2 => K (.exit 0) [.list (.int .u8) z0, .int .i64 z1, .int .i64 z2] [])
noncomputable def f70_l8_d {R : Type} (g_f48 : Nat → Int → (Int → Option R) → Option R) (k : Nat) : Lr D R := ldoor [.list (.int .u8), .int .i64, .int .i64] [] (f70_l8_g g_f48 k)
noncomputable def f70_l8_lrc {R : Type} (_g_f48 : Nat → Int → (Int → Option R) → Option R) (_k : Nat) : Lrc D R := noLrc
theorem f70_l8_e {R : Type} (g_f48 : Nat → Int → (Int → Option R) → Option R) (k : Nat) (x : (List Int × Int × Int × Unit)) (y : (Unit)) (K : Ex → List (PV D) → List (Option (Am.Obj D)) → Option R) : f70_l8_g g_f48 (k + 1) x y K = round cx (f70_o g_f48 k) (f70_l8_lrc g_f48 k) f70_ann kp 71 0 f70_l8_a f70_l8_b (gives (D := D) [.list (.int .u8), .int .i64, .int .i64] x) (giveGs (D := D) [] y) (fun vs os => f70_l8_d g_f48 k vs os K) K := by kernel_rfl
theorem f70_l8_d_ok {R : Type} : ∀ k, LoopOk Try.prog cx 71 0 f70_ann (f70_l8_d (R := R) (f48 (R := R)) k) f70_l8_b :=
  loop_ok (keep := kp) (lrc := f70_l8_lrc (R := R) (f48 (R := R))) cxOk mixed f70_o_ok (show f70_ann (Am.keyOf f70_l8_b) = some f70_l8_a by kernel_rfl) (L := []) (by kernel_rfl) (fun k => trivial) (fun k => LrcNat.no) (fun x y K => by kernel_rfl) (f70_l8_e (f48 (R := R)))
noncomputable def f70_lrc {R : Type} (g_f48 : Nat → Int → (Int → Option R) → Option R) (k : Nat) : Lrc D R := (lrcAdd 14 (f70_l14_d g_f48 k) (lrcAdd 8 (f70_l8_d g_f48 k) noLrc))
noncomputable def f70_d {R : Type} (g : List Int → Int → (Int → Int → Bool → Int → Option R) → Option R) (e : Dr D R) : Dr D R := door [.list (.int .u8), .int .i64] [] (fun (x : (List Int × Int × Unit)) (_y : (Unit)) K => g x.1 x.2.1 (fun z0 z1 z2 z3 => K ⟨.tup [.int .i64 z0, .int .i64 z1, .bool z2, .int .i64 z3], []⟩)) e
theorem f70_e {R : Type} (g_f48 : Nat → Int → (Int → Option R) → Option R) (k : Nat) (x : (List Int × Int × Unit)) (y : (Unit)) (K : RV D → Option R) : f70_s g_f48 k x.1 x.2.1 (fun z0 z1 z2 z3 => K ⟨.tup [.int .i64 z0, .int .i64 z1, .bool z2, .int .i64 z3], []⟩) = exec cx (f70_o g_f48 k) (f70_lrc g_f48 k) f70_ann kp 71 0 f70_b (entry (gives (D := D) [.list (.int .u8), .int .i64] x) (giveOs (D := D) [] y)) (fin cx Try.f70.results.toList [] 0 K) := by kernel_rfl
theorem f70_ok {R : Type} (k : Nat) {e : Dr D R} (he : FnOk Try.prog cx 70 e) : FnOk Try.prog cx 70 (f70_d (f70 k) e) :=
  he.door fun x y => body_ok (keep := kp) (ann := f70_ann) (lrc := f70_lrc (R := R) (f48 (R := R)) k) (N := 71) (n0 := 0) (c := []) cxOk mixed (f70_o_ok k) (body := f70_b) (by kernel_rfl : Try.prog.funcs[70]? = some Try.f70) (by kernel_rfl) (by kernel_rfl) (by kernel_rfl) (by kernel_rfl) (of_decide_eq_true (by kernel_rfl)) (L := [f70_l8_b, f70_l14_b]) (by kernel_rfl) ⟨(f70_l8_d_ok k).use (by kernel_rfl), (f70_l14_d_ok k).use (by kernel_rfl), trivial⟩ ((LrcNat.add (f70_l14_d_ok k).2 (LrcNat.add (f70_l8_d_ok k).2 LrcNat.no))) (fun K => f70_e (f48 (R := R)) k x y K)


end Go.Proofs.Ytnmoccdnkpkhhaa

/-! What the functions do, as plain functions; and that they do. -/
namespace Go.Proofs.Ytnmoccdnkpkhhaa
open Go Go.Am
/-! ## 57: diorama/dioramaref05.head -/
noncomputable def f57_s {R : Type} (g_f70 : Nat → List Int → Int → (Int → Int → Bool → Int → Option R) → Option R) (k : Nat) (a0 : List Int) (K : Int → Int → Bool → Int → Int → Int → Int → Option R) : Option R :=
  g_f70 k a0 0 (fun v1 v2 v3 v4 =>
    bif (v4 != 0) then
      K 0 0 false 0 0 0 v4
    else
      bif v3 then
        K 0 0 false 0 0 0 4
      else
        bif decide (v1 < 1) then
          K 0 0 false 0 0 0 1
        else
          bif decide (v1 > 1000) then
            K 0 0 false 0 0 0 1
          else
            bif decide ((IntKind.i64.wrap (v2 + 3)) > (a0.length : Int)) then
              K 0 0 false 0 0 0 3
            else
              bif inb v2 a0.length then
                bif inb (IntKind.i64.wrap (v2 + 1)) a0.length then
                  bif decide ((IntKind.i64.wrap ((IntKind.i64.wrap ((IntKind.i64.wrap ((a0.getD v2.toNat 0))) * 256)) + (IntKind.i64.wrap ((a0.getD ((IntKind.i64.wrap (v2 + 1)).toNat) 0))))) ≥ 32768) then
                    bif inb (IntKind.i64.wrap (v2 + 2)) a0.length then
                      bif ((andI .i64 (IntKind.i64.wrap ((a0.getD ((IntKind.i64.wrap (v2 + 2)).toNat) 0))) 121) != 0) then
                        K v1 (IntKind.i64.wrap ((IntKind.i64.wrap ((IntKind.i64.wrap ((IntKind.i64.wrap ((a0.getD v2.toNat 0))) * 256)) + (IntKind.i64.wrap ((a0.getD ((IntKind.i64.wrap (v2 + 1)).toNat) 0))))) - 65536)) false 0 0 0 4
                      else
                        bif ((andI .i64 (shrI .i64 (IntKind.i64.wrap ((a0.getD ((IntKind.i64.wrap (v2 + 2)).toNat) 0))) 1) 3) == 0) then
                          K v1 (IntKind.i64.wrap ((IntKind.i64.wrap ((IntKind.i64.wrap ((IntKind.i64.wrap ((a0.getD v2.toNat 0))) * 256)) + (IntKind.i64.wrap ((a0.getD ((IntKind.i64.wrap (v2 + 1)).toNat) 0))))) - 65536)) (decide ((IntKind.i64.wrap ((a0.getD ((IntKind.i64.wrap (v2 + 2)).toNat) 0))) ≥ 128)) (andI .i64 (shrI .i64 (IntKind.i64.wrap ((a0.getD ((IntKind.i64.wrap (v2 + 2)).toNat) 0))) 1) 3) 1 (IntKind.i64.wrap (v2 + 3)) 0
                        else
                          bif decide ((IntKind.i64.wrap (v2 + 3)) ≥ (a0.length : Int)) then
                            K v1 (IntKind.i64.wrap ((IntKind.i64.wrap ((IntKind.i64.wrap ((IntKind.i64.wrap ((a0.getD v2.toNat 0))) * 256)) + (IntKind.i64.wrap ((a0.getD ((IntKind.i64.wrap (v2 + 1)).toNat) 0))))) - 65536)) (decide ((IntKind.i64.wrap ((a0.getD ((IntKind.i64.wrap (v2 + 2)).toNat) 0))) ≥ 128)) (andI .i64 (shrI .i64 (IntKind.i64.wrap ((a0.getD ((IntKind.i64.wrap (v2 + 2)).toNat) 0))) 1) 3) 0 0 3
                          else
                            bif inb (IntKind.i64.wrap (v2 + 3)) a0.length then
                              bif decide ((IntKind.i64.wrap ((IntKind.i64.wrap ((a0.getD ((IntKind.i64.wrap (v2 + 3)).toNat) 0))) + 1)) > 32) then
                                K v1 (IntKind.i64.wrap ((IntKind.i64.wrap ((IntKind.i64.wrap ((IntKind.i64.wrap ((a0.getD v2.toNat 0))) * 256)) + (IntKind.i64.wrap ((a0.getD ((IntKind.i64.wrap (v2 + 1)).toNat) 0))))) - 65536)) (decide ((IntKind.i64.wrap ((a0.getD ((IntKind.i64.wrap (v2 + 2)).toNat) 0))) ≥ 128)) (andI .i64 (shrI .i64 (IntKind.i64.wrap ((a0.getD ((IntKind.i64.wrap (v2 + 2)).toNat) 0))) 1) 3) 0 0 2
                              else
                                K v1 (IntKind.i64.wrap ((IntKind.i64.wrap ((IntKind.i64.wrap ((IntKind.i64.wrap ((a0.getD v2.toNat 0))) * 256)) + (IntKind.i64.wrap ((a0.getD ((IntKind.i64.wrap (v2 + 1)).toNat) 0))))) - 65536)) (decide ((IntKind.i64.wrap ((a0.getD ((IntKind.i64.wrap (v2 + 2)).toNat) 0))) ≥ 128)) (andI .i64 (shrI .i64 (IntKind.i64.wrap ((a0.getD ((IntKind.i64.wrap (v2 + 2)).toNat) 0))) 1) 3) (IntKind.i64.wrap ((IntKind.i64.wrap ((a0.getD ((IntKind.i64.wrap (v2 + 3)).toNat) 0))) + 1)) (IntKind.i64.wrap ((IntKind.i64.wrap (v2 + 3)) + 1)) 0
                            else
                              none
                    else
                      none
                  else
                    bif inb (IntKind.i64.wrap (v2 + 2)) a0.length then
                      bif ((andI .i64 (IntKind.i64.wrap ((a0.getD ((IntKind.i64.wrap (v2 + 2)).toNat) 0))) 121) != 0) then
                        K v1 (IntKind.i64.wrap ((IntKind.i64.wrap ((IntKind.i64.wrap ((a0.getD v2.toNat 0))) * 256)) + (IntKind.i64.wrap ((a0.getD ((IntKind.i64.wrap (v2 + 1)).toNat) 0))))) false 0 0 0 4
                      else
                        bif ((andI .i64 (shrI .i64 (IntKind.i64.wrap ((a0.getD ((IntKind.i64.wrap (v2 + 2)).toNat) 0))) 1) 3) == 0) then
                          K v1 (IntKind.i64.wrap ((IntKind.i64.wrap ((IntKind.i64.wrap ((a0.getD v2.toNat 0))) * 256)) + (IntKind.i64.wrap ((a0.getD ((IntKind.i64.wrap (v2 + 1)).toNat) 0))))) (decide ((IntKind.i64.wrap ((a0.getD ((IntKind.i64.wrap (v2 + 2)).toNat) 0))) ≥ 128)) (andI .i64 (shrI .i64 (IntKind.i64.wrap ((a0.getD ((IntKind.i64.wrap (v2 + 2)).toNat) 0))) 1) 3) 1 (IntKind.i64.wrap (v2 + 3)) 0
                        else
                          bif decide ((IntKind.i64.wrap (v2 + 3)) ≥ (a0.length : Int)) then
                            K v1 (IntKind.i64.wrap ((IntKind.i64.wrap ((IntKind.i64.wrap ((a0.getD v2.toNat 0))) * 256)) + (IntKind.i64.wrap ((a0.getD ((IntKind.i64.wrap (v2 + 1)).toNat) 0))))) (decide ((IntKind.i64.wrap ((a0.getD ((IntKind.i64.wrap (v2 + 2)).toNat) 0))) ≥ 128)) (andI .i64 (shrI .i64 (IntKind.i64.wrap ((a0.getD ((IntKind.i64.wrap (v2 + 2)).toNat) 0))) 1) 3) 0 0 3
                          else
                            bif inb (IntKind.i64.wrap (v2 + 3)) a0.length then
                              bif decide ((IntKind.i64.wrap ((IntKind.i64.wrap ((a0.getD ((IntKind.i64.wrap (v2 + 3)).toNat) 0))) + 1)) > 32) then
                                K v1 (IntKind.i64.wrap ((IntKind.i64.wrap ((IntKind.i64.wrap ((a0.getD v2.toNat 0))) * 256)) + (IntKind.i64.wrap ((a0.getD ((IntKind.i64.wrap (v2 + 1)).toNat) 0))))) (decide ((IntKind.i64.wrap ((a0.getD ((IntKind.i64.wrap (v2 + 2)).toNat) 0))) ≥ 128)) (andI .i64 (shrI .i64 (IntKind.i64.wrap ((a0.getD ((IntKind.i64.wrap (v2 + 2)).toNat) 0))) 1) 3) 0 0 2
                              else
                                K v1 (IntKind.i64.wrap ((IntKind.i64.wrap ((IntKind.i64.wrap ((a0.getD v2.toNat 0))) * 256)) + (IntKind.i64.wrap ((a0.getD ((IntKind.i64.wrap (v2 + 1)).toNat) 0))))) (decide ((IntKind.i64.wrap ((a0.getD ((IntKind.i64.wrap (v2 + 2)).toNat) 0))) ≥ 128)) (andI .i64 (shrI .i64 (IntKind.i64.wrap ((a0.getD ((IntKind.i64.wrap (v2 + 2)).toNat) 0))) 1) 3) (IntKind.i64.wrap ((IntKind.i64.wrap ((a0.getD ((IntKind.i64.wrap (v2 + 3)).toNat) 0))) + 1)) (IntKind.i64.wrap ((IntKind.i64.wrap (v2 + 3)) + 1)) 0
                            else
                              none
                    else
                      none
                else
                  none
              else
                none)
noncomputable def f57 {R : Type} (k : Nat) (a0 : List Int) (K : Int → Int → Bool → Int → Int → Int → Int → Option R) : Option R := f57_s (f70 (R := R)) k a0 K
noncomputable def f57_o {R : Type} (g_f70 : Nat → List Int → Int → (Int → Int → Bool → Int → Option R) → Option R) (k : Nat) : Orc D R := (orcAdd 70 (f70_d (g_f70 k) noDr) noOrc)
theorem f57_o_ok {R : Type} (k : Nat) : OrcOk Try.prog cx (f57_o (R := R) (f70 (R := R)) k) := (OrcOk.add (f70_ok k FnOk.no) OrcOk.no)
noncomputable def f57_b : Code := bodyOf Try.f57
noncomputable def f57_ann : Nat → Option LAnn := fun _key => none
noncomputable def f57_lrc {R : Type} (_g_f70 : Nat → List Int → Int → (Int → Int → Bool → Int → Option R) → Option R) (_k : Nat) : Lrc D R := noLrc
noncomputable def f57_d {R : Type} (g : List Int → (Int → Int → Bool → Int → Int → Int → Int → Option R) → Option R) (e : Dr D R) : Dr D R := door [.list (.int .u8)] [] (fun (x : (List Int × Unit)) (_y : (Unit)) K => g x.1 (fun z0 z1 z2 z3 z4 z5 z6 => K ⟨.tup [.agg [.int .i64 z0, .int .i64 z1, .bool z2, .int .i64 z3, .nil], .int .i64 z4, .int .i64 z5, .int .i64 z6], []⟩)) e
theorem f57_e {R : Type} (g_f70 : Nat → List Int → Int → (Int → Int → Bool → Int → Option R) → Option R) (k : Nat) (x : (List Int × Unit)) (y : (Unit)) (K : RV D → Option R) : f57_s g_f70 k x.1 (fun z0 z1 z2 z3 z4 z5 z6 => K ⟨.tup [.agg [.int .i64 z0, .int .i64 z1, .bool z2, .int .i64 z3, .nil], .int .i64 z4, .int .i64 z5, .int .i64 z6], []⟩) = exec cx (f57_o g_f70 k) (f57_lrc g_f70 k) f57_ann kp 104 0 f57_b (entry (gives (D := D) [.list (.int .u8)] x) (giveOs (D := D) [] y)) (fin cx Try.f57.results.toList [] 0 K) := by kernel_rfl
theorem f57_ok {R : Type} (k : Nat) {e : Dr D R} (he : FnOk Try.prog cx 57 e) : FnOk Try.prog cx 57 (f57_d (f57 k) e) :=
  he.door fun x y => body_ok (keep := kp) (ann := f57_ann) (lrc := f57_lrc (R := R) (f70 (R := R)) k) (N := 104) (n0 := 0) (c := []) cxOk mixed (f57_o_ok k) (body := f57_b) (by kernel_rfl : Try.prog.funcs[57]? = some Try.f57) (by kernel_rfl) (by kernel_rfl) (by kernel_rfl) (by kernel_rfl) (of_decide_eq_true (by kernel_rfl)) (L := []) (by kernel_rfl) trivial (LrcNat.no) (fun K => f57_e (f70 (R := R)) k x y K)

/-! ## 58: diorama/dioramaref05.runs -/
noncomputable def f58_l6 {R : Type} : Nat → List Int → Int → Int → Int → Int → List Int → (List Int → Int → Int → Int → Int → List Int → Option R) → Option R
  | 0, _, _, _, _, _, _, _ => none
  | k + 1, v6, v7, v8, v9, v10, v11, X0 =>
    bif decide (v8 < (v6.length : Int)) then
      bif inb v8 v6.length then
        bif ((v6.getD v8.toNat 0) == 255) then
          f58_l6 k v6 v7 (IntKind.i64.wrap (v8 + 1)) v9 (IntKind.i64.wrap (v10 + 255)) v11 X0
        else
          X0 v6 v7 v8 v9 v10 v11
      else
        none
    else
      X0 v6 v7 v8 v9 v10 v11
noncomputable def f58_l3 {R : Type} : Nat → List Int → Int → Int → Int → List Int → (Int → List Int → Option R) → (Int → Int → Option R) → Option R
  | 0, _, _, _, _, _, _, _ => none
  | k + 1, v1, v2, v3, v4, v5, X0, X1 =>
    bif decide (v4 < (IntKind.i64.wrap (v2 - 1))) then
      f58_l6 k v1 v2 v3 v4 0 v5 (fun v12 v13 v14 v15 v16 v17 =>
        bif decide (v14 ≥ (v12.length : Int)) then
          X1 0 3
        else
          bif inb v14 v12.length then
            bif room 8 (v17.length + ([(IntKind.i64.wrap (v16 + (IntKind.i64.wrap ((v12.getD v14.toNat 0)))))]).length) then
              f58_l3 k v12 v13 (IntKind.i64.wrap (v14 + 1)) (IntKind.i64.wrap (v15 + 1)) (v17 ++ ([(IntKind.i64.wrap (v16 + (IntKind.i64.wrap ((v12.getD v14.toNat 0)))))])) X0 X1
            else
              none
          else
            none)
    else
      X0 v3 v5
noncomputable def f58_s {R : Type} (k : Nat) (a0 : List Int) (a1 : Int) (a2 : Int) (K : Int → Int → List Int → Option R) : Option R :=
  f58_l3 k a0 a1 a2 0 ([] : List Int) (fun v18 v19 =>
    K v18 0 v19) (fun v20 v21 =>
    K v20 v21 ([] : List Int))
noncomputable def f58 {R : Type} (k : Nat) (a0 : List Int) (a1 : Int) (a2 : Int) (K : Int → Int → List Int → Option R) : Option R := f58_s k a0 a1 a2 K
noncomputable def f58_o {R : Type} (_k : Nat) : Orc D R := noOrc
theorem f58_o_ok {R : Type} (k : Nat) : OrcOk Try.prog cx (f58_o (R := R) k) := OrcOk.no
noncomputable def f58_b : Code := bodyOf Try.f58
noncomputable def f58_l3_a : LAnn := ⟨⟨[(.tmp 9, .own 68719489024 (.int .i64))], [0, 1, 2, 9, 10], [68719489024]⟩, exOf (some ⟨[], [6, 7, 8], []⟩) [(0, ⟨[], [2, 9], [68719489024]⟩)]⟩
noncomputable def f58_l6_a : LAnn := ⟨⟨[(.tmp 9, .own 68719501312 (.int .i64))], [0, 1, 2, 9, 10, 11], [68719501312]⟩, exOf (none) [(2, ⟨[(.tmp 9, .own 68719502336 (.int .i64))], [0, 1, 2, 9, 10, 11], [68719502336]⟩)]⟩
noncomputable def f58_ann : Nat → Option LAnn := fun key => bif Nat.beq key 6 then some f58_l6_a else bif Nat.beq key 3 then some f58_l3_a else none
noncomputable def f58_l6_b : Code := loopAt f58_b 1
noncomputable def f58_l6_g {R : Type} (k : Nat) (x : (List Int × Int × Int × Unit × Int × Int × Unit)) (y : (List Int × Unit)) (K : Ex → List (PV D) → List (Option (Am.Obj D)) → Option R) : Option R := f58_l6 k x.1 x.2.1 x.2.2.1 x.2.2.2.2.1 x.2.2.2.2.2.1 y.1 (fun z0 z1 z2 z3 z4 z5 => K (.exit 2) [.list (.int .u8) z0, .int .i64 z1, .int .i64 z2, .own 68719502336, .int .i64 z3, .int .i64 z4] [some (.row (.int .i64) z5 true)])
noncomputable def f58_l6_d {R : Type} (k : Nat) : Lr D R := ldoor [.list (.int .u8), .int .i64, .int .i64, .own 68719501312, .int .i64, .int .i64] [some (.row (.int .i64) true)] (f58_l6_g k)
noncomputable def f58_l6_lrc {R : Type} (_k : Nat) : Lrc D R := noLrc
theorem f58_l6_e {R : Type} (k : Nat) (x : (List Int × Int × Int × Unit × Int × Int × Unit)) (y : (List Int × Unit)) (K : Ex → List (PV D) → List (Option (Am.Obj D)) → Option R) : f58_l6_g (k + 1) x y K = round cx (f58_o k) (f58_l6_lrc k) f58_ann kp 51 0 f58_l6_a f58_l6_b (gives (D := D) [.list (.int .u8), .int .i64, .int .i64, .own 68719501312, .int .i64, .int .i64] x) (giveGs (D := D) [some (.row (.int .i64) true)] y) (fun vs os => f58_l6_d k vs os K) K := by kernel_rfl
theorem f58_l6_d_ok {R : Type} : ∀ k, LoopOk Try.prog cx 51 0 f58_ann (f58_l6_d (R := R) k) f58_l6_b :=
  loop_ok (keep := kp) (lrc := f58_l6_lrc (R := R)) cxOk mixed f58_o_ok (show f58_ann (Am.keyOf f58_l6_b) = some f58_l6_a by kernel_rfl) (L := []) (by kernel_rfl) (fun k => trivial) (fun k => LrcNat.no) (fun x y K => by kernel_rfl) (f58_l6_e)
noncomputable def f58_l3_b : Code := loopAt f58_b 0
noncomputable def f58_l3_g {R : Type} (k : Nat) (x : (List Int × Int × Int × Unit × Int × Unit)) (y : (List Int × Unit)) (K : Ex → List (PV D) → List (Option (Am.Obj D)) → Option R) : Option R := f58_l3 k x.1 x.2.1 x.2.2.1 x.2.2.2.2.1 y.1 (fun z0 z1 => K (.exit 0) [.int .i64 z0, .own 68719489024] [some (.row (.int .i64) z1 true)]) (fun z0 z1 => K (.ret) [.nil, .int .i64 z0, .int .i64 z1] [])
noncomputable def f58_l3_d {R : Type} (k : Nat) : Lr D R := ldoor [.list (.int .u8), .int .i64, .int .i64, .own 68719489024, .int .i64] [some (.row (.int .i64) true)] (f58_l3_g k)
noncomputable def f58_l3_lrc {R : Type} (k : Nat) : Lrc D R := (lrcAdd 6 (f58_l6_d k) noLrc)
theorem f58_l3_e {R : Type} (k : Nat) (x : (List Int × Int × Int × Unit × Int × Unit)) (y : (List Int × Unit)) (K : Ex → List (PV D) → List (Option (Am.Obj D)) → Option R) : f58_l3_g (k + 1) x y K = round cx (f58_o k) (f58_l3_lrc k) f58_ann kp 51 0 f58_l3_a f58_l3_b (gives (D := D) [.list (.int .u8), .int .i64, .int .i64, .own 68719489024, .int .i64] x) (giveGs (D := D) [some (.row (.int .i64) true)] y) (fun vs os => f58_l3_d k vs os K) K := by kernel_rfl
theorem f58_l3_d_ok {R : Type} : ∀ k, LoopOk Try.prog cx 51 0 f58_ann (f58_l3_d (R := R) k) f58_l3_b :=
  loop_ok (keep := kp) (lrc := f58_l3_lrc (R := R)) cxOk mixed f58_o_ok (show f58_ann (Am.keyOf f58_l3_b) = some f58_l3_a by kernel_rfl) (L := [f58_l6_b]) (by kernel_rfl) (fun k => ⟨(f58_l6_d_ok k).use (by kernel_rfl), trivial⟩) (fun k => (LrcNat.add (f58_l6_d_ok k).2 LrcNat.no)) (fun x y K => by kernel_rfl) (f58_l3_e)
noncomputable def f58_lrc {R : Type} (k : Nat) : Lrc D R := (lrcAdd 6 (f58_l6_d k) (lrcAdd 3 (f58_l3_d k) noLrc))
noncomputable def f58_d {R : Type} (g : List Int → Int → Int → (Int → Int → List Int → Option R) → Option R) (e : Dr D R) : Dr D R := door [.list (.int .u8), .int .i64, .int .i64] [] (fun (x : (List Int × Int × Int × Unit)) (_y : (Unit)) K => g x.1 x.2.1 x.2.2.1 (fun z0 z1 z2 => K ⟨.tup [.own 0, .int .i64 z0, .int .i64 z1], [some (.row (.int .i64) z2 true)]⟩)) e
theorem f58_e {R : Type} (k : Nat) (x : (List Int × Int × Int × Unit)) (y : (Unit)) (K : RV D → Option R) : f58_s k x.1 x.2.1 x.2.2.1 (fun z0 z1 z2 => K ⟨.tup [.own 0, .int .i64 z0, .int .i64 z1], [some (.row (.int .i64) z2 true)]⟩) = exec cx (f58_o k) (f58_lrc k) f58_ann kp 51 0 f58_b (entry (gives (D := D) [.list (.int .u8), .int .i64, .int .i64] x) (giveOs (D := D) [] y)) (fin cx Try.f58.results.toList [(.tmp 6, .own 1099511627776 (.int .i64))] 0 K) := by kernel_rfl
theorem f58_ok {R : Type} (k : Nat) {e : Dr D R} (he : FnOk Try.prog cx 58 e) : FnOk Try.prog cx 58 (f58_d (f58 k) e) :=
  he.door fun x y => body_ok (keep := kp) (ann := f58_ann) (lrc := f58_lrc (R := R) k) (N := 51) (n0 := 0) (c := [(.tmp 6, .own 1099511627776 (.int .i64))]) cxOk mixed (f58_o_ok k) (body := f58_b) (by kernel_rfl : Try.prog.funcs[58]? = some Try.f58) (by kernel_rfl) (by kernel_rfl) (by kernel_rfl) (by kernel_rfl) (of_decide_eq_true (by kernel_rfl)) (L := [f58_l3_b, f58_l6_b]) (by kernel_rfl) ⟨(f58_l3_d_ok k).use (by kernel_rfl), (f58_l6_d_ok k).use (by kernel_rfl), trivial⟩ ((LrcNat.add (f58_l6_d_ok k).2 (LrcNat.add (f58_l3_d_ok k).2 LrcNat.no))) (fun K => f58_e k x y K)

/-! ## 60: diorama/dioramaref05.fit -/
noncomputable def f60_l2 {R : Type} : Nat → Int → Int → List Int → (Int → List Int → Option R) → (Int → List Int → Option R) → Option R
  | 0, _, _, _, _, _ => none
  | k + 1, v1, v2, v3, X0, X1 =>
    bif decide (v2 < (v3.length : Int)) then
      bif inb v2 v3.length then
        bif decide ((v3.getD v2.toNat 0) < 0) then
          X1 50 v3
        else
          bif inb v2 v3.length then
            bif decide ((v3.getD v2.toNat 0) > v1) then
              X1 3 v3
            else
              bif inb v2 v3.length then
                bif decide ((v3.getD v2.toNat 0) > 65536) then
                  X1 2 v3
                else
                  bif inb v2 v3.length then
                    f60_l2 k (IntKind.i64.wrap (v1 - (v3.getD v2.toNat 0))) (IntKind.i64.wrap (v2 + 1)) v3 X0 X1
                  else
                    none
              else
                none
          else
            none
      else
        none
    else
      X0 v1 v3
noncomputable def f60_s {R : Type} (k : Nat) (a0 : Int) (a1 : List Int) (K : Int → List Int → Option R) : Option R :=
  f60_l2 k a0 0 a1 (fun v4 v5 =>
    bif decide (v4 > 65536) then
      K 2 ([] : List Int)
    else
      bif room 8 (v5.length + ([v4]).length) then
        K 0 (v5 ++ ([v4]))
      else
        none) (fun v6 _v7 =>
    K v6 ([] : List Int))
noncomputable def f60 {R : Type} (k : Nat) (a0 : Int) (a1 : List Int) (K : Int → List Int → Option R) : Option R := f60_s k a0 a1 K
noncomputable def f60_o {R : Type} (_k : Nat) : Orc D R := noOrc
theorem f60_o_ok {R : Type} (k : Nat) : OrcOk Try.prog cx (f60_o (R := R) k) := OrcOk.no
noncomputable def f60_b : Code := bodyOf Try.f60
noncomputable def f60_l2_a : LAnn := ⟨⟨[], [0, 1, 6], [0]⟩, exOf (some ⟨[], [4, 5], [0]⟩) [(0, ⟨[], [0, 1], [0]⟩)]⟩
noncomputable def f60_ann : Nat → Option LAnn := fun key => bif Nat.beq key 2 then some f60_l2_a else none
noncomputable def f60_l2_b : Code := loopAt f60_b 0
noncomputable def f60_l2_g {R : Type} (k : Nat) (x : (Unit × Int × Int × Unit)) (y : (List Int × Unit)) (K : Ex → List (PV D) → List (Option (Am.Obj D)) → Option R) : Option R := f60_l2 k x.2.1 x.2.2.1 y.1 (fun z0 z1 => K (.exit 0) [.own 0, .int .i64 z0] [some (.row (.int .i64) z1 true)]) (fun z0 z1 => K (.ret) [.nil, .int .i64 z0] [some (.row (.int .i64) z1 true)])
noncomputable def f60_l2_d {R : Type} (k : Nat) : Lr D R := ldoor [.own 0, .int .i64, .int .i64] [some (.row (.int .i64) true)] (f60_l2_g k)
noncomputable def f60_l2_lrc {R : Type} (_k : Nat) : Lrc D R := noLrc
theorem f60_l2_e {R : Type} (k : Nat) (x : (Unit × Int × Int × Unit)) (y : (List Int × Unit)) (K : Ex → List (PV D) → List (Option (Am.Obj D)) → Option R) : f60_l2_g (k + 1) x y K = round cx (f60_o k) (f60_l2_lrc k) f60_ann kp 41 1 f60_l2_a f60_l2_b (gives (D := D) [.own 0, .int .i64, .int .i64] x) (giveGs (D := D) [some (.row (.int .i64) true)] y) (fun vs os => f60_l2_d k vs os K) K := by kernel_rfl
theorem f60_l2_d_ok {R : Type} : ∀ k, LoopOk Try.prog cx 41 1 f60_ann (f60_l2_d (R := R) k) f60_l2_b :=
  loop_ok (keep := kp) (lrc := f60_l2_lrc (R := R)) cxOk mixed f60_o_ok (show f60_ann (Am.keyOf f60_l2_b) = some f60_l2_a by kernel_rfl) (L := []) (by kernel_rfl) (fun k => trivial) (fun k => LrcNat.no) (fun x y K => by kernel_rfl) (f60_l2_e)
noncomputable def f60_lrc {R : Type} (k : Nat) : Lrc D R := (lrcAdd 2 (f60_l2_d k) noLrc)
noncomputable def f60_d {R : Type} (g : Int → List Int → (Int → List Int → Option R) → Option R) (e : Dr D R) : Dr D R := door [.own 0, .int .i64] [.row (.int .i64) true] (fun (x : (Unit × Int × Unit)) (y : (List Int × Unit)) K => g x.2.1 y.1 (fun z0 z1 => K ⟨.tup [.own 1, .int .i64 z0], [none, some (.row (.int .i64) z1 true)]⟩)) e
theorem f60_e {R : Type} (k : Nat) (x : (Unit × Int × Unit)) (y : (List Int × Unit)) (K : RV D → Option R) : f60_s k x.2.1 y.1 (fun z0 z1 => K ⟨.tup [.own 1, .int .i64 z0], [none, some (.row (.int .i64) z1 true)]⟩) = exec cx (f60_o k) (f60_lrc k) f60_ann kp 41 1 f60_b (entry (gives (D := D) [.own 0, .int .i64] x) (giveOs (D := D) [.row (.int .i64) true] y)) (fin cx Try.f60.results.toList [(.tmp 4, .own 1099511627776 (.int .i64)), (.cell 0 0, .drop)] 1 K) := by kernel_rfl
theorem f60_ok {R : Type} (k : Nat) {e : Dr D R} (he : FnOk Try.prog cx 60 e) : FnOk Try.prog cx 60 (f60_d (f60 k) e) :=
  he.door fun x y => body_ok (keep := kp) (ann := f60_ann) (lrc := f60_lrc (R := R) k) (N := 41) (n0 := 1) (c := [(.tmp 4, .own 1099511627776 (.int .i64)), (.cell 0 0, .drop)]) cxOk mixed (f60_o_ok k) (body := f60_b) (by kernel_rfl : Try.prog.funcs[60]? = some Try.f60) (by kernel_rfl) (by kernel_rfl) (by kernel_rfl) (by kernel_rfl) (of_decide_eq_true (by kernel_rfl)) (L := [f60_l2_b]) (by kernel_rfl) ⟨(f60_l2_d_ok k).use (by kernel_rfl), trivial⟩ ((LrcNat.add (f60_l2_d_ok k).2 LrcNat.no)) (fun K => f60_e k x y K)

/-! ## 71: diorama/dioramaref01.Signed -/
noncomputable def f71_s {R : Type} (g_f63 : Nat → Int → (Int → Option R) → Option R) (g_f70 : Nat → List Int → Int → (Int → Int → Bool → Int → Option R) → Option R) (k : Nat) (a0 : List Int) (a1 : Int) (K : Int → Int → Int → Option R) : Option R :=
  g_f70 k a0 a1 (fun v1 v2 v3 v4 =>
    bif (v4 != 0) then
      K 0 0 v4
    else
      bif v3 then
        K 0 0 4
      else
        g_f63 k v2 (fun v5 =>
          K (IntKind.i64.wrap (v1 - v5)) v2 0))
noncomputable def f71 {R : Type} (k : Nat) (a0 : List Int) (a1 : Int) (K : Int → Int → Int → Option R) : Option R := f71_s (f63 (R := R)) (f70 (R := R)) k a0 a1 K
noncomputable def f71_o {R : Type} (g_f63 : Nat → Int → (Int → Option R) → Option R) (g_f70 : Nat → List Int → Int → (Int → Int → Bool → Int → Option R) → Option R) (k : Nat) : Orc D R := (orcAdd 70 (f70_d (g_f70 k) noDr) (orcAdd 63 (f63_d (g_f63 k) noDr) noOrc))
theorem f71_o_ok {R : Type} (k : Nat) : OrcOk Try.prog cx (f71_o (R := R) (f63 (R := R)) (f70 (R := R)) k) := (OrcOk.add (f70_ok k FnOk.no) (OrcOk.add (f63_ok k FnOk.no) OrcOk.no))
noncomputable def f71_b : Code := bodyOf Try.f71
noncomputable def f71_ann : Nat → Option LAnn := fun _key => none
noncomputable def f71_lrc {R : Type} (_g_f63 : Nat → Int → (Int → Option R) → Option R) (_g_f70 : Nat → List Int → Int → (Int → Int → Bool → Int → Option R) → Option R) (_k : Nat) : Lrc D R := noLrc
noncomputable def f71_d {R : Type} (g : List Int → Int → (Int → Int → Int → Option R) → Option R) (e : Dr D R) : Dr D R := door [.list (.int .u8), .int .i64] [] (fun (x : (List Int × Int × Unit)) (_y : (Unit)) K => g x.1 x.2.1 (fun z0 z1 z2 => K ⟨.tup [.int .i64 z0, .int .i64 z1, .int .i64 z2], []⟩)) e
theorem f71_e {R : Type} (g_f63 : Nat → Int → (Int → Option R) → Option R) (g_f70 : Nat → List Int → Int → (Int → Int → Bool → Int → Option R) → Option R) (k : Nat) (x : (List Int × Int × Unit)) (y : (Unit)) (K : RV D → Option R) : f71_s g_f63 g_f70 k x.1 x.2.1 (fun z0 z1 z2 => K ⟨.tup [.int .i64 z0, .int .i64 z1, .int .i64 z2], []⟩) = exec cx (f71_o g_f63 g_f70 k) (f71_lrc g_f63 g_f70 k) f71_ann kp 28 0 f71_b (entry (gives (D := D) [.list (.int .u8), .int .i64] x) (giveOs (D := D) [] y)) (fin cx Try.f71.results.toList [] 0 K) := by kernel_rfl
theorem f71_ok {R : Type} (k : Nat) {e : Dr D R} (he : FnOk Try.prog cx 71 e) : FnOk Try.prog cx 71 (f71_d (f71 k) e) :=
  he.door fun x y => body_ok (keep := kp) (ann := f71_ann) (lrc := f71_lrc (R := R) (f63 (R := R)) (f70 (R := R)) k) (N := 28) (n0 := 0) (c := []) cxOk mixed (f71_o_ok k) (body := f71_b) (by kernel_rfl : Try.prog.funcs[71]? = some Try.f71) (by kernel_rfl) (by kernel_rfl) (by kernel_rfl) (by kernel_rfl) (of_decide_eq_true (by kernel_rfl)) (L := []) (by kernel_rfl) trivial (LrcNat.no) (fun K => f71_e (f63 (R := R)) (f70 (R := R)) k x y K)

/-! ## 59: diorama/dioramaref05.diffs -/
noncomputable def f59_l3 {R : Type} (g_f70 : Nat → List Int → Int → (Int → Int → Bool → Int → Option R) → Option R) (g_f71 : Nat → List Int → Int → (Int → Int → Int → Option R) → Option R) : Nat → List Int → Int → Int → Int → List Int → (Int → List Int → Option R) → (Int → Int → Option R) → Option R
  | 0, _, _, _, _, _, _, _ => none
  | k + 1, v1, v2, v3, v4, v5, X0, X1 =>
    bif decide (v4 < (IntKind.i64.wrap (v2 - 1))) then
      bif (v4 == 0) then
        g_f70 k v1 v3 (fun v6 v7 v8 v9 =>
          bif (v9 != 0) then
            X1 0 v9
          else
            bif v8 then
              X1 0 4
            else
              bif decide (v4 > 0) then
                bif inb (IntKind.i64.wrap (v4 - 1)) v5.length then
                  bif room 8 (v5.length + ([(IntKind.i64.wrap (v6 + (v5.getD ((IntKind.i64.wrap (v4 - 1)).toNat) 0)))]).length) then
                    f59_l3 g_f70 g_f71 k v1 v2 (IntKind.i64.wrap (v3 + v7)) (IntKind.i64.wrap (v4 + 1)) (v5 ++ ([(IntKind.i64.wrap (v6 + (v5.getD ((IntKind.i64.wrap (v4 - 1)).toNat) 0)))])) X0 X1
                  else
                    none
                else
                  none
              else
                bif room 8 (v5.length + ([v6]).length) then
                  f59_l3 g_f70 g_f71 k v1 v2 (IntKind.i64.wrap (v3 + v7)) (IntKind.i64.wrap (v4 + 1)) (v5 ++ ([v6])) X0 X1
                else
                  none)
      else
        g_f71 k v1 v3 (fun v10 v11 v12 =>
          bif (v12 != 0) then
            X1 0 v12
          else
            bif decide (v4 > 0) then
              bif inb (IntKind.i64.wrap (v4 - 1)) v5.length then
                bif room 8 (v5.length + ([(IntKind.i64.wrap (v10 + (v5.getD ((IntKind.i64.wrap (v4 - 1)).toNat) 0)))]).length) then
                  f59_l3 g_f70 g_f71 k v1 v2 (IntKind.i64.wrap (v3 + v11)) (IntKind.i64.wrap (v4 + 1)) (v5 ++ ([(IntKind.i64.wrap (v10 + (v5.getD ((IntKind.i64.wrap (v4 - 1)).toNat) 0)))])) X0 X1
                else
                  none
              else
                none
            else
              bif room 8 (v5.length + ([v10]).length) then
                f59_l3 g_f70 g_f71 k v1 v2 (IntKind.i64.wrap (v3 + v11)) (IntKind.i64.wrap (v4 + 1)) (v5 ++ ([v10])) X0 X1
              else
                none)
    else
      X0 v3 v5
noncomputable def f59_s {R : Type} (g_f70 : Nat → List Int → Int → (Int → Int → Bool → Int → Option R) → Option R) (g_f71 : Nat → List Int → Int → (Int → Int → Int → Option R) → Option R) (k : Nat) (a0 : List Int) (a1 : Int) (a2 : Int) (K : Int → Int → List Int → Option R) : Option R :=
  f59_l3 g_f70 g_f71 k a0 a1 a2 0 ([] : List Int) (fun v13 v14 =>
    K v13 0 v14) (fun v15 v16 =>
    K v15 v16 ([] : List Int))
noncomputable def f59 {R : Type} (k : Nat) (a0 : List Int) (a1 : Int) (a2 : Int) (K : Int → Int → List Int → Option R) : Option R := f59_s (f70 (R := R)) (f71 (R := R)) k a0 a1 a2 K
noncomputable def f59_o {R : Type} (g_f70 : Nat → List Int → Int → (Int → Int → Bool → Int → Option R) → Option R) (g_f71 : Nat → List Int → Int → (Int → Int → Int → Option R) → Option R) (k : Nat) : Orc D R := (orcAdd 71 (f71_d (g_f71 k) noDr) (orcAdd 70 (f70_d (g_f70 k) noDr) noOrc))
theorem f59_o_ok {R : Type} (k : Nat) : OrcOk Try.prog cx (f59_o (R := R) (f70 (R := R)) (f71 (R := R)) k) := (OrcOk.add (f71_ok k FnOk.no) (OrcOk.add (f70_ok k FnOk.no) OrcOk.no))
noncomputable def f59_b : Code := bodyOf Try.f59
noncomputable def f59_l3_a : LAnn := ⟨⟨[(.tmp 9, .own 68719489024 (.int .i64))], [0, 1, 2, 9, 10], [68719489024]⟩, exOf (some ⟨[], [6, 7, 8], []⟩) [(0, ⟨[], [2, 9], [68719489024]⟩)]⟩
noncomputable def f59_ann : Nat → Option LAnn := fun key => bif Nat.beq key 3 then some f59_l3_a else none
noncomputable def f59_l3_b : Code := loopAt f59_b 0
noncomputable def f59_l3_g {R : Type} (g_f70 : Nat → List Int → Int → (Int → Int → Bool → Int → Option R) → Option R) (g_f71 : Nat → List Int → Int → (Int → Int → Int → Option R) → Option R) (k : Nat) (x : (List Int × Int × Int × Unit × Int × Unit)) (y : (List Int × Unit)) (K : Ex → List (PV D) → List (Option (Am.Obj D)) → Option R) : Option R := f59_l3 g_f70 g_f71 k x.1 x.2.1 x.2.2.1 x.2.2.2.2.1 y.1 (fun z0 z1 => K (.exit 0) [.int .i64 z0, .own 68719489024] [some (.row (.int .i64) z1 true)]) (fun z0 z1 => K (.ret) [.nil, .int .i64 z0, .int .i64 z1] [])
noncomputable def f59_l3_d {R : Type} (g_f70 : Nat → List Int → Int → (Int → Int → Bool → Int → Option R) → Option R) (g_f71 : Nat → List Int → Int → (Int → Int → Int → Option R) → Option R) (k : Nat) : Lr D R := ldoor [.list (.int .u8), .int .i64, .int .i64, .own 68719489024, .int .i64] [some (.row (.int .i64) true)] (f59_l3_g g_f70 g_f71 k)
noncomputable def f59_l3_lrc {R : Type} (_g_f70 : Nat → List Int → Int → (Int → Int → Bool → Int → Option R) → Option R) (_g_f71 : Nat → List Int → Int → (Int → Int → Int → Option R) → Option R) (_k : Nat) : Lrc D R := noLrc
theorem f59_l3_e {R : Type} (g_f70 : Nat → List Int → Int → (Int → Int → Bool → Int → Option R) → Option R) (g_f71 : Nat → List Int → Int → (Int → Int → Int → Option R) → Option R) (k : Nat) (x : (List Int × Int × Int × Unit × Int × Unit)) (y : (List Int × Unit)) (K : Ex → List (PV D) → List (Option (Am.Obj D)) → Option R) : f59_l3_g g_f70 g_f71 (k + 1) x y K = round cx (f59_o g_f70 g_f71 k) (f59_l3_lrc g_f70 g_f71 k) f59_ann kp 60 0 f59_l3_a f59_l3_b (gives (D := D) [.list (.int .u8), .int .i64, .int .i64, .own 68719489024, .int .i64] x) (giveGs (D := D) [some (.row (.int .i64) true)] y) (fun vs os => f59_l3_d g_f70 g_f71 k vs os K) K := by kernel_rfl
theorem f59_l3_d_ok {R : Type} : ∀ k, LoopOk Try.prog cx 60 0 f59_ann (f59_l3_d (R := R) (f70 (R := R)) (f71 (R := R)) k) f59_l3_b :=
  loop_ok (keep := kp) (lrc := f59_l3_lrc (R := R) (f70 (R := R)) (f71 (R := R))) cxOk mixed f59_o_ok (show f59_ann (Am.keyOf f59_l3_b) = some f59_l3_a by kernel_rfl) (L := []) (by kernel_rfl) (fun k => trivial) (fun k => LrcNat.no) (fun x y K => by kernel_rfl) (f59_l3_e (f70 (R := R)) (f71 (R := R)))
noncomputable def f59_lrc {R : Type} (g_f70 : Nat → List Int → Int → (Int → Int → Bool → Int → Option R) → Option R) (g_f71 : Nat → List Int → Int → (Int → Int → Int → Option R) → Option R) (k : Nat) : Lrc D R := (lrcAdd 3 (f59_l3_d g_f70 g_f71 k) noLrc)
noncomputable def f59_d {R : Type} (g : List Int → Int → Int → (Int → Int → List Int → Option R) → Option R) (e : Dr D R) : Dr D R := door [.list (.int .u8), .int .i64, .int .i64] [] (fun (x : (List Int × Int × Int × Unit)) (_y : (Unit)) K => g x.1 x.2.1 x.2.2.1 (fun z0 z1 z2 => K ⟨.tup [.own 0, .int .i64 z0, .int .i64 z1], [some (.row (.int .i64) z2 true)]⟩)) e
theorem f59_e {R : Type} (g_f70 : Nat → List Int → Int → (Int → Int → Bool → Int → Option R) → Option R) (g_f71 : Nat → List Int → Int → (Int → Int → Int → Option R) → Option R) (k : Nat) (x : (List Int × Int × Int × Unit)) (y : (Unit)) (K : RV D → Option R) : f59_s g_f70 g_f71 k x.1 x.2.1 x.2.2.1 (fun z0 z1 z2 => K ⟨.tup [.own 0, .int .i64 z0, .int .i64 z1], [some (.row (.int .i64) z2 true)]⟩) = exec cx (f59_o g_f70 g_f71 k) (f59_lrc g_f70 g_f71 k) f59_ann kp 60 0 f59_b (entry (gives (D := D) [.list (.int .u8), .int .i64, .int .i64] x) (giveOs (D := D) [] y)) (fin cx Try.f59.results.toList [(.tmp 6, .own 1099511627776 (.int .i64))] 0 K) := by kernel_rfl
theorem f59_ok {R : Type} (k : Nat) {e : Dr D R} (he : FnOk Try.prog cx 59 e) : FnOk Try.prog cx 59 (f59_d (f59 k) e) :=
  he.door fun x y => body_ok (keep := kp) (ann := f59_ann) (lrc := f59_lrc (R := R) (f70 (R := R)) (f71 (R := R)) k) (N := 60) (n0 := 0) (c := [(.tmp 6, .own 1099511627776 (.int .i64))]) cxOk mixed (f59_o_ok k) (body := f59_b) (by kernel_rfl : Try.prog.funcs[59]? = some Try.f59) (by kernel_rfl) (by kernel_rfl) (by kernel_rfl) (by kernel_rfl) (of_decide_eq_true (by kernel_rfl)) (L := [f59_l3_b]) (by kernel_rfl) ⟨(f59_l3_d_ok k).use (by kernel_rfl), trivial⟩ ((LrcNat.add (f59_l3_d_ok k).2 LrcNat.no)) (fun K => f59_e (f70 (R := R)) (f71 (R := R)) k x y K)

/-! ## 60: diorama/dioramaref05.fit -/
noncomputable def f60_2_l2 {R : Type} : Nat → Int → Int → (Int → Option R) → Option R
  | 0, _, _, _ => none
  | _k + 1, v1, v2, X0 =>
    bif decide (v2 < 0) then
      none
    else
      X0 v1
noncomputable def f60_2_s {R : Type} (k : Nat) (a0 : Int) (K : Int → List Int → Option R) : Option R :=
  f60_2_l2 k a0 0 (fun v3 =>
    bif decide (v3 > 65536) then
      K 2 ([] : List Int)
    else
      bif room 8 (([v3]).length) then
        K 0 ([v3])
      else
        none)
noncomputable def f60_2 {R : Type} (k : Nat) (a0 : Int) (K : Int → List Int → Option R) : Option R := f60_2_s k a0 K
noncomputable def f60_2_o {R : Type} (_k : Nat) : Orc D R := noOrc
theorem f60_2_o_ok {R : Type} (k : Nat) : OrcOk Try.prog cx (f60_2_o (R := R) k) := OrcOk.no
noncomputable def f60_2_b : Code := bodyOf Try.f60
noncomputable def f60_2_l2_a : LAnn := ⟨⟨[], [0, 1, 6], []⟩, exOf (none) [(0, ⟨[], [0, 1], []⟩)]⟩
noncomputable def f60_2_ann : Nat → Option LAnn := fun key => bif Nat.beq key 2 then some f60_2_l2_a else none
noncomputable def f60_2_l2_b : Code := loopAt f60_2_b 0
noncomputable def f60_2_l2_g {R : Type} (k : Nat) (x : (Unit × Int × Int × Unit)) (_y : (Unit)) (K : Ex → List (PV D) → List (Option (Am.Obj D)) → Option R) : Option R := f60_2_l2 k x.2.1 x.2.2.1 (fun z0 => K (.exit 0) [.nil, .int .i64 z0] [])
noncomputable def f60_2_l2_d {R : Type} (k : Nat) : Lr D R := ldoor [.nil, .int .i64, .int .i64] [] (f60_2_l2_g k)
noncomputable def f60_2_l2_lrc {R : Type} (_k : Nat) : Lrc D R := noLrc
theorem f60_2_l2_e {R : Type} (k : Nat) (x : (Unit × Int × Int × Unit)) (y : (Unit)) (K : Ex → List (PV D) → List (Option (Am.Obj D)) → Option R) : f60_2_l2_g (k + 1) x y K = round cx (f60_2_o k) (f60_2_l2_lrc k) f60_2_ann kp 41 0 f60_2_l2_a f60_2_l2_b (gives (D := D) [.nil, .int .i64, .int .i64] x) (giveGs (D := D) [] y) (fun vs os => f60_2_l2_d k vs os K) K := by kernel_rfl
theorem f60_2_l2_d_ok {R : Type} : ∀ k, LoopOk Try.prog cx 41 0 f60_2_ann (f60_2_l2_d (R := R) k) f60_2_l2_b :=
  loop_ok (keep := kp) (lrc := f60_2_l2_lrc (R := R)) cxOk mixed f60_2_o_ok (show f60_2_ann (Am.keyOf f60_2_l2_b) = some f60_2_l2_a by kernel_rfl) (L := []) (by kernel_rfl) (fun k => trivial) (fun k => LrcNat.no) (fun x y K => by kernel_rfl) (f60_2_l2_e)
noncomputable def f60_2_lrc {R : Type} (k : Nat) : Lrc D R := (lrcAdd 2 (f60_2_l2_d k) noLrc)
noncomputable def f60_2_d {R : Type} (g : Int → (Int → List Int → Option R) → Option R) (e : Dr D R) : Dr D R := door [.nil, .int .i64] [] (fun (x : (Unit × Int × Unit)) (_y : (Unit)) K => g x.2.1 (fun z0 z1 => K ⟨.tup [.own 0, .int .i64 z0], [some (.row (.int .i64) z1 true)]⟩)) e
theorem f60_2_e {R : Type} (k : Nat) (x : (Unit × Int × Unit)) (y : (Unit)) (K : RV D → Option R) : f60_2_s k x.2.1 (fun z0 z1 => K ⟨.tup [.own 0, .int .i64 z0], [some (.row (.int .i64) z1 true)]⟩) = exec cx (f60_2_o k) (f60_2_lrc k) f60_2_ann kp 41 0 f60_2_b (entry (gives (D := D) [.nil, .int .i64] x) (giveOs (D := D) [] y)) (fin cx Try.f60.results.toList [(.tmp 4, .own 1099511627776 (.int .i64))] 0 K) := by kernel_rfl
theorem f60_2_ok {R : Type} (k : Nat) {e : Dr D R} (he : FnOk Try.prog cx 60 e) : FnOk Try.prog cx 60 (f60_2_d (f60_2 k) e) :=
  he.door fun x y => body_ok (keep := kp) (ann := f60_2_ann) (lrc := f60_2_lrc (R := R) k) (N := 41) (n0 := 0) (c := [(.tmp 4, .own 1099511627776 (.int .i64))]) cxOk mixed (f60_2_o_ok k) (body := f60_2_b) (by kernel_rfl : Try.prog.funcs[60]? = some Try.f60) (by kernel_rfl) (by kernel_rfl) (by kernel_rfl) (by kernel_rfl) (of_decide_eq_true (by kernel_rfl)) (L := [f60_2_l2_b]) (by kernel_rfl) ⟨(f60_2_l2_d_ok k).use (by kernel_rfl), trivial⟩ ((LrcNat.add (f60_2_l2_d_ok k).2 LrcNat.no)) (fun K => f60_2_e k x y K)


end Go.Proofs.Ytnmoccdnkpkhhaa

/-! What the functions do, as plain functions; and that they do. -/
namespace Go.Proofs.Ytnmoccdnkpkhhaa
open Go Go.Am
/-! ## 41: diorama/dioramaref05.sizes -/
noncomputable def f41_l15 {R : Type} (g_f57 : Nat → List Int → (Int → Int → Bool → Int → Int → Int → Int → Option R) → Option R) (g_f58 : Nat → List Int → Int → Int → (Int → Int → List Int → Option R) → Option R) (g_f60 : Nat → Int → List Int → (Int → List Int → Option R) → Option R) (g_f59 : Nat → List Int → Int → Int → (Int → Int → List Int → Option R) → Option R) (g_f60_2 : Nat → Int → (Int → List Int → Option R) → Option R) : Nat → List Int → Int → Int → Int → Int → Int → Int → Int → Bool → Int → Int → Int → Bool → Int → List Int → (List Int → Int → Int → Int → Int → Bool → Int → Int → Int → Bool → Int → List Int → Option R) → Option R
  | 0, _, _, _, _, _, _, _, _, _, _, _, _, _, _, _, _ => none
  | k + 1, v18, v19, v20, v21, v22, v23, v24, v25, v26, v27, v28, v29, v30, v31, v32, X0 =>
    bif decide (v23 < (IntKind.i64.wrap (v19 - 1))) then
      bif decide (v19 = 0) then
        none
      else
        bif room 8 (v32.length + ([(IntKind.i64.wrap (v22.tdiv v19))]).length) then
          f41_l15 g_f57 g_f58 g_f60 g_f59 g_f60_2 k v18 v19 v20 v21 v22 (IntKind.i64.wrap (v23 + 1)) v24 v25 v26 v27 v28 v29 v30 v31 (v32 ++ ([(IntKind.i64.wrap (v22.tdiv v19))])) X0
        else
          none
    else
      X0 v18 v20 v21 v24 v25 v26 v27 v28 v29 v30 v31 v32
noncomputable def f41_s {R : Type} (g_f57 : Nat → List Int → (Int → Int → Bool → Int → Int → Int → Int → Option R) → Option R) (g_f58 : Nat → List Int → Int → Int → (Int → Int → List Int → Option R) → Option R) (g_f60 : Nat → Int → List Int → (Int → List Int → Option R) → Option R) (g_f59 : Nat → List Int → Int → Int → (Int → Int → List Int → Option R) → Option R) (g_f60_2 : Nat → Int → (Int → List Int → Option R) → Option R) (k : Nat) (a0 : List Int) (K : Int → Int → Bool → Int → Int → Int → List Int → Option R) : Option R :=
  g_f57 k a0 (fun v1 v2 v3 v4 v5 v6 v7 =>
    bif (v7 != 0) then
      K v1 v2 v3 v4 0 v7 ([] : List Int)
    else
      bif (v4 == 1) then
        g_f58 k a0 v5 v6 (fun v8 v9 v10 =>
          bif (v9 != 0) then
            K v1 v2 v3 v4 0 v9 ([] : List Int)
          else
            g_f60 k (IntKind.i64.wrap ((a0.length : Int) - v8)) v10 (fun v11 v12 =>
              K v1 v2 v3 v4 v8 v11 v12))
      else
        bif (v4 == 3) then
          g_f59 k a0 v5 v6 (fun v13 v14 v15 =>
            bif (v14 != 0) then
              K v1 v2 v3 v4 0 v14 ([] : List Int)
            else
              g_f60 k (IntKind.i64.wrap ((a0.length : Int) - v13)) v15 (fun v16 v17 =>
                K v1 v2 v3 v4 v13 v16 v17))
        else
          bif (v4 == 2) then
            bif decide (v5 = 0) then
              none
            else
              bif (((IntKind.i64.wrap ((a0.length : Int) - v6)).tmod v5) != 0) then
                K v1 v2 v3 v4 0 50 ([] : List Int)
              else
                f41_l15 g_f57 g_f58 g_f60 g_f59 g_f60_2 k a0 v5 v6 v7 (IntKind.i64.wrap ((a0.length : Int) - v6)) 0 0 0 false 0 v1 v2 v3 v4 ([] : List Int) (fun v33 v34 v35 _v36 _v37 _v38 _v39 v40 v41 v42 v43 v44 =>
                  bif (v35 != 0) then
                    K v40 v41 v42 v43 0 v35 ([] : List Int)
                  else
                    g_f60 k (IntKind.i64.wrap ((v33.length : Int) - v34)) v44 (fun v45 v46 =>
                      K v40 v41 v42 v43 v34 v45 v46))
          else
            bif (v7 != 0) then
              K v1 v2 v3 v4 0 v7 ([] : List Int)
            else
              g_f60_2 k (IntKind.i64.wrap ((a0.length : Int) - v6)) (fun v47 v48 =>
                K v1 v2 v3 v4 v6 v47 v48))
noncomputable def f41 {R : Type} (k : Nat) (a0 : List Int) (K : Int → Int → Bool → Int → Int → Int → List Int → Option R) : Option R := f41_s (f57 (R := R)) (f58 (R := R)) (f60 (R := R)) (f59 (R := R)) (f60_2 (R := R)) k a0 K
noncomputable def f41_o {R : Type} (g_f57 : Nat → List Int → (Int → Int → Bool → Int → Int → Int → Int → Option R) → Option R) (g_f58 : Nat → List Int → Int → Int → (Int → Int → List Int → Option R) → Option R) (g_f60 : Nat → Int → List Int → (Int → List Int → Option R) → Option R) (g_f59 : Nat → List Int → Int → Int → (Int → Int → List Int → Option R) → Option R) (g_f60_2 : Nat → Int → (Int → List Int → Option R) → Option R) (k : Nat) : Orc D R := (orcAdd 59 (f59_d (g_f59 k) noDr) (orcAdd 60 (f60_2_d (g_f60_2 k) (f60_d (g_f60 k) noDr)) (orcAdd 58 (f58_d (g_f58 k) noDr) (orcAdd 57 (f57_d (g_f57 k) noDr) noOrc))))
theorem f41_o_ok {R : Type} (k : Nat) : OrcOk Try.prog cx (f41_o (R := R) (f57 (R := R)) (f58 (R := R)) (f60 (R := R)) (f59 (R := R)) (f60_2 (R := R)) k) := (OrcOk.add (f59_ok k FnOk.no) (OrcOk.add (f60_2_ok k (f60_ok k FnOk.no)) (OrcOk.add (f58_ok k FnOk.no) (OrcOk.add (f57_ok k FnOk.no) OrcOk.no))))
noncomputable def f41_b : Code := bodyOf Try.f41
noncomputable def f41_l15_a : LAnn := ⟨⟨[(.tmp 10, .own 68719538176 (.int .i64))], [0, 2, 6, 7, 8, 9, 10, 11, 12], [65584, 131184, 68719538176]⟩, exOf (none) [(1, ⟨[], [0, 2, 6, 8, 9, 10], [65584, 131184, 68719538176]⟩)]⟩
noncomputable def f41_ann : Nat → Option LAnn := fun key => bif Nat.beq key 15 then some f41_l15_a else none
noncomputable def f41_l15_b : Code := loopAt f41_b 0
noncomputable def f41_l15_g {R : Type} (g_f57 : Nat → List Int → (Int → Int → Bool → Int → Int → Int → Int → Option R) → Option R) (g_f58 : Nat → List Int → Int → Int → (Int → Int → List Int → Option R) → Option R) (g_f60 : Nat → Int → List Int → (Int → List Int → Option R) → Option R) (g_f59 : Nat → List Int → Int → Int → (Int → Int → List Int → Option R) → Option R) (g_f60_2 : Nat → Int → (Int → List Int → Option R) → Option R) (k : Nat) (x : (List Int × Unit × Unit × Int × Int × Int × Unit × Int × Int × Unit)) (y : ((Int × Int × Bool × Int × Unit × Unit) × (Int × Int × Bool × Int × Unit × Unit) × List Int × Unit)) (K : Ex → List (PV D) → List (Option (Am.Obj D)) → Option R) : Option R := f41_l15 g_f57 g_f58 g_f60 g_f59 g_f60_2 k x.1 x.2.2.2.1 x.2.2.2.2.1 x.2.2.2.2.2.1 x.2.2.2.2.2.2.2.1 x.2.2.2.2.2.2.2.2.1 y.1.1 y.1.2.1 y.1.2.2.1 y.1.2.2.2.1 y.2.1.1 y.2.1.2.1 y.2.1.2.2.1 y.2.1.2.2.2.1 y.2.2.1 (fun z0 z1 z2 z3 z4 z5 z6 z7 z8 z9 z10 z11 => K (.exit 1) [.list (.int .u8) z0, .ptr 65584 0, .ptr 131184 0, .int .i64 z1, .int .i64 z2, .own 68719538176] [some (.box [.int .i64 z3, .int .i64 z4, .bool z5, .int .i64 z6, .nil]), some (.box [.int .i64 z7, .int .i64 z8, .bool z9, .int .i64 z10, .nil]), some (.row (.int .i64) z11 true)])
noncomputable def f41_l15_d {R : Type} (g_f57 : Nat → List Int → (Int → Int → Bool → Int → Int → Int → Int → Option R) → Option R) (g_f58 : Nat → List Int → Int → Int → (Int → Int → List Int → Option R) → Option R) (g_f60 : Nat → Int → List Int → (Int → List Int → Option R) → Option R) (g_f59 : Nat → List Int → Int → Int → (Int → Int → List Int → Option R) → Option R) (g_f60_2 : Nat → Int → (Int → List Int → Option R) → Option R) (k : Nat) : Lr D R := ldoor [.list (.int .u8), .ptr 65584 0, .ptr 131184 0, .int .i64, .int .i64, .int .i64, .own 68719538176, .int .i64, .int .i64] [some (.box [.int .i64, .int .i64, .bool, .int .i64, .nil]), some (.box [.int .i64, .int .i64, .bool, .int .i64, .nil]), some (.row (.int .i64) true)] (f41_l15_g g_f57 g_f58 g_f60 g_f59 g_f60_2 k)
noncomputable def f41_l15_lrc {R : Type} (_g_f57 : Nat → List Int → (Int → Int → Bool → Int → Int → Int → Int → Option R) → Option R) (_g_f58 : Nat → List Int → Int → Int → (Int → Int → List Int → Option R) → Option R) (_g_f60 : Nat → Int → List Int → (Int → List Int → Option R) → Option R) (_g_f59 : Nat → List Int → Int → Int → (Int → Int → List Int → Option R) → Option R) (_g_f60_2 : Nat → Int → (Int → List Int → Option R) → Option R) (_k : Nat) : Lrc D R := noLrc
theorem f41_l15_e {R : Type} (g_f57 : Nat → List Int → (Int → Int → Bool → Int → Int → Int → Int → Option R) → Option R) (g_f58 : Nat → List Int → Int → Int → (Int → Int → List Int → Option R) → Option R) (g_f60 : Nat → Int → List Int → (Int → List Int → Option R) → Option R) (g_f59 : Nat → List Int → Int → Int → (Int → Int → List Int → Option R) → Option R) (g_f60_2 : Nat → Int → (Int → List Int → Option R) → Option R) (k : Nat) (x : (List Int × Unit × Unit × Int × Int × Int × Unit × Int × Int × Unit)) (y : ((Int × Int × Bool × Int × Unit × Unit) × (Int × Int × Bool × Int × Unit × Unit) × List Int × Unit)) (K : Ex → List (PV D) → List (Option (Am.Obj D)) → Option R) : f41_l15_g g_f57 g_f58 g_f60 g_f59 g_f60_2 (k + 1) x y K = round cx (f41_o g_f57 g_f58 g_f60 g_f59 g_f60_2 k) (f41_l15_lrc g_f57 g_f58 g_f60 g_f59 g_f60_2 k) f41_ann kp 86 0 f41_l15_a f41_l15_b (gives (D := D) [.list (.int .u8), .ptr 65584 0, .ptr 131184 0, .int .i64, .int .i64, .int .i64, .own 68719538176, .int .i64, .int .i64] x) (giveGs (D := D) [some (.box [.int .i64, .int .i64, .bool, .int .i64, .nil]), some (.box [.int .i64, .int .i64, .bool, .int .i64, .nil]), some (.row (.int .i64) true)] y) (fun vs os => f41_l15_d g_f57 g_f58 g_f60 g_f59 g_f60_2 k vs os K) K := by kernel_rfl
theorem f41_l15_d_ok {R : Type} : ∀ k, LoopOk Try.prog cx 86 0 f41_ann (f41_l15_d (R := R) (f57 (R := R)) (f58 (R := R)) (f60 (R := R)) (f59 (R := R)) (f60_2 (R := R)) k) f41_l15_b :=
  loop_ok (keep := kp) (lrc := f41_l15_lrc (R := R) (f57 (R := R)) (f58 (R := R)) (f60 (R := R)) (f59 (R := R)) (f60_2 (R := R))) cxOk mixed f41_o_ok (show f41_ann (Am.keyOf f41_l15_b) = some f41_l15_a by kernel_rfl) (L := []) (by kernel_rfl) (fun k => trivial) (fun k => LrcNat.no) (fun x y K => by kernel_rfl) (f41_l15_e (f57 (R := R)) (f58 (R := R)) (f60 (R := R)) (f59 (R := R)) (f60_2 (R := R)))
noncomputable def f41_lrc {R : Type} (g_f57 : Nat → List Int → (Int → Int → Bool → Int → Int → Int → Int → Option R) → Option R) (g_f58 : Nat → List Int → Int → Int → (Int → Int → List Int → Option R) → Option R) (g_f60 : Nat → Int → List Int → (Int → List Int → Option R) → Option R) (g_f59 : Nat → List Int → Int → Int → (Int → Int → List Int → Option R) → Option R) (g_f60_2 : Nat → Int → (Int → List Int → Option R) → Option R) (k : Nat) : Lrc D R := (lrcAdd 15 (f41_l15_d g_f57 g_f58 g_f60 g_f59 g_f60_2 k) noLrc)
noncomputable def f41_d {R : Type} (g : List Int → (Int → Int → Bool → Int → Int → Int → List Int → Option R) → Option R) (e : Dr D R) : Dr D R := door [.list (.int .u8)] [] (fun (x : (List Int × Unit)) (_y : (Unit)) K => g x.1 (fun z0 z1 z2 z3 z4 z5 z6 => K ⟨.tup [.agg [.int .i64 z0, .int .i64 z1, .bool z2, .int .i64 z3, .nil], .own 0, .int .i64 z4, .int .i64 z5], [some (.row (.int .i64) z6 true)]⟩)) e
theorem f41_e {R : Type} (g_f57 : Nat → List Int → (Int → Int → Bool → Int → Int → Int → Int → Option R) → Option R) (g_f58 : Nat → List Int → Int → Int → (Int → Int → List Int → Option R) → Option R) (g_f60 : Nat → Int → List Int → (Int → List Int → Option R) → Option R) (g_f59 : Nat → List Int → Int → Int → (Int → Int → List Int → Option R) → Option R) (g_f60_2 : Nat → Int → (Int → List Int → Option R) → Option R) (k : Nat) (x : (List Int × Unit)) (y : (Unit)) (K : RV D → Option R) : f41_s g_f57 g_f58 g_f60 g_f59 g_f60_2 k x.1 (fun z0 z1 z2 z3 z4 z5 z6 => K ⟨.tup [.agg [.int .i64 z0, .int .i64 z1, .bool z2, .int .i64 z3, .nil], .own 0, .int .i64 z4, .int .i64 z5], [some (.row (.int .i64) z6 true)]⟩) = exec cx (f41_o g_f57 g_f58 g_f60 g_f59 g_f60_2 k) (f41_lrc g_f57 g_f58 g_f60 g_f59 g_f60_2 k) f41_ann kp 86 0 f41_b (entry (gives (D := D) [.list (.int .u8)] x) (giveOs (D := D) [] y)) (fin cx Try.f41.results.toList [(.tmp 3, .own 1099511627776 (.int .i64))] 0 K) := by kernel_rfl
theorem f41_ok {R : Type} (k : Nat) {e : Dr D R} (he : FnOk Try.prog cx 41 e) : FnOk Try.prog cx 41 (f41_d (f41 k) e) :=
  he.door fun x y => body_ok (keep := kp) (ann := f41_ann) (lrc := f41_lrc (R := R) (f57 (R := R)) (f58 (R := R)) (f60 (R := R)) (f59 (R := R)) (f60_2 (R := R)) k) (N := 86) (n0 := 0) (c := [(.tmp 3, .own 1099511627776 (.int .i64))]) cxOk mixed (f41_o_ok k) (body := f41_b) (by kernel_rfl : Try.prog.funcs[41]? = some Try.f41) (by kernel_rfl) (by kernel_rfl) (by kernel_rfl) (by kernel_rfl) (of_decide_eq_true (by kernel_rfl)) (L := [f41_l15_b]) (by kernel_rfl) ⟨(f41_l15_d_ok k).use (by kernel_rfl), trivial⟩ ((LrcNat.add (f41_l15_d_ok k).2 LrcNat.no)) (fun K => f41_e (f57 (R := R)) (f58 (R := R)) (f60 (R := R)) (f59 (R := R)) (f60_2 (R := R)) k x y K)

/-! ## 42: diorama/dioramaref00.CopyBytes -/
noncomputable def f42_l3 {R : Type} : Nat → List Int → Int → List Int → (List Int → Option R) → Option R
  | 0, _, _, _, _ => none
  | k + 1, v1, v2, v3, X0 =>
    bif decide (v2 < (v1.length : Int)) then
      bif inb v2 v1.length then
        bif room 1 (v3.length + ([(v1.getD v2.toNat 0)]).length) then
          f42_l3 k v1 (IntKind.i64.wrap (v2 + 1)) (v3 ++ ([(v1.getD v2.toNat 0)])) X0
        else
          none
      else
        none
    else
      X0 v3
noncomputable def f42_s {R : Type} (k : Nat) (a0 : List Int) (K : List Int → Option R) : Option R :=
  bif (decide ((0 : Int) ≤ (a0.length : Int))) && (decide ((a0.length : Int) * ((1 : Nat) : Int) ≤ 140737488355328)) then
    f42_l3 k a0 0 ([] : List Int) (fun v4 =>
      K v4)
  else
    none
noncomputable def f42 {R : Type} (k : Nat) (a0 : List Int) (K : List Int → Option R) : Option R := f42_s k a0 K
noncomputable def f42_o {R : Type} (_k : Nat) : Orc D R := noOrc
theorem f42_o_ok {R : Type} (k : Nat) : OrcOk Try.prog cx (f42_o (R := R) k) := OrcOk.no
noncomputable def f42_b : Code := bodyOf Try.f42
noncomputable def f42_l3_a : LAnn := ⟨⟨[(.tmp 3, .own 68719489024 (.int .u8))], [0, 3, 4], [68719489024]⟩, exOf (none) [(0, ⟨[], [3], [68719489024]⟩)]⟩
noncomputable def f42_ann : Nat → Option LAnn := fun key => bif Nat.beq key 3 then some f42_l3_a else none
noncomputable def f42_l3_b : Code := loopAt f42_b 0
noncomputable def f42_l3_g {R : Type} (k : Nat) (x : (List Int × Unit × Int × Unit)) (y : (List Int × Unit)) (K : Ex → List (PV D) → List (Option (Am.Obj D)) → Option R) : Option R := f42_l3 k x.1 x.2.2.1 y.1 (fun z0 => K (.exit 0) [.own 68719489024] [some (.row (.int .u8) z0 true)])
noncomputable def f42_l3_d {R : Type} (k : Nat) : Lr D R := ldoor [.list (.int .u8), .own 68719489024, .int .i64] [some (.row (.int .u8) true)] (f42_l3_g k)
noncomputable def f42_l3_lrc {R : Type} (_k : Nat) : Lrc D R := noLrc
theorem f42_l3_e {R : Type} (k : Nat) (x : (List Int × Unit × Int × Unit)) (y : (List Int × Unit)) (K : Ex → List (PV D) → List (Option (Am.Obj D)) → Option R) : f42_l3_g (k + 1) x y K = round cx (f42_o k) (f42_l3_lrc k) f42_ann kp 22 0 f42_l3_a f42_l3_b (gives (D := D) [.list (.int .u8), .own 68719489024, .int .i64] x) (giveGs (D := D) [some (.row (.int .u8) true)] y) (fun vs os => f42_l3_d k vs os K) K := by kernel_rfl
theorem f42_l3_d_ok {R : Type} : ∀ k, LoopOk Try.prog cx 22 0 f42_ann (f42_l3_d (R := R) k) f42_l3_b :=
  loop_ok (keep := kp) (lrc := f42_l3_lrc (R := R)) cxOk mixed f42_o_ok (show f42_ann (Am.keyOf f42_l3_b) = some f42_l3_a by kernel_rfl) (L := []) (by kernel_rfl) (fun k => trivial) (fun k => LrcNat.no) (fun x y K => by kernel_rfl) (f42_l3_e)
noncomputable def f42_lrc {R : Type} (k : Nat) : Lrc D R := (lrcAdd 3 (f42_l3_d k) noLrc)
noncomputable def f42_d {R : Type} (g : List Int → (List Int → Option R) → Option R) (e : Dr D R) : Dr D R := door [.list (.int .u8)] [] (fun (x : (List Int × Unit)) (_y : (Unit)) K => g x.1 (fun z0 => K ⟨.own 0, [some (.row (.int .u8) z0 true)]⟩)) e
theorem f42_e {R : Type} (k : Nat) (x : (List Int × Unit)) (y : (Unit)) (K : RV D → Option R) : f42_s k x.1 (fun z0 => K ⟨.own 0, [some (.row (.int .u8) z0 true)]⟩) = exec cx (f42_o k) (f42_lrc k) f42_ann kp 22 0 f42_b (entry (gives (D := D) [.list (.int .u8)] x) (giveOs (D := D) [] y)) (fin cx Try.f42.results.toList [] 0 K) := by kernel_rfl
theorem f42_ok {R : Type} (k : Nat) {e : Dr D R} (he : FnOk Try.prog cx 42 e) : FnOk Try.prog cx 42 (f42_d (f42 k) e) :=
  he.door fun x y => body_ok (keep := kp) (ann := f42_ann) (lrc := f42_lrc (R := R) k) (N := 22) (n0 := 0) (c := []) cxOk mixed (f42_o_ok k) (body := f42_b) (by kernel_rfl : Try.prog.funcs[42]? = some Try.f42) (by kernel_rfl) (by kernel_rfl) (by kernel_rfl) (by kernel_rfl) (of_decide_eq_true (by kernel_rfl)) (L := [f42_l3_b]) (by kernel_rfl) ⟨(f42_l3_d_ok k).use (by kernel_rfl), trivial⟩ ((LrcNat.add (f42_l3_d_ok k).2 LrcNat.no)) (fun K => f42_e k x y K)

/-! ## 20: diorama/dioramaref05.Read -/
noncomputable def f20_l5 {R : Type} (g_f41 : Nat → List Int → (Int → Int → Bool → Int → Int → Int → List Int → Option R) → Option R) (g_f42 : Nat → List Int → (List Int → Option R) → Option R) : Nat → List Int → Int → Int → Int → Int → Bool → Int → Int → Int → Bool → Int → List (List Int) → List Int → (Int → Int → Bool → Int → Int → Int → Bool → Int → List (List Int) → Option R) → Option R
  | 0, _, _, _, _, _, _, _, _, _, _, _, _, _, _ => none
  | k + 1, v8, v9, v10, v11, v12, v13, v14, v15, v16, v17, v18, v19, v20, X0 =>
    bif decide (v10 < (v20.length : Int)) then
      bif inb v10 v20.length then
        bif upto (IntKind.i64.wrap (v9 + (v20.getD v10.toNat 0))) v8.length then
          bif (decide (0 ≤ v9)) && (decide (v9 ≤ (IntKind.i64.wrap (v9 + (v20.getD v10.toNat 0))))) then
            g_f42 k ((v8.take ((IntKind.i64.wrap (v9 + (v20.getD v10.toNat 0))).toNat)).drop v9.toNat) (fun v21 =>
              bif room 24 (v19.length + ([v21]).length) then
                bif inb v10 v20.length then
                  f20_l5 g_f41 g_f42 k v8 (IntKind.i64.wrap (v9 + (v20.getD v10.toNat 0))) (IntKind.i64.wrap (v10 + 1)) v11 v12 v13 v14 v15 v16 v17 v18 (v19 ++ ([v21])) v20 X0
                else
                  none
              else
                none)
          else
            none
        else
          none
      else
        none
    else
      X0 v11 v12 v13 v14 v15 v16 v17 v18 v19
noncomputable def f20_s {R : Type} (g_f41 : Nat → List Int → (Int → Int → Bool → Int → Int → Int → List Int → Option R) → Option R) (g_f42 : Nat → List Int → (List Int → Option R) → Option R) (k : Nat) (a0 : List Int) (K : Int → Int → Bool → Int → Int → List (List Int) → Option R) : Option R :=
  g_f41 k a0 (fun v1 v2 v3 v4 v5 v6 v7 =>
    bif (v6 != 0) then
      K 0 0 false 0 v6 ([] : List (List Int))
    else
      f20_l5 g_f41 g_f42 k a0 v5 0 0 0 false 0 v1 v2 v3 v4 ([] : List (List Int)) v7 (fun _v22 _v23 _v24 _v25 v26 v27 v28 v29 v30 =>
        K v26 v27 v28 v29 0 v30))
noncomputable def f20 {R : Type} (k : Nat) (a0 : List Int) (K : Int → Int → Bool → Int → Int → List (List Int) → Option R) : Option R := f20_s (f41 (R := R)) (f42 (R := R)) k a0 K
noncomputable def f20_o {R : Type} (g_f41 : Nat → List Int → (Int → Int → Bool → Int → Int → Int → List Int → Option R) → Option R) (g_f42 : Nat → List Int → (List Int → Option R) → Option R) (k : Nat) : Orc D R := (orcAdd 42 (f42_d (g_f42 k) noDr) (orcAdd 41 (f41_d (g_f41 k) noDr) noOrc))
theorem f20_o_ok {R : Type} (k : Nat) : OrcOk Try.prog cx (f20_o (R := R) (f41 (R := R)) (f42 (R := R)) k) := (OrcOk.add (f42_ok k FnOk.no) (OrcOk.add (f41_ok k FnOk.no) OrcOk.no))
noncomputable def f20_b : Code := bodyOf Try.f20
noncomputable def f20_l5_a : LAnn := ⟨⟨[(.cell 131152 4, .own 68719497216 (.slice (.int .u8)))], [0, 2, 4, 5, 6, 8], [65584, 131152, 68719497216, 131264]⟩, exOf (none) [(0, ⟨[], [2, 4], [65584, 131152, 68719497216]⟩)]⟩
noncomputable def f20_ann : Nat → Option LAnn := fun key => bif Nat.beq key 5 then some f20_l5_a else none
noncomputable def f20_l5_b : Code := loopAt f20_b 0
noncomputable def f20_l5_g {R : Type} (g_f41 : Nat → List Int → (Int → Int → Bool → Int → Int → Int → List Int → Option R) → Option R) (g_f42 : Nat → List Int → (List Int → Option R) → Option R) (k : Nat) (x : (List Int × Unit × Unit × Unit × Int × Int × Unit)) (y : ((Int × Int × Bool × Int × Unit × Unit) × (Int × Int × Bool × Int × Unit × Unit) × List (List Int) × List Int × Unit)) (K : Ex → List (PV D) → List (Option (Am.Obj D)) → Option R) : Option R := f20_l5 g_f41 g_f42 k x.1 x.2.2.2.2.1 x.2.2.2.2.2.1 y.1.1 y.1.2.1 y.1.2.2.1 y.1.2.2.2.1 y.2.1.1 y.2.1.2.1 y.2.1.2.2.1 y.2.1.2.2.2.1 y.2.2.1 y.2.2.2.1 (fun z0 z1 z2 z3 z4 z5 z6 z7 z8 => K (.exit 0) [.ptr 65584 0, .ptr 131152 0] [some (.box [.int .i64 z0, .int .i64 z1, .bool z2, .int .i64 z3, .nil]), some (.box [.int .i64 z4, .int .i64 z5, .bool z6, .int .i64 z7, .own 68719497216]), some (.row (.slice (.int .u8)) z8 true)])
noncomputable def f20_l5_d {R : Type} (g_f41 : Nat → List Int → (Int → Int → Bool → Int → Int → Int → List Int → Option R) → Option R) (g_f42 : Nat → List Int → (List Int → Option R) → Option R) (k : Nat) : Lr D R := ldoor [.list (.int .u8), .ptr 65584 0, .ptr 131152 0, .own 131264, .int .i64, .int .i64] [some (.box [.int .i64, .int .i64, .bool, .int .i64, .nil]), some (.box [.int .i64, .int .i64, .bool, .int .i64, .own 68719497216]), some (.row (.slice (.int .u8)) true), some (.row (.int .i64) true)] (f20_l5_g g_f41 g_f42 k)
noncomputable def f20_l5_lrc {R : Type} (_g_f41 : Nat → List Int → (Int → Int → Bool → Int → Int → Int → List Int → Option R) → Option R) (_g_f42 : Nat → List Int → (List Int → Option R) → Option R) (_k : Nat) : Lrc D R := noLrc
theorem f20_l5_e {R : Type} (g_f41 : Nat → List Int → (Int → Int → Bool → Int → Int → Int → List Int → Option R) → Option R) (g_f42 : Nat → List Int → (List Int → Option R) → Option R) (k : Nat) (x : (List Int × Unit × Unit × Unit × Int × Int × Unit)) (y : ((Int × Int × Bool × Int × Unit × Unit) × (Int × Int × Bool × Int × Unit × Unit) × List (List Int) × List Int × Unit)) (K : Ex → List (PV D) → List (Option (Am.Obj D)) → Option R) : f20_l5_g g_f41 g_f42 (k + 1) x y K = round cx (f20_o g_f41 g_f42 k) (f20_l5_lrc g_f41 g_f42 k) f20_ann kp 48 0 f20_l5_a f20_l5_b (gives (D := D) [.list (.int .u8), .ptr 65584 0, .ptr 131152 0, .own 131264, .int .i64, .int .i64] x) (giveGs (D := D) [some (.box [.int .i64, .int .i64, .bool, .int .i64, .nil]), some (.box [.int .i64, .int .i64, .bool, .int .i64, .own 68719497216]), some (.row (.slice (.int .u8)) true), some (.row (.int .i64) true)] y) (fun vs os => f20_l5_d g_f41 g_f42 k vs os K) K := by kernel_rfl
theorem f20_l5_d_ok {R : Type} : ∀ k, LoopOk Try.prog cx 48 0 f20_ann (f20_l5_d (R := R) (f41 (R := R)) (f42 (R := R)) k) f20_l5_b :=
  loop_ok (keep := kp) (lrc := f20_l5_lrc (R := R) (f41 (R := R)) (f42 (R := R))) cxOk mixed f20_o_ok (show f20_ann (Am.keyOf f20_l5_b) = some f20_l5_a by kernel_rfl) (L := []) (by kernel_rfl) (fun k => trivial) (fun k => LrcNat.no) (fun x y K => by kernel_rfl) (f20_l5_e (f41 (R := R)) (f42 (R := R)))
noncomputable def f20_lrc {R : Type} (g_f41 : Nat → List Int → (Int → Int → Bool → Int → Int → Int → List Int → Option R) → Option R) (g_f42 : Nat → List Int → (List Int → Option R) → Option R) (k : Nat) : Lrc D R := (lrcAdd 5 (f20_l5_d g_f41 g_f42 k) noLrc)
noncomputable def f20_d {R : Type} (g : List Int → (Int → Int → Bool → Int → Int → List (List Int) → Option R) → Option R) (e : Dr D R) : Dr D R := door [.list (.int .u8)] [] (fun (x : (List Int × Unit)) (_y : (Unit)) K => g x.1 (fun z0 z1 z2 z3 z4 z5 => K ⟨.tup [.agg [.int .i64 z0, .int .i64 z1, .bool z2, .int .i64 z3, .own 0], .int .i64 z4], [some (.row (.slice (.int .u8)) z5 true)]⟩)) e
theorem f20_e {R : Type} (g_f41 : Nat → List Int → (Int → Int → Bool → Int → Int → Int → List Int → Option R) → Option R) (g_f42 : Nat → List Int → (List Int → Option R) → Option R) (k : Nat) (x : (List Int × Unit)) (y : (Unit)) (K : RV D → Option R) : f20_s g_f41 g_f42 k x.1 (fun z0 z1 z2 z3 z4 z5 => K ⟨.tup [.agg [.int .i64 z0, .int .i64 z1, .bool z2, .int .i64 z3, .own 0], .int .i64 z4], [some (.row (.slice (.int .u8)) z5 true)]⟩) = exec cx (f20_o g_f41 g_f42 k) (f20_lrc g_f41 g_f42 k) f20_ann kp 48 0 f20_b (entry (gives (D := D) [.list (.int .u8)] x) (giveOs (D := D) [] y)) (fin cx Try.f20.results.toList [(.cell 65584 4, .own 1099511627776 (.slice (.int .u8)))] 0 K) := by kernel_rfl
theorem f20_ok {R : Type} (k : Nat) {e : Dr D R} (he : FnOk Try.prog cx 20 e) : FnOk Try.prog cx 20 (f20_d (f20 k) e) :=
  he.door fun x y => body_ok (keep := kp) (ann := f20_ann) (lrc := f20_lrc (R := R) (f41 (R := R)) (f42 (R := R)) k) (N := 48) (n0 := 0) (c := [(.cell 65584 4, .own 1099511627776 (.slice (.int .u8)))]) cxOk mixed (f20_o_ok k) (body := f20_b) (by kernel_rfl : Try.prog.funcs[20]? = some Try.f20) (by kernel_rfl) (by kernel_rfl) (by kernel_rfl) (by kernel_rfl) (of_decide_eq_true (by kernel_rfl)) (L := [f20_l5_b]) (by kernel_rfl) ⟨(f20_l5_d_ok k).use (by kernel_rfl), trivial⟩ ((LrcNat.add (f20_l5_d_ok k).2 LrcNat.no)) (fun K => f20_e (f41 (R := R)) (f42 (R := R)) k x y K)

/-! ## 21: diorama/lace.Sizes -/
noncomputable def f21_s {R : Type} (g_f38 : Nat → List Int → (Int → Int → Bool → Int → Int → Int → Int → List Int → Option R) → Option R) (g_f39 : Nat → Int → Int → Bool → Int → Int → Int → List Int → List Int → (Int → List Int → Option R) → Option R) (k : Nat) (a0 : List Int) (K : Int → List Int → Option R) : Option R :=
  g_f38 k a0 (fun v1 v2 v3 v4 v5 v6 v7 v8 =>
    bif (v7 != 0) then
      K v7 ([] : List Int)
    else
      g_f39 k v1 v2 v3 v4 v5 v6 a0 v8 (fun v9 v10 =>
        K v9 v10))
noncomputable def f21 {R : Type} (k : Nat) (a0 : List Int) (K : Int → List Int → Option R) : Option R := f21_s (f38 (R := R)) (f39 (R := R)) k a0 K
noncomputable def f21_o {R : Type} (g_f38 : Nat → List Int → (Int → Int → Bool → Int → Int → Int → Int → List Int → Option R) → Option R) (g_f39 : Nat → Int → Int → Bool → Int → Int → Int → List Int → List Int → (Int → List Int → Option R) → Option R) (k : Nat) : Orc D R := (orcAdd 39 (f39_d (g_f39 k) noDr) (orcAdd 38 (f38_d (g_f38 k) noDr) noOrc))
theorem f21_o_ok {R : Type} (k : Nat) : OrcOk Try.prog cx (f21_o (R := R) (f38 (R := R)) (f39 (R := R)) k) := (OrcOk.add (f39_ok k FnOk.no) (OrcOk.add (f38_ok k FnOk.no) OrcOk.no))
noncomputable def f21_b : Code := bodyOf Try.f21
noncomputable def f21_ann : Nat → Option LAnn := fun _key => none
noncomputable def f21_lrc {R : Type} (_g_f38 : Nat → List Int → (Int → Int → Bool → Int → Int → Int → Int → List Int → Option R) → Option R) (_g_f39 : Nat → Int → Int → Bool → Int → Int → Int → List Int → List Int → (Int → List Int → Option R) → Option R) (_k : Nat) : Lrc D R := noLrc
noncomputable def f21_d {R : Type} (g : List Int → (Int → List Int → Option R) → Option R) (e : Dr D R) : Dr D R := door [.list (.int .u8)] [] (fun (x : (List Int × Unit)) (_y : (Unit)) K => g x.1 (fun z0 z1 => K ⟨.tup [.own 0, .int .i64 z0], [some (.row (.int .i64) z1 true)]⟩)) e
theorem f21_e {R : Type} (g_f38 : Nat → List Int → (Int → Int → Bool → Int → Int → Int → Int → List Int → Option R) → Option R) (g_f39 : Nat → Int → Int → Bool → Int → Int → Int → List Int → List Int → (Int → List Int → Option R) → Option R) (k : Nat) (x : (List Int × Unit)) (y : (Unit)) (K : RV D → Option R) : f21_s g_f38 g_f39 k x.1 (fun z0 z1 => K ⟨.tup [.own 0, .int .i64 z0], [some (.row (.int .i64) z1 true)]⟩) = exec cx (f21_o g_f38 g_f39 k) (f21_lrc g_f38 g_f39 k) f21_ann kp 19 0 f21_b (entry (gives (D := D) [.list (.int .u8)] x) (giveOs (D := D) [] y)) (fin cx Try.f21.results.toList [(.tmp 2, .own 1099511627776 (.int .i64))] 0 K) := by kernel_rfl
theorem f21_ok {R : Type} (k : Nat) {e : Dr D R} (he : FnOk Try.prog cx 21 e) : FnOk Try.prog cx 21 (f21_d (f21 k) e) :=
  he.door fun x y => body_ok (keep := kp) (ann := f21_ann) (lrc := f21_lrc (R := R) (f38 (R := R)) (f39 (R := R)) k) (N := 19) (n0 := 0) (c := [(.tmp 2, .own 1099511627776 (.int .i64))]) cxOk mixed (f21_o_ok k) (body := f21_b) (by kernel_rfl : Try.prog.funcs[21]? = some Try.f21) (by kernel_rfl) (by kernel_rfl) (by kernel_rfl) (by kernel_rfl) (of_decide_eq_true (by kernel_rfl)) (L := []) (by kernel_rfl) trivial (LrcNat.no) (fun K => f21_e (f38 (R := R)) (f39 (R := R)) k x y K)

/-! ## 22: diorama/dioramaref05.Sizes -/
noncomputable def f22_s {R : Type} (g_f41 : Nat → List Int → (Int → Int → Bool → Int → Int → Int → List Int → Option R) → Option R) (k : Nat) (a0 : List Int) (K : Int → List Int → Option R) : Option R :=
  g_f41 k a0 (fun _v1 _v2 _v3 _v4 _v5 v6 v7 =>
    bif (v6 != 0) then
      K v6 ([] : List Int)
    else
      K 0 v7)
noncomputable def f22 {R : Type} (k : Nat) (a0 : List Int) (K : Int → List Int → Option R) : Option R := f22_s (f41 (R := R)) k a0 K
noncomputable def f22_o {R : Type} (g_f41 : Nat → List Int → (Int → Int → Bool → Int → Int → Int → List Int → Option R) → Option R) (k : Nat) : Orc D R := (orcAdd 41 (f41_d (g_f41 k) noDr) noOrc)
theorem f22_o_ok {R : Type} (k : Nat) : OrcOk Try.prog cx (f22_o (R := R) (f41 (R := R)) k) := (OrcOk.add (f41_ok k FnOk.no) OrcOk.no)
noncomputable def f22_b : Code := bodyOf Try.f22
noncomputable def f22_ann : Nat → Option LAnn := fun _key => none
noncomputable def f22_lrc {R : Type} (_g_f41 : Nat → List Int → (Int → Int → Bool → Int → Int → Int → List Int → Option R) → Option R) (_k : Nat) : Lrc D R := noLrc
noncomputable def f22_d {R : Type} (g : List Int → (Int → List Int → Option R) → Option R) (e : Dr D R) : Dr D R := door [.list (.int .u8)] [] (fun (x : (List Int × Unit)) (_y : (Unit)) K => g x.1 (fun z0 z1 => K ⟨.tup [.own 0, .int .i64 z0], [some (.row (.int .i64) z1 true)]⟩)) e
theorem f22_e {R : Type} (g_f41 : Nat → List Int → (Int → Int → Bool → Int → Int → Int → List Int → Option R) → Option R) (k : Nat) (x : (List Int × Unit)) (y : (Unit)) (K : RV D → Option R) : f22_s g_f41 k x.1 (fun z0 z1 => K ⟨.tup [.own 0, .int .i64 z0], [some (.row (.int .i64) z1 true)]⟩) = exec cx (f22_o g_f41 k) (f22_lrc g_f41 k) f22_ann kp 19 0 f22_b (entry (gives (D := D) [.list (.int .u8)] x) (giveOs (D := D) [] y)) (fin cx Try.f22.results.toList [(.tmp 2, .own 1099511627776 (.int .i64))] 0 K) := by kernel_rfl
theorem f22_ok {R : Type} (k : Nat) {e : Dr D R} (he : FnOk Try.prog cx 22 e) : FnOk Try.prog cx 22 (f22_d (f22 k) e) :=
  he.door fun x y => body_ok (keep := kp) (ann := f22_ann) (lrc := f22_lrc (R := R) (f41 (R := R)) k) (N := 19) (n0 := 0) (c := [(.tmp 2, .own 1099511627776 (.int .i64))]) cxOk mixed (f22_o_ok k) (body := f22_b) (by kernel_rfl : Try.prog.funcs[22]? = some Try.f22) (by kernel_rfl) (by kernel_rfl) (by kernel_rfl) (by kernel_rfl) (of_decide_eq_true (by kernel_rfl)) (L := []) (by kernel_rfl) trivial (LrcNat.no) (fun K => f22_e (f41 (R := R)) k x y K)

/-! ## 23: diorama/dioramaref00.EqInts -/
noncomputable def f23_l4 {R : Type} : Nat → List Int → List Int → Int → Option R → (Bool → Option R) → Option R
  | 0, _, _, _, _, _ => none
  | k + 1, v1, v2, v3, X0, X1 =>
    bif decide (v3 < (v1.length : Int)) then
      bif inb v3 v1.length then
        bif inb v3 v2.length then
          bif ((v1.getD v3.toNat 0) != (v2.getD v3.toNat 0)) then
            X1 false
          else
            f23_l4 k v1 v2 (IntKind.i64.wrap (v3 + 1)) X0 X1
        else
          none
      else
        none
    else
      X0
noncomputable def f23_s {R : Type} (k : Nat) (a0 : List Int) (a1 : List Int) (K : Bool → Option R) : Option R :=
  bif ((a0.length : Int) != (a1.length : Int)) then
    K false
  else
    f23_l4 k a0 a1 0 (
      K true) (fun v4 =>
      K v4)
noncomputable def f23 {R : Type} (k : Nat) (a0 : List Int) (a1 : List Int) (K : Bool → Option R) : Option R := f23_s k a0 a1 K
noncomputable def f23_o {R : Type} (_k : Nat) : Orc D R := noOrc
theorem f23_o_ok {R : Type} (k : Nat) : OrcOk Try.prog cx (f23_o (R := R) k) := OrcOk.no
noncomputable def f23_b : Code := bodyOf Try.f23
noncomputable def f23_l4_a : LAnn := ⟨⟨[], [0, 1, 5], []⟩, exOf (some ⟨[], [4], []⟩) [(0, ⟨[], [], []⟩)]⟩
noncomputable def f23_ann : Nat → Option LAnn := fun key => bif Nat.beq key 4 then some f23_l4_a else none
noncomputable def f23_l4_b : Code := loopAt f23_b 0
noncomputable def f23_l4_g {R : Type} (k : Nat) (x : (List Int × List Int × Int × Unit)) (_y : (Unit)) (K : Ex → List (PV D) → List (Option (Am.Obj D)) → Option R) : Option R := f23_l4 k x.1 x.2.1 x.2.2.1 (K (.exit 0) [] []) (fun z0 => K (.ret) [.bool z0] [])
noncomputable def f23_l4_d {R : Type} (k : Nat) : Lr D R := ldoor [.list (.int .i64), .list (.int .i64), .int .i64] [] (f23_l4_g k)
noncomputable def f23_l4_lrc {R : Type} (_k : Nat) : Lrc D R := noLrc
theorem f23_l4_e {R : Type} (k : Nat) (x : (List Int × List Int × Int × Unit)) (y : (Unit)) (K : Ex → List (PV D) → List (Option (Am.Obj D)) → Option R) : f23_l4_g (k + 1) x y K = round cx (f23_o k) (f23_l4_lrc k) f23_ann kp 26 0 f23_l4_a f23_l4_b (gives (D := D) [.list (.int .i64), .list (.int .i64), .int .i64] x) (giveGs (D := D) [] y) (fun vs os => f23_l4_d k vs os K) K := by kernel_rfl
theorem f23_l4_d_ok {R : Type} : ∀ k, LoopOk Try.prog cx 26 0 f23_ann (f23_l4_d (R := R) k) f23_l4_b :=
  loop_ok (keep := kp) (lrc := f23_l4_lrc (R := R)) cxOk mixed f23_o_ok (show f23_ann (Am.keyOf f23_l4_b) = some f23_l4_a by kernel_rfl) (L := []) (by kernel_rfl) (fun k => trivial) (fun k => LrcNat.no) (fun x y K => by kernel_rfl) (f23_l4_e)
noncomputable def f23_lrc {R : Type} (k : Nat) : Lrc D R := (lrcAdd 4 (f23_l4_d k) noLrc)
noncomputable def f23_d {R : Type} (g : List Int → List Int → (Bool → Option R) → Option R) (e : Dr D R) : Dr D R := door [.list (.int .i64), .list (.int .i64)] [] (fun (x : (List Int × List Int × Unit)) (_y : (Unit)) K => g x.1 x.2.1 (fun z0 => K ⟨.bool z0, []⟩)) e
theorem f23_e {R : Type} (k : Nat) (x : (List Int × List Int × Unit)) (y : (Unit)) (K : RV D → Option R) : f23_s k x.1 x.2.1 (fun z0 => K ⟨.bool z0, []⟩) = exec cx (f23_o k) (f23_lrc k) f23_ann kp 26 0 f23_b (entry (gives (D := D) [.list (.int .i64), .list (.int .i64)] x) (giveOs (D := D) [] y)) (fin cx Try.f23.results.toList [] 0 K) := by kernel_rfl
theorem f23_ok {R : Type} (k : Nat) {e : Dr D R} (he : FnOk Try.prog cx 23 e) : FnOk Try.prog cx 23 (f23_d (f23 k) e) :=
  he.door fun x y => body_ok (keep := kp) (ann := f23_ann) (lrc := f23_lrc (R := R) k) (N := 26) (n0 := 0) (c := []) cxOk mixed (f23_o_ok k) (body := f23_b) (by kernel_rfl : Try.prog.funcs[23]? = some Try.f23) (by kernel_rfl) (by kernel_rfl) (by kernel_rfl) (by kernel_rfl) (of_decide_eq_true (by kernel_rfl)) (L := [f23_l4_b]) (by kernel_rfl) ⟨(f23_l4_d_ok k).use (by kernel_rfl), trivial⟩ ((LrcNat.add (f23_l4_d_ok k).2 LrcNat.no)) (fun K => f23_e k x y K)

/-! ## 6: diorama/dioramalaw05.LaceReads -/
noncomputable def f6_s {R : Type} (g_f16 : Nat → List Int → (Int → Int → Bool → Int → Int → List (List Int) → Option R) → Option R) (g_f17 : Nat → Int → Int → Bool → Int → List (List Int) → Int → Int → Bool → Int → List (List Int) → (Bool → Option R) → Option R) (g_f15 : Nat → (Bool → Option R) → Option R) (g_f20 : Nat → List Int → (Int → Int → Bool → Int → Int → List (List Int) → Option R) → Option R) (g_f21 : Nat → List Int → (Int → List Int → Option R) → Option R) (g_f22 : Nat → List Int → (Int → List Int → Option R) → Option R) (g_f23 : Nat → List Int → List Int → (Bool → Option R) → Option R) (k : Nat) (a0 : List Int) (K : Bool → Option R) : Option R :=
  bif decide ((a0.length : Int) > 200000) then
    K true
  else
    g_f16 k a0 (fun v1 v2 v3 v4 v5 v6 =>
      g_f20 k a0 (fun v7 v8 v9 v10 v11 v12 =>
        g_f21 k a0 (fun v13 v14 =>
          g_f22 k a0 (fun v15 v16 =>
            g_f17 k v1 v2 v3 v4 v6 v7 v8 v9 v10 v12 (fun v17 =>
              bif v17 then
                bif (v5 == v11) then
                  g_f23 k v14 v16 (fun v18 =>
                    bif v18 then
                      bif (v13 == v15) then
                        g_f15 k (fun v19 =>
                          K v19)
                      else
                        K false
                    else
                      K false)
                else
                  K false
              else
                K false)))))
noncomputable def f6 {R : Type} (k : Nat) (a0 : List Int) (K : Bool → Option R) : Option R := f6_s (f16 (R := R)) (f17 (R := R)) (f15 (R := R)) (f20 (R := R)) (f21 (R := R)) (f22 (R := R)) (f23 (R := R)) k a0 K
noncomputable def f6_o {R : Type} (g_f16 : Nat → List Int → (Int → Int → Bool → Int → Int → List (List Int) → Option R) → Option R) (g_f17 : Nat → Int → Int → Bool → Int → List (List Int) → Int → Int → Bool → Int → List (List Int) → (Bool → Option R) → Option R) (g_f15 : Nat → (Bool → Option R) → Option R) (g_f20 : Nat → List Int → (Int → Int → Bool → Int → Int → List (List Int) → Option R) → Option R) (g_f21 : Nat → List Int → (Int → List Int → Option R) → Option R) (g_f22 : Nat → List Int → (Int → List Int → Option R) → Option R) (g_f23 : Nat → List Int → List Int → (Bool → Option R) → Option R) (k : Nat) : Orc D R := (orcAdd 23 (f23_d (g_f23 k) noDr) (orcAdd 22 (f22_d (g_f22 k) noDr) (orcAdd 21 (f21_d (g_f21 k) noDr) (orcAdd 20 (f20_d (g_f20 k) noDr) (orcAdd 15 (f15_d (g_f15 k) noDr) (orcAdd 17 (f17_d (g_f17 k) noDr) (orcAdd 16 (f16_d (g_f16 k) noDr) noOrc)))))))
theorem f6_o_ok {R : Type} (k : Nat) : OrcOk Try.prog cx (f6_o (R := R) (f16 (R := R)) (f17 (R := R)) (f15 (R := R)) (f20 (R := R)) (f21 (R := R)) (f22 (R := R)) (f23 (R := R)) k) := (OrcOk.add (f23_ok k FnOk.no) (OrcOk.add (f22_ok k FnOk.no) (OrcOk.add (f21_ok k FnOk.no) (OrcOk.add (f20_ok k FnOk.no) (OrcOk.add (f15_ok k FnOk.no) (OrcOk.add (f17_ok k FnOk.no) (OrcOk.add (f16_ok k FnOk.no) OrcOk.no)))))))
noncomputable def f6_b : Code := bodyOf Try.f6
noncomputable def f6_ann : Nat → Option LAnn := fun _key => none
noncomputable def f6_lrc {R : Type} (_g_f16 : Nat → List Int → (Int → Int → Bool → Int → Int → List (List Int) → Option R) → Option R) (_g_f17 : Nat → Int → Int → Bool → Int → List (List Int) → Int → Int → Bool → Int → List (List Int) → (Bool → Option R) → Option R) (_g_f15 : Nat → (Bool → Option R) → Option R) (_g_f20 : Nat → List Int → (Int → Int → Bool → Int → Int → List (List Int) → Option R) → Option R) (_g_f21 : Nat → List Int → (Int → List Int → Option R) → Option R) (_g_f22 : Nat → List Int → (Int → List Int → Option R) → Option R) (_g_f23 : Nat → List Int → List Int → (Bool → Option R) → Option R) (_k : Nat) : Lrc D R := noLrc
noncomputable def f6_d {R : Type} (g : List Int → (Bool → Option R) → Option R) (e : Dr D R) : Dr D R := door [.list (.int .u8)] [] (fun (x : (List Int × Unit)) (_y : (Unit)) K => g x.1 (fun z0 => K ⟨.bool z0, []⟩)) e
theorem f6_e {R : Type} (g_f16 : Nat → List Int → (Int → Int → Bool → Int → Int → List (List Int) → Option R) → Option R) (g_f17 : Nat → Int → Int → Bool → Int → List (List Int) → Int → Int → Bool → Int → List (List Int) → (Bool → Option R) → Option R) (g_f15 : Nat → (Bool → Option R) → Option R) (g_f20 : Nat → List Int → (Int → Int → Bool → Int → Int → List (List Int) → Option R) → Option R) (g_f21 : Nat → List Int → (Int → List Int → Option R) → Option R) (g_f22 : Nat → List Int → (Int → List Int → Option R) → Option R) (g_f23 : Nat → List Int → List Int → (Bool → Option R) → Option R) (k : Nat) (x : (List Int × Unit)) (y : (Unit)) (K : RV D → Option R) : f6_s g_f16 g_f17 g_f15 g_f20 g_f21 g_f22 g_f23 k x.1 (fun z0 => K ⟨.bool z0, []⟩) = exec cx (f6_o g_f16 g_f17 g_f15 g_f20 g_f21 g_f22 g_f23 k) (f6_lrc g_f16 g_f17 g_f15 g_f20 g_f21 g_f22 g_f23 k) f6_ann kp 55 0 f6_b (entry (gives (D := D) [.list (.int .u8)] x) (giveOs (D := D) [] y)) (fin cx Try.f6.results.toList [] 0 K) := by kernel_rfl
theorem f6_ok {R : Type} (k : Nat) {e : Dr D R} (he : FnOk Try.prog cx 6 e) : FnOk Try.prog cx 6 (f6_d (f6 k) e) :=
  he.door fun x y => body_ok (keep := kp) (ann := f6_ann) (lrc := f6_lrc (R := R) (f16 (R := R)) (f17 (R := R)) (f15 (R := R)) (f20 (R := R)) (f21 (R := R)) (f22 (R := R)) (f23 (R := R)) k) (N := 55) (n0 := 0) (c := []) cxOk mixed (f6_o_ok k) (body := f6_b) (by kernel_rfl : Try.prog.funcs[6]? = some Try.f6) (by kernel_rfl) (by kernel_rfl) (by kernel_rfl) (by kernel_rfl) (of_decide_eq_true (by kernel_rfl)) (L := []) (by kernel_rfl) trivial (LrcNat.no) (fun K => f6_e (f16 (R := R)) (f17 (R := R)) (f15 (R := R)) (f20 (R := R)) (f21 (R := R)) (f22 (R := R)) (f23 (R := R)) k x y K)


end Go.Proofs.Ytnmoccdnkpkhhaa

/-! What the functions do, as plain functions; and that they do. -/
namespace Go.Proofs.Ytnmoccdnkpkhhaa
open Go Go.Am
/-! ## 24: diorama/lace.Cost -/
noncomputable def f24_s {R : Type} (g_f36 : Nat → Int → List (List Int) → (Int → Option R) → Option R) (g_f33 : Nat → Int → List (List Int) → (List Int → Option R) → Option R) (k : Nat) (a0 : Int) (a1 : List (List Int)) (K : Int → Int → Option R) : Option R :=
  bif decide (a0 < 0) then
    K 0 1
  else
    bif decide (a0 > 3) then
      K 0 1
    else
      g_f36 k a0 a1 (fun v1 =>
        bif (v1 != 0) then
          K 0 v1
        else
          bif (a0 == 0) then
            K 0 0
          else
            g_f33 k a0 a1 (fun v2 =>
              K (IntKind.i64.wrap (1 + (v2.length : Int))) 0))
noncomputable def f24 {R : Type} (k : Nat) (a0 : Int) (a1 : List (List Int)) (K : Int → Int → Option R) : Option R := f24_s (f36 (R := R)) (f33 (R := R)) k a0 a1 K
noncomputable def f24_o {R : Type} (g_f36 : Nat → Int → List (List Int) → (Int → Option R) → Option R) (g_f33 : Nat → Int → List (List Int) → (List Int → Option R) → Option R) (k : Nat) : Orc D R := (orcAdd 33 (f33_d (g_f33 k) noDr) (orcAdd 36 (f36_d (g_f36 k) noDr) noOrc))
theorem f24_o_ok {R : Type} (k : Nat) : OrcOk Try.prog cx (f24_o (R := R) (f36 (R := R)) (f33 (R := R)) k) := (OrcOk.add (f33_ok k FnOk.no) (OrcOk.add (f36_ok k FnOk.no) OrcOk.no))
noncomputable def f24_b : Code := bodyOf Try.f24
noncomputable def f24_ann : Nat → Option LAnn := fun _key => none
noncomputable def f24_lrc {R : Type} (_g_f36 : Nat → Int → List (List Int) → (Int → Option R) → Option R) (_g_f33 : Nat → Int → List (List Int) → (List Int → Option R) → Option R) (_k : Nat) : Lrc D R := noLrc
noncomputable def f24_d {R : Type} (g : Int → List (List Int) → (Int → Int → Option R) → Option R) (e : Dr D R) : Dr D R := door [.int .i64, .list (.slice (.int .u8))] [] (fun (x : (Int × List (List Int) × Unit)) (_y : (Unit)) K => g x.1 x.2.1 (fun z0 z1 => K ⟨.tup [.int .i64 z0, .int .i64 z1], []⟩)) e
theorem f24_e {R : Type} (g_f36 : Nat → Int → List (List Int) → (Int → Option R) → Option R) (g_f33 : Nat → Int → List (List Int) → (List Int → Option R) → Option R) (k : Nat) (x : (Int × List (List Int) × Unit)) (y : (Unit)) (K : RV D → Option R) : f24_s g_f36 g_f33 k x.1 x.2.1 (fun z0 z1 => K ⟨.tup [.int .i64 z0, .int .i64 z1], []⟩) = exec cx (f24_o g_f36 g_f33 k) (f24_lrc g_f36 g_f33 k) f24_ann kp 26 0 f24_b (entry (gives (D := D) [.int .i64, .list (.slice (.int .u8))] x) (giveOs (D := D) [] y)) (fin cx Try.f24.results.toList [] 0 K) := by kernel_rfl
theorem f24_ok {R : Type} (k : Nat) {e : Dr D R} (he : FnOk Try.prog cx 24 e) : FnOk Try.prog cx 24 (f24_d (f24 k) e) :=
  he.door fun x y => body_ok (keep := kp) (ann := f24_ann) (lrc := f24_lrc (R := R) (f36 (R := R)) (f33 (R := R)) k) (N := 26) (n0 := 0) (c := []) cxOk mixed (f24_o_ok k) (body := f24_b) (by kernel_rfl : Try.prog.funcs[24]? = some Try.f24) (by kernel_rfl) (by kernel_rfl) (by kernel_rfl) (by kernel_rfl) (of_decide_eq_true (by kernel_rfl)) (L := []) (by kernel_rfl) trivial (LrcNat.no) (fun K => f24_e (f36 (R := R)) (f33 (R := R)) k x y K)

/-! ## 25: diorama/dioramaref05.Cost -/
noncomputable def f25_s {R : Type} (g_f37 : Nat → Int → List (List Int) → (Int → Option R) → Option R) (g_f35 : Nat → Int → List (List Int) → (List Int → Option R) → Option R) (k : Nat) (a0 : Int) (a1 : List (List Int)) (K : Int → Int → Option R) : Option R :=
  bif decide (a0 < 0) then
    K 0 1
  else
    bif decide (a0 > 3) then
      K 0 1
    else
      g_f37 k a0 a1 (fun v1 =>
        bif (v1 != 0) then
          K 0 v1
        else
          g_f35 k a0 a1 (fun v2 =>
            K (v2.length : Int) 0))
noncomputable def f25 {R : Type} (k : Nat) (a0 : Int) (a1 : List (List Int)) (K : Int → Int → Option R) : Option R := f25_s (f37 (R := R)) (f35 (R := R)) k a0 a1 K
noncomputable def f25_o {R : Type} (g_f37 : Nat → Int → List (List Int) → (Int → Option R) → Option R) (g_f35 : Nat → Int → List (List Int) → (List Int → Option R) → Option R) (k : Nat) : Orc D R := (orcAdd 35 (f35_d (g_f35 k) noDr) (orcAdd 37 (f37_d (g_f37 k) noDr) noOrc))
theorem f25_o_ok {R : Type} (k : Nat) : OrcOk Try.prog cx (f25_o (R := R) (f37 (R := R)) (f35 (R := R)) k) := (OrcOk.add (f35_ok k FnOk.no) (OrcOk.add (f37_ok k FnOk.no) OrcOk.no))
noncomputable def f25_b : Code := bodyOf Try.f25
noncomputable def f25_ann : Nat → Option LAnn := fun _key => none
noncomputable def f25_lrc {R : Type} (_g_f37 : Nat → Int → List (List Int) → (Int → Option R) → Option R) (_g_f35 : Nat → Int → List (List Int) → (List Int → Option R) → Option R) (_k : Nat) : Lrc D R := noLrc
noncomputable def f25_d {R : Type} (g : Int → List (List Int) → (Int → Int → Option R) → Option R) (e : Dr D R) : Dr D R := door [.int .i64, .list (.slice (.int .u8))] [] (fun (x : (Int × List (List Int) × Unit)) (_y : (Unit)) K => g x.1 x.2.1 (fun z0 z1 => K ⟨.tup [.int .i64 z0, .int .i64 z1], []⟩)) e
theorem f25_e {R : Type} (g_f37 : Nat → Int → List (List Int) → (Int → Option R) → Option R) (g_f35 : Nat → Int → List (List Int) → (List Int → Option R) → Option R) (k : Nat) (x : (Int × List (List Int) × Unit)) (y : (Unit)) (K : RV D → Option R) : f25_s g_f37 g_f35 k x.1 x.2.1 (fun z0 z1 => K ⟨.tup [.int .i64 z0, .int .i64 z1], []⟩) = exec cx (f25_o g_f37 g_f35 k) (f25_lrc g_f37 g_f35 k) f25_ann kp 23 0 f25_b (entry (gives (D := D) [.int .i64, .list (.slice (.int .u8))] x) (giveOs (D := D) [] y)) (fin cx Try.f25.results.toList [] 0 K) := by kernel_rfl
theorem f25_ok {R : Type} (k : Nat) {e : Dr D R} (he : FnOk Try.prog cx 25 e) : FnOk Try.prog cx 25 (f25_d (f25 k) e) :=
  he.door fun x y => body_ok (keep := kp) (ann := f25_ann) (lrc := f25_lrc (R := R) (f37 (R := R)) (f35 (R := R)) k) (N := 23) (n0 := 0) (c := []) cxOk mixed (f25_o_ok k) (body := f25_b) (by kernel_rfl : Try.prog.funcs[25]? = some Try.f25) (by kernel_rfl) (by kernel_rfl) (by kernel_rfl) (by kernel_rfl) (of_decide_eq_true (by kernel_rfl)) (L := []) (by kernel_rfl) trivial (LrcNat.no) (fun K => f25_e (f37 (R := R)) (f35 (R := R)) k x y K)

/-! ## 26: diorama/lace.Best -/
noncomputable def f26_l6 {R : Type} (g_f36 : Nat → Int → List (List Int) → (Int → Option R) → Option R) (g_f24 : Nat → Int → List (List Int) → (Int → Int → Option R) → Option R) : Nat → List (List Int) → Int → Int → Int → (Int → Option R) → Option R
  | 0, _, _, _, _, _ => none
  | k + 1, v2, v3, v4, v5, X0 =>
    bif decide (v5 < 4) then
      g_f24 k v5 v2 (fun v6 v7 =>
        bif (v7 == 0) then
          bif decide (v6 < v4) then
            f26_l6 g_f36 g_f24 k v2 v5 v6 (IntKind.i64.wrap (v5 + 1)) X0
          else
            f26_l6 g_f36 g_f24 k v2 v3 v4 (IntKind.i64.wrap (v5 + 1)) X0
        else
          f26_l6 g_f36 g_f24 k v2 v3 v4 (IntKind.i64.wrap (v5 + 1)) X0)
    else
      X0 v3
noncomputable def f26_s {R : Type} (g_f36 : Nat → Int → List (List Int) → (Int → Option R) → Option R) (g_f24 : Nat → Int → List (List Int) → (Int → Int → Option R) → Option R) (k : Nat) (a0 : List (List Int)) (K : Int → Int → Option R) : Option R :=
  g_f36 k 1 a0 (fun v1 =>
    bif (v1 != 0) then
      K 0 v1
    else
      f26_l6 g_f36 g_f24 k a0 0 1152921504606846976 0 (fun v8 =>
        K v8 0))
noncomputable def f26 {R : Type} (k : Nat) (a0 : List (List Int)) (K : Int → Int → Option R) : Option R := f26_s (f36 (R := R)) (f24 (R := R)) k a0 K
noncomputable def f26_o {R : Type} (g_f36 : Nat → Int → List (List Int) → (Int → Option R) → Option R) (g_f24 : Nat → Int → List (List Int) → (Int → Int → Option R) → Option R) (k : Nat) : Orc D R := (orcAdd 24 (f24_d (g_f24 k) noDr) (orcAdd 36 (f36_d (g_f36 k) noDr) noOrc))
theorem f26_o_ok {R : Type} (k : Nat) : OrcOk Try.prog cx (f26_o (R := R) (f36 (R := R)) (f24 (R := R)) k) := (OrcOk.add (f24_ok k FnOk.no) (OrcOk.add (f36_ok k FnOk.no) OrcOk.no))
noncomputable def f26_b : Code := bodyOf Try.f26
noncomputable def f26_l6_a : LAnn := ⟨⟨[], [0, 5, 6, 15], []⟩, exOf (none) [(0, ⟨[], [5], []⟩)]⟩
noncomputable def f26_ann : Nat → Option LAnn := fun key => bif Nat.beq key 6 then some f26_l6_a else none
noncomputable def f26_l6_b : Code := loopAt f26_b 0
noncomputable def f26_l6_g {R : Type} (g_f36 : Nat → Int → List (List Int) → (Int → Option R) → Option R) (g_f24 : Nat → Int → List (List Int) → (Int → Int → Option R) → Option R) (k : Nat) (x : (List (List Int) × Int × Int × Int × Unit)) (_y : (Unit)) (K : Ex → List (PV D) → List (Option (Am.Obj D)) → Option R) : Option R := f26_l6 g_f36 g_f24 k x.1 x.2.1 x.2.2.1 x.2.2.2.1 (fun z0 => K (.exit 0) [.int .i64 z0] [])
noncomputable def f26_l6_d {R : Type} (g_f36 : Nat → Int → List (List Int) → (Int → Option R) → Option R) (g_f24 : Nat → Int → List (List Int) → (Int → Int → Option R) → Option R) (k : Nat) : Lr D R := ldoor [.list (.slice (.int .u8)), .int .i64, .int .i64, .int .i64] [] (f26_l6_g g_f36 g_f24 k)
noncomputable def f26_l6_lrc {R : Type} (_g_f36 : Nat → Int → List (List Int) → (Int → Option R) → Option R) (_g_f24 : Nat → Int → List (List Int) → (Int → Int → Option R) → Option R) (_k : Nat) : Lrc D R := noLrc
theorem f26_l6_e {R : Type} (g_f36 : Nat → Int → List (List Int) → (Int → Option R) → Option R) (g_f24 : Nat → Int → List (List Int) → (Int → Int → Option R) → Option R) (k : Nat) (x : (List (List Int) × Int × Int × Int × Unit)) (y : (Unit)) (K : Ex → List (PV D) → List (Option (Am.Obj D)) → Option R) : f26_l6_g g_f36 g_f24 (k + 1) x y K = round cx (f26_o g_f36 g_f24 k) (f26_l6_lrc g_f36 g_f24 k) f26_ann kp 35 0 f26_l6_a f26_l6_b (gives (D := D) [.list (.slice (.int .u8)), .int .i64, .int .i64, .int .i64] x) (giveGs (D := D) [] y) (fun vs os => f26_l6_d g_f36 g_f24 k vs os K) K := by kernel_rfl
theorem f26_l6_d_ok {R : Type} : ∀ k, LoopOk Try.prog cx 35 0 f26_ann (f26_l6_d (R := R) (f36 (R := R)) (f24 (R := R)) k) f26_l6_b :=
  loop_ok (keep := kp) (lrc := f26_l6_lrc (R := R) (f36 (R := R)) (f24 (R := R))) cxOk mixed f26_o_ok (show f26_ann (Am.keyOf f26_l6_b) = some f26_l6_a by kernel_rfl) (L := []) (by kernel_rfl) (fun k => trivial) (fun k => LrcNat.no) (fun x y K => by kernel_rfl) (f26_l6_e (f36 (R := R)) (f24 (R := R)))
noncomputable def f26_lrc {R : Type} (g_f36 : Nat → Int → List (List Int) → (Int → Option R) → Option R) (g_f24 : Nat → Int → List (List Int) → (Int → Int → Option R) → Option R) (k : Nat) : Lrc D R := (lrcAdd 6 (f26_l6_d g_f36 g_f24 k) noLrc)
noncomputable def f26_d {R : Type} (g : List (List Int) → (Int → Int → Option R) → Option R) (e : Dr D R) : Dr D R := door [.list (.slice (.int .u8))] [] (fun (x : (List (List Int) × Unit)) (_y : (Unit)) K => g x.1 (fun z0 z1 => K ⟨.tup [.int .i64 z0, .int .i64 z1], []⟩)) e
theorem f26_e {R : Type} (g_f36 : Nat → Int → List (List Int) → (Int → Option R) → Option R) (g_f24 : Nat → Int → List (List Int) → (Int → Int → Option R) → Option R) (k : Nat) (x : (List (List Int) × Unit)) (y : (Unit)) (K : RV D → Option R) : f26_s g_f36 g_f24 k x.1 (fun z0 z1 => K ⟨.tup [.int .i64 z0, .int .i64 z1], []⟩) = exec cx (f26_o g_f36 g_f24 k) (f26_lrc g_f36 g_f24 k) f26_ann kp 35 0 f26_b (entry (gives (D := D) [.list (.slice (.int .u8))] x) (giveOs (D := D) [] y)) (fin cx Try.f26.results.toList [] 0 K) := by kernel_rfl
theorem f26_ok {R : Type} (k : Nat) {e : Dr D R} (he : FnOk Try.prog cx 26 e) : FnOk Try.prog cx 26 (f26_d (f26 k) e) :=
  he.door fun x y => body_ok (keep := kp) (ann := f26_ann) (lrc := f26_lrc (R := R) (f36 (R := R)) (f24 (R := R)) k) (N := 35) (n0 := 0) (c := []) cxOk mixed (f26_o_ok k) (body := f26_b) (by kernel_rfl : Try.prog.funcs[26]? = some Try.f26) (by kernel_rfl) (by kernel_rfl) (by kernel_rfl) (by kernel_rfl) (of_decide_eq_true (by kernel_rfl)) (L := [f26_l6_b]) (by kernel_rfl) ⟨(f26_l6_d_ok k).use (by kernel_rfl), trivial⟩ ((LrcNat.add (f26_l6_d_ok k).2 LrcNat.no)) (fun K => f26_e (f36 (R := R)) (f24 (R := R)) k x y K)

/-! ## 27: diorama/dioramaref05.Best -/
noncomputable def f27_l5 {R : Type} (g_f37 : Nat → Int → List (List Int) → (Int → Option R) → Option R) (g_f25 : Nat → Int → List (List Int) → (Int → Int → Option R) → Option R) : Nat → List (List Int) → Int → Int → Int → (Int → Option R) → Option R
  | 0, _, _, _, _, _ => none
  | k + 1, v2, v3, v4, v5, X0 =>
    bif decide (v5 ≤ 3) then
      g_f25 k v5 v2 (fun v6 v7 =>
        bif (v7 == 0) then
          bif decide (v3 < 0) then
            f27_l5 g_f37 g_f25 k v2 v5 v6 (IntKind.i64.wrap (v5 + 1)) X0
          else
            bif decide (v6 < v4) then
              f27_l5 g_f37 g_f25 k v2 v5 v6 (IntKind.i64.wrap (v5 + 1)) X0
            else
              f27_l5 g_f37 g_f25 k v2 v3 v4 (IntKind.i64.wrap (v5 + 1)) X0
        else
          f27_l5 g_f37 g_f25 k v2 v3 v4 (IntKind.i64.wrap (v5 + 1)) X0)
    else
      X0 v3
noncomputable def f27_s {R : Type} (g_f37 : Nat → Int → List (List Int) → (Int → Option R) → Option R) (g_f25 : Nat → Int → List (List Int) → (Int → Int → Option R) → Option R) (k : Nat) (a0 : List (List Int)) (K : Int → Int → Option R) : Option R :=
  g_f37 k 1 a0 (fun v1 =>
    bif (v1 != 0) then
      K 0 2
    else
      f27_l5 g_f37 g_f25 k a0 (-1) 0 0 (fun v8 =>
        K v8 0))
noncomputable def f27 {R : Type} (k : Nat) (a0 : List (List Int)) (K : Int → Int → Option R) : Option R := f27_s (f37 (R := R)) (f25 (R := R)) k a0 K
noncomputable def f27_o {R : Type} (g_f37 : Nat → Int → List (List Int) → (Int → Option R) → Option R) (g_f25 : Nat → Int → List (List Int) → (Int → Int → Option R) → Option R) (k : Nat) : Orc D R := (orcAdd 25 (f25_d (g_f25 k) noDr) (orcAdd 37 (f37_d (g_f37 k) noDr) noOrc))
theorem f27_o_ok {R : Type} (k : Nat) : OrcOk Try.prog cx (f27_o (R := R) (f37 (R := R)) (f25 (R := R)) k) := (OrcOk.add (f25_ok k FnOk.no) (OrcOk.add (f37_ok k FnOk.no) OrcOk.no))
noncomputable def f27_b : Code := bodyOf Try.f27
noncomputable def f27_l5_a : LAnn := ⟨⟨[], [0, 4, 5, 6], []⟩, exOf (none) [(0, ⟨[], [4], []⟩)]⟩
noncomputable def f27_ann : Nat → Option LAnn := fun key => bif Nat.beq key 5 then some f27_l5_a else none
noncomputable def f27_l5_b : Code := loopAt f27_b 0
noncomputable def f27_l5_g {R : Type} (g_f37 : Nat → Int → List (List Int) → (Int → Option R) → Option R) (g_f25 : Nat → Int → List (List Int) → (Int → Int → Option R) → Option R) (k : Nat) (x : (List (List Int) × Int × Int × Int × Unit)) (_y : (Unit)) (K : Ex → List (PV D) → List (Option (Am.Obj D)) → Option R) : Option R := f27_l5 g_f37 g_f25 k x.1 x.2.1 x.2.2.1 x.2.2.2.1 (fun z0 => K (.exit 0) [.int .i64 z0] [])
noncomputable def f27_l5_d {R : Type} (g_f37 : Nat → Int → List (List Int) → (Int → Option R) → Option R) (g_f25 : Nat → Int → List (List Int) → (Int → Int → Option R) → Option R) (k : Nat) : Lr D R := ldoor [.list (.slice (.int .u8)), .int .i64, .int .i64, .int .i64] [] (f27_l5_g g_f37 g_f25 k)
noncomputable def f27_l5_lrc {R : Type} (_g_f37 : Nat → Int → List (List Int) → (Int → Option R) → Option R) (_g_f25 : Nat → Int → List (List Int) → (Int → Int → Option R) → Option R) (_k : Nat) : Lrc D R := noLrc
theorem f27_l5_e {R : Type} (g_f37 : Nat → Int → List (List Int) → (Int → Option R) → Option R) (g_f25 : Nat → Int → List (List Int) → (Int → Int → Option R) → Option R) (k : Nat) (x : (List (List Int) × Int × Int × Int × Unit)) (y : (Unit)) (K : Ex → List (PV D) → List (Option (Am.Obj D)) → Option R) : f27_l5_g g_f37 g_f25 (k + 1) x y K = round cx (f27_o g_f37 g_f25 k) (f27_l5_lrc g_f37 g_f25 k) f27_ann kp 36 0 f27_l5_a f27_l5_b (gives (D := D) [.list (.slice (.int .u8)), .int .i64, .int .i64, .int .i64] x) (giveGs (D := D) [] y) (fun vs os => f27_l5_d g_f37 g_f25 k vs os K) K := by kernel_rfl
theorem f27_l5_d_ok {R : Type} : ∀ k, LoopOk Try.prog cx 36 0 f27_ann (f27_l5_d (R := R) (f37 (R := R)) (f25 (R := R)) k) f27_l5_b :=
  loop_ok (keep := kp) (lrc := f27_l5_lrc (R := R) (f37 (R := R)) (f25 (R := R))) cxOk mixed f27_o_ok (show f27_ann (Am.keyOf f27_l5_b) = some f27_l5_a by kernel_rfl) (L := []) (by kernel_rfl) (fun k => trivial) (fun k => LrcNat.no) (fun x y K => by kernel_rfl) (f27_l5_e (f37 (R := R)) (f25 (R := R)))
noncomputable def f27_lrc {R : Type} (g_f37 : Nat → Int → List (List Int) → (Int → Option R) → Option R) (g_f25 : Nat → Int → List (List Int) → (Int → Int → Option R) → Option R) (k : Nat) : Lrc D R := (lrcAdd 5 (f27_l5_d g_f37 g_f25 k) noLrc)
noncomputable def f27_d {R : Type} (g : List (List Int) → (Int → Int → Option R) → Option R) (e : Dr D R) : Dr D R := door [.list (.slice (.int .u8))] [] (fun (x : (List (List Int) × Unit)) (_y : (Unit)) K => g x.1 (fun z0 z1 => K ⟨.tup [.int .i64 z0, .int .i64 z1], []⟩)) e
theorem f27_e {R : Type} (g_f37 : Nat → Int → List (List Int) → (Int → Option R) → Option R) (g_f25 : Nat → Int → List (List Int) → (Int → Int → Option R) → Option R) (k : Nat) (x : (List (List Int) × Unit)) (y : (Unit)) (K : RV D → Option R) : f27_s g_f37 g_f25 k x.1 (fun z0 z1 => K ⟨.tup [.int .i64 z0, .int .i64 z1], []⟩) = exec cx (f27_o g_f37 g_f25 k) (f27_lrc g_f37 g_f25 k) f27_ann kp 36 0 f27_b (entry (gives (D := D) [.list (.slice (.int .u8))] x) (giveOs (D := D) [] y)) (fin cx Try.f27.results.toList [] 0 K) := by kernel_rfl
theorem f27_ok {R : Type} (k : Nat) {e : Dr D R} (he : FnOk Try.prog cx 27 e) : FnOk Try.prog cx 27 (f27_d (f27 k) e) :=
  he.door fun x y => body_ok (keep := kp) (ann := f27_ann) (lrc := f27_lrc (R := R) (f37 (R := R)) (f25 (R := R)) k) (N := 36) (n0 := 0) (c := []) cxOk mixed (f27_o_ok k) (body := f27_b) (by kernel_rfl : Try.prog.funcs[27]? = some Try.f27) (by kernel_rfl) (by kernel_rfl) (by kernel_rfl) (by kernel_rfl) (of_decide_eq_true (by kernel_rfl)) (L := [f27_l5_b]) (by kernel_rfl) ⟨(f27_l5_d_ok k).use (by kernel_rfl), trivial⟩ ((LrcNat.add (f27_l5_d_ok k).2 LrcNat.no)) (fun K => f27_e (f37 (R := R)) (f25 (R := R)) k x y K)

/-! ## 7: diorama/dioramalaw05.LaceCosts -/
noncomputable def f7_s {R : Type} (g_f9 : Nat → List (List Int) → (Bool → Option R) → Option R) (g_f15 : Nat → (Bool → Option R) → Option R) (g_f24 : Nat → Int → List (List Int) → (Int → Int → Option R) → Option R) (g_f25 : Nat → Int → List (List Int) → (Int → Int → Option R) → Option R) (g_f26 : Nat → List (List Int) → (Int → Int → Option R) → Option R) (g_f27 : Nat → List (List Int) → (Int → Int → Option R) → Option R) (k : Nat) (a0 : List (List Int)) (a1 : Int) (K : Bool → Option R) : Option R :=
  g_f9 k a0 (fun v1 =>
    bif (!v1) then
      K true
    else
      g_f24 k a1 a0 (fun v2 v3 =>
        g_f25 k a1 a0 (fun v4 v5 =>
          bif (v2 != v4) then
            K false
          else
            bif (v3 != v5) then
              K false
            else
              g_f26 k a0 (fun v6 v7 =>
                g_f27 k a0 (fun v8 v9 =>
                  bif (v6 != v8) then
                    K false
                  else
                    bif (v7 != v9) then
                      K false
                    else
                      bif (v7 == 0) then
                        g_f24 k v6 a0 (fun v10 v11 =>
                          bif (v11 != 0) then
                            K false
                          else
                            bif (v3 == 0) then
                              bif decide (v2 < v10) then
                                K false
                              else
                                g_f15 k (fun v12 =>
                                  K v12)
                            else
                              g_f15 k (fun v13 =>
                                K v13))
                      else
                        g_f15 k (fun v14 =>
                          K v14))))))
noncomputable def f7 {R : Type} (k : Nat) (a0 : List (List Int)) (a1 : Int) (K : Bool → Option R) : Option R := f7_s (f9 (R := R)) (f15 (R := R)) (f24 (R := R)) (f25 (R := R)) (f26 (R := R)) (f27 (R := R)) k a0 a1 K
noncomputable def f7_o {R : Type} (g_f9 : Nat → List (List Int) → (Bool → Option R) → Option R) (g_f15 : Nat → (Bool → Option R) → Option R) (g_f24 : Nat → Int → List (List Int) → (Int → Int → Option R) → Option R) (g_f25 : Nat → Int → List (List Int) → (Int → Int → Option R) → Option R) (g_f26 : Nat → List (List Int) → (Int → Int → Option R) → Option R) (g_f27 : Nat → List (List Int) → (Int → Int → Option R) → Option R) (k : Nat) : Orc D R := (orcAdd 27 (f27_d (g_f27 k) noDr) (orcAdd 26 (f26_d (g_f26 k) noDr) (orcAdd 25 (f25_d (g_f25 k) noDr) (orcAdd 24 (f24_d (g_f24 k) noDr) (orcAdd 15 (f15_d (g_f15 k) noDr) (orcAdd 9 (f9_d (g_f9 k) noDr) noOrc))))))
theorem f7_o_ok {R : Type} (k : Nat) : OrcOk Try.prog cx (f7_o (R := R) (f9 (R := R)) (f15 (R := R)) (f24 (R := R)) (f25 (R := R)) (f26 (R := R)) (f27 (R := R)) k) := (OrcOk.add (f27_ok k FnOk.no) (OrcOk.add (f26_ok k FnOk.no) (OrcOk.add (f25_ok k FnOk.no) (OrcOk.add (f24_ok k FnOk.no) (OrcOk.add (f15_ok k FnOk.no) (OrcOk.add (f9_ok k FnOk.no) OrcOk.no))))))
noncomputable def f7_b : Code := bodyOf Try.f7
noncomputable def f7_ann : Nat → Option LAnn := fun _key => none
noncomputable def f7_lrc {R : Type} (_g_f9 : Nat → List (List Int) → (Bool → Option R) → Option R) (_g_f15 : Nat → (Bool → Option R) → Option R) (_g_f24 : Nat → Int → List (List Int) → (Int → Int → Option R) → Option R) (_g_f25 : Nat → Int → List (List Int) → (Int → Int → Option R) → Option R) (_g_f26 : Nat → List (List Int) → (Int → Int → Option R) → Option R) (_g_f27 : Nat → List (List Int) → (Int → Int → Option R) → Option R) (_k : Nat) : Lrc D R := noLrc
noncomputable def f7_d {R : Type} (g : List (List Int) → Int → (Bool → Option R) → Option R) (e : Dr D R) : Dr D R := door [.list (.slice (.int .u8)), .int .i64] [] (fun (x : (List (List Int) × Int × Unit)) (_y : (Unit)) K => g x.1 x.2.1 (fun z0 => K ⟨.bool z0, []⟩)) e
theorem f7_e {R : Type} (g_f9 : Nat → List (List Int) → (Bool → Option R) → Option R) (g_f15 : Nat → (Bool → Option R) → Option R) (g_f24 : Nat → Int → List (List Int) → (Int → Int → Option R) → Option R) (g_f25 : Nat → Int → List (List Int) → (Int → Int → Option R) → Option R) (g_f26 : Nat → List (List Int) → (Int → Int → Option R) → Option R) (g_f27 : Nat → List (List Int) → (Int → Int → Option R) → Option R) (k : Nat) (x : (List (List Int) × Int × Unit)) (y : (Unit)) (K : RV D → Option R) : f7_s g_f9 g_f15 g_f24 g_f25 g_f26 g_f27 k x.1 x.2.1 (fun z0 => K ⟨.bool z0, []⟩) = exec cx (f7_o g_f9 g_f15 g_f24 g_f25 g_f26 g_f27 k) (f7_lrc g_f9 g_f15 g_f24 g_f25 g_f26 g_f27 k) f7_ann kp 76 0 f7_b (entry (gives (D := D) [.list (.slice (.int .u8)), .int .i64] x) (giveOs (D := D) [] y)) (fin cx Try.f7.results.toList [] 0 K) := by kernel_rfl
theorem f7_ok {R : Type} (k : Nat) {e : Dr D R} (he : FnOk Try.prog cx 7 e) : FnOk Try.prog cx 7 (f7_d (f7 k) e) :=
  he.door fun x y => body_ok (keep := kp) (ann := f7_ann) (lrc := f7_lrc (R := R) (f9 (R := R)) (f15 (R := R)) (f24 (R := R)) (f25 (R := R)) (f26 (R := R)) (f27 (R := R)) k) (N := 76) (n0 := 0) (c := []) cxOk mixed (f7_o_ok k) (body := f7_b) (by kernel_rfl : Try.prog.funcs[7]? = some Try.f7) (by kernel_rfl) (by kernel_rfl) (by kernel_rfl) (by kernel_rfl) (of_decide_eq_true (by kernel_rfl)) (L := []) (by kernel_rfl) trivial (LrcNat.no) (fun K => f7_e (f9 (R := R)) (f15 (R := R)) (f24 (R := R)) (f25 (R := R)) (f26 (R := R)) (f27 (R := R)) k x y K)

/-! ## 28: diorama/lace.Split -/
noncomputable def f28_l6 {R : Type} (g_f12 : Nat → Int → Int → Bool → Int → List (List Int) → (Int → Option R) → Option R) (g_f40_2 : Nat → List Int → (List Int → Option R) → Option R) : Nat → List (List Int) → Int → Int → Int → Int → Bool → Int → List (List Int) → List D0 → (List D0 → Option R) → Option R
  | 0, _, _, _, _, _, _, _, _, _, _ => none
  | k + 1, v2, v3, v4, v5, v6, v7, v8, v9, v10, X0 =>
    bif decide (v4 < v3) then
      bif inb v4 v2.length then
        g_f40_2 k (v2.getD v4.toNat []) (fun v11 =>
          bif room 56 (v10.length + ([(v5, v6, v7, 0, [v11])]).length) then
            f28_l6 g_f12 g_f40_2 k v2 v3 (IntKind.i64.wrap (v4 + 1)) v5 v6 v7 v8 v9 (v10 ++ ([(v5, v6, v7, 0, [v11])])) X0
          else
            none)
      else
        none
    else
      X0 v10
noncomputable def f28_s {R : Type} (g_f12 : Nat → Int → Int → Bool → Int → List (List Int) → (Int → Option R) → Option R) (g_f40_2 : Nat → List Int → (List Int → Option R) → Option R) (k : Nat) (a0 : Int) (a1 : Int) (a2 : Bool) (a3 : Int) (a4 : List (List Int)) (K : Int → List D0 → Option R) : Option R :=
  g_f12 k a0 a1 a2 a3 a4 (fun v1 =>
    bif (v1 != 0) then
      K v1 ([] : List D0)
    else
      f28_l6 g_f12 g_f40_2 k a4 (a4.length : Int) 0 a0 a1 a2 a3 a4 ([] : List D0) (fun v12 =>
        K 0 v12))
noncomputable def f28 {R : Type} (k : Nat) (a0 : Int) (a1 : Int) (a2 : Bool) (a3 : Int) (a4 : List (List Int)) (K : Int → List D0 → Option R) : Option R := f28_s (f12 (R := R)) (f40_2 (R := R)) k a0 a1 a2 a3 a4 K
noncomputable def f28_o {R : Type} (g_f12 : Nat → Int → Int → Bool → Int → List (List Int) → (Int → Option R) → Option R) (g_f40_2 : Nat → List Int → (List Int → Option R) → Option R) (k : Nat) : Orc D R := (orcAdd 40 (f40_2L_d (g_f40_2 k) noDr) (orcAdd 12 (f12_d (g_f12 k) noDr) noOrc))
theorem f28_o_ok {R : Type} (k : Nat) : OrcOk Try.prog cx (f28_o (R := R) (f12 (R := R)) (f40_2 (R := R)) k) := (OrcOk.add (f40_2L_ok k FnOk.no) (OrcOk.add (f12_ok k FnOk.no) OrcOk.no))
noncomputable def f28_b : Code := bodyOf Try.f28
noncomputable def f28_l6_a : LAnn := ⟨⟨[(.tmp 5, .own 68719501312 (.named 0))], [1, 5, 14, 15, 16], [65568, 68719501312]⟩, exOf (none) [(0, ⟨[], [5], [68719501312]⟩)]⟩
noncomputable def f28_ann : Nat → Option LAnn := fun key => bif Nat.beq key 6 then some f28_l6_a else none
noncomputable def f28_l6_b : Code := loopAt f28_b 0
noncomputable def f28_l6_g {R : Type} (g_f12 : Nat → Int → Int → Bool → Int → List (List Int) → (Int → Option R) → Option R) (g_f40_2 : Nat → List Int → (List Int → Option R) → Option R) (k : Nat) (x : (Unit × Unit × List (List Int) × Int × Int × Unit)) (y : ((Int × Int × Bool × Int × List (List Int) × Unit) × List D0 × Unit)) (K : Ex → List (PV D) → List (Option (Am.Obj D)) → Option R) : Option R := f28_l6 g_f12 g_f40_2 k x.2.2.1 x.2.2.2.1 x.2.2.2.2.1 y.1.1 y.1.2.1 y.1.2.2.1 y.1.2.2.2.1 y.1.2.2.2.2.1 y.2.1 (fun z0 => K (.exit 0) [.own 68719501312] [some (.row (.named 0) z0 true)])
noncomputable def f28_l6_d {R : Type} (g_f12 : Nat → Int → Int → Bool → Int → List (List Int) → (Int → Option R) → Option R) (g_f40_2 : Nat → List Int → (List Int → Option R) → Option R) (k : Nat) : Lr D R := ldoor [.ptr 65568 0, .own 68719501312, .list (.slice (.int .u8)), .int .i64, .int .i64] [some (.box [.int .i64, .int .i64, .bool, .int .i64, .list (.slice (.int .u8))]), some (.row (.named 0) true)] (f28_l6_g g_f12 g_f40_2 k)
noncomputable def f28_l6_lrc {R : Type} (_g_f12 : Nat → Int → Int → Bool → Int → List (List Int) → (Int → Option R) → Option R) (_g_f40_2 : Nat → List Int → (List Int → Option R) → Option R) (_k : Nat) : Lrc D R := noLrc
theorem f28_l6_e {R : Type} (g_f12 : Nat → Int → Int → Bool → Int → List (List Int) → (Int → Option R) → Option R) (g_f40_2 : Nat → List Int → (List Int → Option R) → Option R) (k : Nat) (x : (Unit × Unit × List (List Int) × Int × Int × Unit)) (y : ((Int × Int × Bool × Int × List (List Int) × Unit) × List D0 × Unit)) (K : Ex → List (PV D) → List (Option (Am.Obj D)) → Option R) : f28_l6_g g_f12 g_f40_2 (k + 1) x y K = round cx (f28_o g_f12 g_f40_2 k) (f28_l6_lrc g_f12 g_f40_2 k) f28_ann kp 35 0 f28_l6_a f28_l6_b (gives (D := D) [.ptr 65568 0, .own 68719501312, .list (.slice (.int .u8)), .int .i64, .int .i64] x) (giveGs (D := D) [some (.box [.int .i64, .int .i64, .bool, .int .i64, .list (.slice (.int .u8))]), some (.row (.named 0) true)] y) (fun vs os => f28_l6_d g_f12 g_f40_2 k vs os K) K := by kernel_rfl
theorem f28_l6_d_ok {R : Type} : ∀ k, LoopOk Try.prog cx 35 0 f28_ann (f28_l6_d (R := R) (f12 (R := R)) (f40_2 (R := R)) k) f28_l6_b :=
  loop_ok (keep := kp) (lrc := f28_l6_lrc (R := R) (f12 (R := R)) (f40_2 (R := R))) cxOk mixed f28_o_ok (show f28_ann (Am.keyOf f28_l6_b) = some f28_l6_a by kernel_rfl) (L := []) (by kernel_rfl) (fun k => trivial) (fun k => LrcNat.no) (fun x y K => by kernel_rfl) (f28_l6_e (f12 (R := R)) (f40_2 (R := R)))
noncomputable def f28_lrc {R : Type} (g_f12 : Nat → Int → Int → Bool → Int → List (List Int) → (Int → Option R) → Option R) (g_f40_2 : Nat → List Int → (List Int → Option R) → Option R) (k : Nat) : Lrc D R := (lrcAdd 6 (f28_l6_d g_f12 g_f40_2 k) noLrc)
noncomputable def f28_d {R : Type} (g : Int → Int → Bool → Int → List (List Int) → (Int → List D0 → Option R) → Option R) (e : Dr D R) : Dr D R := door [.agg [.int .i64, .int .i64, .bool, .int .i64, .list (.slice (.int .u8))]] [] (fun (x : ((Int × Int × Bool × Int × List (List Int) × Unit) × Unit)) (_y : (Unit)) K => g x.1.1 x.1.2.1 x.1.2.2.1 x.1.2.2.2.1 x.1.2.2.2.2.1 (fun z0 z1 => K ⟨.tup [.own 0, .int .i64 z0], [some (.row (.named 0) z1 true)]⟩)) e
theorem f28_e {R : Type} (g_f12 : Nat → Int → Int → Bool → Int → List (List Int) → (Int → Option R) → Option R) (g_f40_2 : Nat → List Int → (List Int → Option R) → Option R) (k : Nat) (x : ((Int × Int × Bool × Int × List (List Int) × Unit) × Unit)) (y : (Unit)) (K : RV D → Option R) : f28_s g_f12 g_f40_2 k x.1.1 x.1.2.1 x.1.2.2.1 x.1.2.2.2.1 x.1.2.2.2.2.1 (fun z0 z1 => K ⟨.tup [.own 0, .int .i64 z0], [some (.row (.named 0) z1 true)]⟩) = exec cx (f28_o g_f12 g_f40_2 k) (f28_lrc g_f12 g_f40_2 k) f28_ann kp 35 0 f28_b (entry (gives (D := D) [.agg [.int .i64, .int .i64, .bool, .int .i64, .list (.slice (.int .u8))]] x) (giveOs (D := D) [] y)) (fin cx Try.f28.results.toList [(.tmp 2, .own 1099511627776 (.named 0))] 0 K) := by kernel_rfl
theorem f28_ok {R : Type} (k : Nat) {e : Dr D R} (he : FnOk Try.prog cx 28 e) : FnOk Try.prog cx 28 (f28_d (f28 k) e) :=
  he.door fun x y => body_ok (keep := kp) (ann := f28_ann) (lrc := f28_lrc (R := R) (f12 (R := R)) (f40_2 (R := R)) k) (N := 35) (n0 := 0) (c := [(.tmp 2, .own 1099511627776 (.named 0))]) cxOk mixed (f28_o_ok k) (body := f28_b) (by kernel_rfl : Try.prog.funcs[28]? = some Try.f28) (by kernel_rfl) (by kernel_rfl) (by kernel_rfl) (by kernel_rfl) (of_decide_eq_true (by kernel_rfl)) (L := [f28_l6_b]) (by kernel_rfl) ⟨(f28_l6_d_ok k).use (by kernel_rfl), trivial⟩ ((LrcNat.add (f28_l6_d_ok k).2 LrcNat.no)) (fun K => f28_e (f12 (R := R)) (f40_2 (R := R)) k x y K)

/-! ## 29: diorama/dioramaref05.Split -/
noncomputable def f29_l6 {R : Type} (g_f13 : Nat → Int → Int → Bool → Int → List (List Int) → (Int → Option R) → Option R) (g_f42 : Nat → List Int → (List Int → Option R) → Option R) : Nat → Int → Int → Int → Bool → Int → List (List Int) → List D0 → (List D0 → Option R) → Option R
  | 0, _, _, _, _, _, _, _, _ => none
  | k + 1, v2, v3, v4, v5, v6, v7, v8, X0 =>
    bif decide (v2 < (v7.length : Int)) then
      bif inb v2 v7.length then
        g_f42 k (v7.getD v2.toNat []) (fun v9 =>
          bif room 56 (v8.length + ([(v3, v4, v5, 0, [v9])]).length) then
            f29_l6 g_f13 g_f42 k (IntKind.i64.wrap (v2 + 1)) v3 v4 v5 v6 v7 (v8 ++ ([(v3, v4, v5, 0, [v9])])) X0
          else
            none)
      else
        none
    else
      X0 v8
noncomputable def f29_s {R : Type} (g_f13 : Nat → Int → Int → Bool → Int → List (List Int) → (Int → Option R) → Option R) (g_f42 : Nat → List Int → (List Int → Option R) → Option R) (k : Nat) (a0 : Int) (a1 : Int) (a2 : Bool) (a3 : Int) (a4 : List (List Int)) (K : Int → List D0 → Option R) : Option R :=
  g_f13 k a0 a1 a2 a3 a4 (fun v1 =>
    bif (v1 != 0) then
      K v1 ([] : List D0)
    else
      f29_l6 g_f13 g_f42 k 0 a0 a1 a2 a3 a4 ([] : List D0) (fun v10 =>
        K 0 v10))
noncomputable def f29 {R : Type} (k : Nat) (a0 : Int) (a1 : Int) (a2 : Bool) (a3 : Int) (a4 : List (List Int)) (K : Int → List D0 → Option R) : Option R := f29_s (f13 (R := R)) (f42 (R := R)) k a0 a1 a2 a3 a4 K
noncomputable def f29_o {R : Type} (g_f13 : Nat → Int → Int → Bool → Int → List (List Int) → (Int → Option R) → Option R) (g_f42 : Nat → List Int → (List Int → Option R) → Option R) (k : Nat) : Orc D R := (orcAdd 42 (f42_d (g_f42 k) noDr) (orcAdd 13 (f13_d (g_f13 k) noDr) noOrc))
theorem f29_o_ok {R : Type} (k : Nat) : OrcOk Try.prog cx (f29_o (R := R) (f13 (R := R)) (f42 (R := R)) k) := (OrcOk.add (f42_ok k FnOk.no) (OrcOk.add (f13_ok k FnOk.no) OrcOk.no))
noncomputable def f29_b : Code := bodyOf Try.f29
noncomputable def f29_l6_a : LAnn := ⟨⟨[(.tmp 5, .own 68719501312 (.named 0))], [1, 5, 6], [65568, 68719501312]⟩, exOf (none) [(0, ⟨[], [5], [68719501312]⟩)]⟩
noncomputable def f29_ann : Nat → Option LAnn := fun key => bif Nat.beq key 6 then some f29_l6_a else none
noncomputable def f29_l6_b : Code := loopAt f29_b 0
noncomputable def f29_l6_g {R : Type} (g_f13 : Nat → Int → Int → Bool → Int → List (List Int) → (Int → Option R) → Option R) (g_f42 : Nat → List Int → (List Int → Option R) → Option R) (k : Nat) (x : (Unit × Unit × Int × Unit)) (y : ((Int × Int × Bool × Int × List (List Int) × Unit) × List D0 × Unit)) (K : Ex → List (PV D) → List (Option (Am.Obj D)) → Option R) : Option R := f29_l6 g_f13 g_f42 k x.2.2.1 y.1.1 y.1.2.1 y.1.2.2.1 y.1.2.2.2.1 y.1.2.2.2.2.1 y.2.1 (fun z0 => K (.exit 0) [.own 68719501312] [some (.row (.named 0) z0 true)])
noncomputable def f29_l6_d {R : Type} (g_f13 : Nat → Int → Int → Bool → Int → List (List Int) → (Int → Option R) → Option R) (g_f42 : Nat → List Int → (List Int → Option R) → Option R) (k : Nat) : Lr D R := ldoor [.ptr 65568 0, .own 68719501312, .int .i64] [some (.box [.int .i64, .int .i64, .bool, .int .i64, .list (.slice (.int .u8))]), some (.row (.named 0) true)] (f29_l6_g g_f13 g_f42 k)
noncomputable def f29_l6_lrc {R : Type} (_g_f13 : Nat → Int → Int → Bool → Int → List (List Int) → (Int → Option R) → Option R) (_g_f42 : Nat → List Int → (List Int → Option R) → Option R) (_k : Nat) : Lrc D R := noLrc
theorem f29_l6_e {R : Type} (g_f13 : Nat → Int → Int → Bool → Int → List (List Int) → (Int → Option R) → Option R) (g_f42 : Nat → List Int → (List Int → Option R) → Option R) (k : Nat) (x : (Unit × Unit × Int × Unit)) (y : ((Int × Int × Bool × Int × List (List Int) × Unit) × List D0 × Unit)) (K : Ex → List (PV D) → List (Option (Am.Obj D)) → Option R) : f29_l6_g g_f13 g_f42 (k + 1) x y K = round cx (f29_o g_f13 g_f42 k) (f29_l6_lrc g_f13 g_f42 k) f29_ann kp 37 0 f29_l6_a f29_l6_b (gives (D := D) [.ptr 65568 0, .own 68719501312, .int .i64] x) (giveGs (D := D) [some (.box [.int .i64, .int .i64, .bool, .int .i64, .list (.slice (.int .u8))]), some (.row (.named 0) true)] y) (fun vs os => f29_l6_d g_f13 g_f42 k vs os K) K := by kernel_rfl
theorem f29_l6_d_ok {R : Type} : ∀ k, LoopOk Try.prog cx 37 0 f29_ann (f29_l6_d (R := R) (f13 (R := R)) (f42 (R := R)) k) f29_l6_b :=
  loop_ok (keep := kp) (lrc := f29_l6_lrc (R := R) (f13 (R := R)) (f42 (R := R))) cxOk mixed f29_o_ok (show f29_ann (Am.keyOf f29_l6_b) = some f29_l6_a by kernel_rfl) (L := []) (by kernel_rfl) (fun k => trivial) (fun k => LrcNat.no) (fun x y K => by kernel_rfl) (f29_l6_e (f13 (R := R)) (f42 (R := R)))
noncomputable def f29_lrc {R : Type} (g_f13 : Nat → Int → Int → Bool → Int → List (List Int) → (Int → Option R) → Option R) (g_f42 : Nat → List Int → (List Int → Option R) → Option R) (k : Nat) : Lrc D R := (lrcAdd 6 (f29_l6_d g_f13 g_f42 k) noLrc)
noncomputable def f29_d {R : Type} (g : Int → Int → Bool → Int → List (List Int) → (Int → List D0 → Option R) → Option R) (e : Dr D R) : Dr D R := door [.agg [.int .i64, .int .i64, .bool, .int .i64, .list (.slice (.int .u8))]] [] (fun (x : ((Int × Int × Bool × Int × List (List Int) × Unit) × Unit)) (_y : (Unit)) K => g x.1.1 x.1.2.1 x.1.2.2.1 x.1.2.2.2.1 x.1.2.2.2.2.1 (fun z0 z1 => K ⟨.tup [.own 0, .int .i64 z0], [some (.row (.named 0) z1 true)]⟩)) e
theorem f29_e {R : Type} (g_f13 : Nat → Int → Int → Bool → Int → List (List Int) → (Int → Option R) → Option R) (g_f42 : Nat → List Int → (List Int → Option R) → Option R) (k : Nat) (x : ((Int × Int × Bool × Int × List (List Int) × Unit) × Unit)) (y : (Unit)) (K : RV D → Option R) : f29_s g_f13 g_f42 k x.1.1 x.1.2.1 x.1.2.2.1 x.1.2.2.2.1 x.1.2.2.2.2.1 (fun z0 z1 => K ⟨.tup [.own 0, .int .i64 z0], [some (.row (.named 0) z1 true)]⟩) = exec cx (f29_o g_f13 g_f42 k) (f29_lrc g_f13 g_f42 k) f29_ann kp 37 0 f29_b (entry (gives (D := D) [.agg [.int .i64, .int .i64, .bool, .int .i64, .list (.slice (.int .u8))]] x) (giveOs (D := D) [] y)) (fin cx Try.f29.results.toList [(.tmp 2, .own 1099511627776 (.named 0))] 0 K) := by kernel_rfl
theorem f29_ok {R : Type} (k : Nat) {e : Dr D R} (he : FnOk Try.prog cx 29 e) : FnOk Try.prog cx 29 (f29_d (f29 k) e) :=
  he.door fun x y => body_ok (keep := kp) (ann := f29_ann) (lrc := f29_lrc (R := R) (f13 (R := R)) (f42 (R := R)) k) (N := 37) (n0 := 0) (c := [(.tmp 2, .own 1099511627776 (.named 0))]) cxOk mixed (f29_o_ok k) (body := f29_b) (by kernel_rfl : Try.prog.funcs[29]? = some Try.f29) (by kernel_rfl) (by kernel_rfl) (by kernel_rfl) (by kernel_rfl) (of_decide_eq_true (by kernel_rfl)) (L := [f29_l6_b]) (by kernel_rfl) ⟨(f29_l6_d_ok k).use (by kernel_rfl), trivial⟩ ((LrcNat.add (f29_l6_d_ok k).2 LrcNat.no)) (fun K => f29_e (f13 (R := R)) (f42 (R := R)) k x y K)


end Go.Proofs.Ytnmoccdnkpkhhaa

/-! What the functions do, as plain functions; and that they do. -/
namespace Go.Proofs.Ytnmoccdnkpkhhaa
open Go Go.Am
/-! ## 30: diorama/dioramaref00.EqBlocks -/
noncomputable def f30_l4 {R : Type} (g_f17 : Nat → Int → Int → Bool → Int → List (List Int) → Int → Int → Bool → Int → List (List Int) → (Bool → Option R) → Option R) : Nat → List D0 → List D0 → Int → Option R → (Bool → Option R) → Option R
  | 0, _, _, _, _, _ => none
  | k + 1, v1, v2, v3, X0, X1 =>
    bif decide (v3 < (v1.length : Int)) then
      bif inb v3 v1.length then
        bif inb v3 v2.length then
          g_f17 k ((v1.getD v3.toNat zero0).1) ((v1.getD v3.toNat zero0).2.1) ((v1.getD v3.toNat zero0).2.2.1) ((v1.getD v3.toNat zero0).2.2.2.1) ((v1.getD v3.toNat zero0).2.2.2.2) ((v2.getD v3.toNat zero0).1) ((v2.getD v3.toNat zero0).2.1) ((v2.getD v3.toNat zero0).2.2.1) ((v2.getD v3.toNat zero0).2.2.2.1) ((v2.getD v3.toNat zero0).2.2.2.2) (fun v4 =>
            bif (!v4) then
              X1 false
            else
              f30_l4 g_f17 k v1 v2 (IntKind.i64.wrap (v3 + 1)) X0 X1)
        else
          none
      else
        none
    else
      X0
noncomputable def f30_s {R : Type} (g_f17 : Nat → Int → Int → Bool → Int → List (List Int) → Int → Int → Bool → Int → List (List Int) → (Bool → Option R) → Option R) (k : Nat) (a0 : List D0) (a1 : List D0) (K : Bool → Option R) : Option R :=
  bif ((a0.length : Int) != (a1.length : Int)) then
    K false
  else
    f30_l4 g_f17 k a0 a1 0 (
      K true) (fun v5 =>
      K v5)
noncomputable def f30 {R : Type} (k : Nat) (a0 : List D0) (a1 : List D0) (K : Bool → Option R) : Option R := f30_s (f17 (R := R)) k a0 a1 K
noncomputable def f30_o {R : Type} (g_f17 : Nat → Int → Int → Bool → Int → List (List Int) → Int → Int → Bool → Int → List (List Int) → (Bool → Option R) → Option R) (k : Nat) : Orc D R := (orcAdd 17 (f17_d (g_f17 k) noDr) noOrc)
theorem f30_o_ok {R : Type} (k : Nat) : OrcOk Try.prog cx (f30_o (R := R) (f17 (R := R)) k) := (OrcOk.add (f17_ok k FnOk.no) OrcOk.no)
noncomputable def f30_b : Code := bodyOf Try.f30
noncomputable def f30_l4_a : LAnn := ⟨⟨[], [0, 1, 5], []⟩, exOf (some ⟨[], [4], []⟩) [(0, ⟨[], [], []⟩)]⟩
noncomputable def f30_ann : Nat → Option LAnn := fun key => bif Nat.beq key 4 then some f30_l4_a else none
noncomputable def f30_l4_b : Code := loopAt f30_b 0
noncomputable def f30_l4_g {R : Type} (g_f17 : Nat → Int → Int → Bool → Int → List (List Int) → Int → Int → Bool → Int → List (List Int) → (Bool → Option R) → Option R) (k : Nat) (x : (List D0 × List D0 × Int × Unit)) (_y : (Unit)) (K : Ex → List (PV D) → List (Option (Am.Obj D)) → Option R) : Option R := f30_l4 g_f17 k x.1 x.2.1 x.2.2.1 (K (.exit 0) [] []) (fun z0 => K (.ret) [.bool z0] [])
noncomputable def f30_l4_d {R : Type} (g_f17 : Nat → Int → Int → Bool → Int → List (List Int) → Int → Int → Bool → Int → List (List Int) → (Bool → Option R) → Option R) (k : Nat) : Lr D R := ldoor [.list (.named 0), .list (.named 0), .int .i64] [] (f30_l4_g g_f17 k)
noncomputable def f30_l4_lrc {R : Type} (_g_f17 : Nat → Int → Int → Bool → Int → List (List Int) → Int → Int → Bool → Int → List (List Int) → (Bool → Option R) → Option R) (_k : Nat) : Lrc D R := noLrc
theorem f30_l4_e {R : Type} (g_f17 : Nat → Int → Int → Bool → Int → List (List Int) → Int → Int → Bool → Int → List (List Int) → (Bool → Option R) → Option R) (k : Nat) (x : (List D0 × List D0 × Int × Unit)) (y : (Unit)) (K : Ex → List (PV D) → List (Option (Am.Obj D)) → Option R) : f30_l4_g g_f17 (k + 1) x y K = round cx (f30_o g_f17 k) (f30_l4_lrc g_f17 k) f30_ann kp 27 0 f30_l4_a f30_l4_b (gives (D := D) [.list (.named 0), .list (.named 0), .int .i64] x) (giveGs (D := D) [] y) (fun vs os => f30_l4_d g_f17 k vs os K) K := by kernel_rfl
theorem f30_l4_d_ok {R : Type} : ∀ k, LoopOk Try.prog cx 27 0 f30_ann (f30_l4_d (R := R) (f17 (R := R)) k) f30_l4_b :=
  loop_ok (keep := kp) (lrc := f30_l4_lrc (R := R) (f17 (R := R))) cxOk mixed f30_o_ok (show f30_ann (Am.keyOf f30_l4_b) = some f30_l4_a by kernel_rfl) (L := []) (by kernel_rfl) (fun k => trivial) (fun k => LrcNat.no) (fun x y K => by kernel_rfl) (f30_l4_e (f17 (R := R)))
noncomputable def f30_lrc {R : Type} (g_f17 : Nat → Int → Int → Bool → Int → List (List Int) → Int → Int → Bool → Int → List (List Int) → (Bool → Option R) → Option R) (k : Nat) : Lrc D R := (lrcAdd 4 (f30_l4_d g_f17 k) noLrc)
noncomputable def f30_d {R : Type} (g : List D0 → List D0 → (Bool → Option R) → Option R) (e : Dr D R) : Dr D R := door [.list (.named 0), .list (.named 0)] [] (fun (x : (List D0 × List D0 × Unit)) (_y : (Unit)) K => g x.1 x.2.1 (fun z0 => K ⟨.bool z0, []⟩)) e
theorem f30_e {R : Type} (g_f17 : Nat → Int → Int → Bool → Int → List (List Int) → Int → Int → Bool → Int → List (List Int) → (Bool → Option R) → Option R) (k : Nat) (x : (List D0 × List D0 × Unit)) (y : (Unit)) (K : RV D → Option R) : f30_s g_f17 k x.1 x.2.1 (fun z0 => K ⟨.bool z0, []⟩) = exec cx (f30_o g_f17 k) (f30_lrc g_f17 k) f30_ann kp 27 0 f30_b (entry (gives (D := D) [.list (.named 0), .list (.named 0)] x) (giveOs (D := D) [] y)) (fin cx Try.f30.results.toList [] 0 K) := by kernel_rfl
theorem f30_ok {R : Type} (k : Nat) {e : Dr D R} (he : FnOk Try.prog cx 30 e) : FnOk Try.prog cx 30 (f30_d (f30 k) e) :=
  he.door fun x y => body_ok (keep := kp) (ann := f30_ann) (lrc := f30_lrc (R := R) (f17 (R := R)) k) (N := 27) (n0 := 0) (c := []) cxOk mixed (f30_o_ok k) (body := f30_b) (by kernel_rfl : Try.prog.funcs[30]? = some Try.f30) (by kernel_rfl) (by kernel_rfl) (by kernel_rfl) (by kernel_rfl) (of_decide_eq_true (by kernel_rfl)) (L := [f30_l4_b]) (by kernel_rfl) ⟨(f30_l4_d_ok k).use (by kernel_rfl), trivial⟩ ((LrcNat.add (f30_l4_d_ok k).2 LrcNat.no)) (fun K => f30_e (f17 (R := R)) k x y K)

/-! ## 44: slices.Equal[[]byte,byte] -/
noncomputable def f44_l4 {R : Type} : Nat → List Int → List Int → Int → Int → Option R → (Bool → Option R) → Option R
  | 0, _, _, _, _, _, _ => none
  | k + 1, v1, v2, v3, v4, X0, X1 =>
    bif decide (v4 < v3) then
      bif inb v4 v1.length then
        bif inb v4 v2.length then
          bif ((v1.getD v4.toNat 0) != (v2.getD v4.toNat 0)) then
            X1 false
          else
            f44_l4 k v1 v2 v3 (IntKind.i64.wrap (v4 + 1)) X0 X1
        else
          none
      else
        none
    else
      X0
noncomputable def f44_s {R : Type} (k : Nat) (a0 : List Int) (a1 : List Int) (K : Bool → Option R) : Option R :=
  bif ((a0.length : Int) != (a1.length : Int)) then
    K false
  else
    f44_l4 k a0 a1 (a0.length : Int) 0 (
      K true) (fun v5 =>
      K v5)
noncomputable def f44 {R : Type} (k : Nat) (a0 : List Int) (a1 : List Int) (K : Bool → Option R) : Option R := f44_s k a0 a1 K
noncomputable def f44_o {R : Type} (_k : Nat) : Orc D R := noOrc
theorem f44_o_ok {R : Type} (k : Nat) : OrcOk Try.prog cx (f44_o (R := R) k) := OrcOk.no
noncomputable def f44_b : Code := bodyOf Try.f44
noncomputable def f44_l4_a : LAnn := ⟨⟨[], [0, 1, 12, 13], []⟩, exOf (some ⟨[], [4], []⟩) [(0, ⟨[], [], []⟩)]⟩
noncomputable def f44_ann : Nat → Option LAnn := fun key => bif Nat.beq key 4 then some f44_l4_a else none
noncomputable def f44_l4_b : Code := loopAt f44_b 0
noncomputable def f44_l4_g {R : Type} (k : Nat) (x : (List Int × List Int × Int × Int × Unit)) (_y : (Unit)) (K : Ex → List (PV D) → List (Option (Am.Obj D)) → Option R) : Option R := f44_l4 k x.1 x.2.1 x.2.2.1 x.2.2.2.1 (K (.exit 0) [] []) (fun z0 => K (.ret) [.bool z0] [])
noncomputable def f44_l4_d {R : Type} (k : Nat) : Lr D R := ldoor [.list (.int .u8), .list (.int .u8), .int .i64, .int .i64] [] (f44_l4_g k)
noncomputable def f44_l4_lrc {R : Type} (_k : Nat) : Lrc D R := noLrc
theorem f44_l4_e {R : Type} (k : Nat) (x : (List Int × List Int × Int × Int × Unit)) (y : (Unit)) (K : Ex → List (PV D) → List (Option (Am.Obj D)) → Option R) : f44_l4_g (k + 1) x y K = round cx (f44_o k) (f44_l4_lrc k) f44_ann kp 26 0 f44_l4_a f44_l4_b (gives (D := D) [.list (.int .u8), .list (.int .u8), .int .i64, .int .i64] x) (giveGs (D := D) [] y) (fun vs os => f44_l4_d k vs os K) K := by kernel_rfl
theorem f44_l4_d_ok {R : Type} : ∀ k, LoopOk Try.prog cx 26 0 f44_ann (f44_l4_d (R := R) k) f44_l4_b :=
  loop_ok (keep := kp) (lrc := f44_l4_lrc (R := R)) cxOk mixed f44_o_ok (show f44_ann (Am.keyOf f44_l4_b) = some f44_l4_a by kernel_rfl) (L := []) (by kernel_rfl) (fun k => trivial) (fun k => LrcNat.no) (fun x y K => by kernel_rfl) (f44_l4_e)
noncomputable def f44_lrc {R : Type} (k : Nat) : Lrc D R := (lrcAdd 4 (f44_l4_d k) noLrc)
noncomputable def f44_d {R : Type} (g : List Int → List Int → (Bool → Option R) → Option R) (e : Dr D R) : Dr D R := door [.list (.int .u8), .list (.int .u8)] [] (fun (x : (List Int × List Int × Unit)) (_y : (Unit)) K => g x.1 x.2.1 (fun z0 => K ⟨.bool z0, []⟩)) e
theorem f44_e {R : Type} (k : Nat) (x : (List Int × List Int × Unit)) (y : (Unit)) (K : RV D → Option R) : f44_s k x.1 x.2.1 (fun z0 => K ⟨.bool z0, []⟩) = exec cx (f44_o k) (f44_lrc k) f44_ann kp 26 0 f44_b (entry (gives (D := D) [.list (.int .u8), .list (.int .u8)] x) (giveOs (D := D) [] y)) (fin cx Try.f44.results.toList [] 0 K) := by kernel_rfl
theorem f44_ok {R : Type} (k : Nat) {e : Dr D R} (he : FnOk Try.prog cx 44 e) : FnOk Try.prog cx 44 (f44_d (f44 k) e) :=
  he.door fun x y => body_ok (keep := kp) (ann := f44_ann) (lrc := f44_lrc (R := R) k) (N := 26) (n0 := 0) (c := []) cxOk mixed (f44_o_ok k) (body := f44_b) (by kernel_rfl : Try.prog.funcs[44]? = some Try.f44) (by kernel_rfl) (by kernel_rfl) (by kernel_rfl) (by kernel_rfl) (of_decide_eq_true (by kernel_rfl)) (L := [f44_l4_b]) (by kernel_rfl) ⟨(f44_l4_d_ok k).use (by kernel_rfl), trivial⟩ ((LrcNat.add (f44_l4_d_ok k).2 LrcNat.no)) (fun K => f44_e k x y K)

/-! ## 43: slices.EqualFunc[[][]byte,[][]byte,[]byte,[]byte] -/
noncomputable def f43_l4 {R : Type} (g_f44 : Nat → List Int → List Int → (Bool → Option R) → Option R) : Nat → List (List Int) → List (List Int) → Int → Int → Option R → (Bool → Option R) → Option R
  | 0, _, _, _, _, _, _ => none
  | k + 1, v1, v2, v3, v4, X0, X1 =>
    bif decide (v4 < v3) then
      bif inb v4 v2.length then
        bif inb v4 v1.length then
          g_f44 k (v2.getD v4.toNat []) (v1.getD v4.toNat []) (fun v5 =>
            bif (!v5) then
              X1 false
            else
              f43_l4 g_f44 k v1 v2 v3 (IntKind.i64.wrap (v4 + 1)) X0 X1)
        else
          none
      else
        none
    else
      X0
noncomputable def f43_s {R : Type} (g_f44 : Nat → List Int → List Int → (Bool → Option R) → Option R) (k : Nat) (a0 : List (List Int)) (a1 : List (List Int)) (K : Bool → Option R) : Option R :=
  bif ((a0.length : Int) != (a1.length : Int)) then
    K false
  else
    f43_l4 g_f44 k a1 a0 (a0.length : Int) 0 (
      K true) (fun v6 =>
      K v6)
noncomputable def f43 {R : Type} (k : Nat) (a0 : List (List Int)) (a1 : List (List Int)) (K : Bool → Option R) : Option R := f43_s (f44 (R := R)) k a0 a1 K
noncomputable def f43_o {R : Type} (g_f44 : Nat → List Int → List Int → (Bool → Option R) → Option R) (k : Nat) : Orc D R := (orcAdd 44 (f44_d (g_f44 k) noDr) noOrc)
theorem f43_o_ok {R : Type} (k : Nat) : OrcOk Try.prog cx (f43_o (R := R) (f44 (R := R)) k) := (OrcOk.add (f44_ok k FnOk.no) OrcOk.no)
noncomputable def f43_b : Code := bodyOf Try.f43
noncomputable def f43_l4_a : LAnn := ⟨⟨[], [1, 2, 15, 16, 17], []⟩, exOf (some ⟨[], [6], []⟩) [(0, ⟨[], [], []⟩)]⟩
noncomputable def f43_ann : Nat → Option LAnn := fun key => bif Nat.beq key 4 then some f43_l4_a else none
noncomputable def f43_l4_b : Code := loopAt f43_b 0
noncomputable def f43_l4_g {R : Type} (g_f44 : Nat → List Int → List Int → (Bool → Option R) → Option R) (k : Nat) (x : (List (List Int) × (Unit) × List (List Int) × Int × Int × Unit)) (_y : (Unit)) (K : Ex → List (PV D) → List (Option (Am.Obj D)) → Option R) : Option R := f43_l4 g_f44 k x.1 x.2.2.1 x.2.2.2.1 x.2.2.2.2.1 (K (.exit 0) [] []) (fun z0 => K (.ret) [.bool z0] [])
noncomputable def f43_l4_d {R : Type} (g_f44 : Nat → List Int → List Int → (Bool → Option R) → Option R) (k : Nat) : Lr D R := ldoor [.list (.slice (.int .u8)), .fn 44 [], .list (.slice (.int .u8)), .int .i64, .int .i64] [] (f43_l4_g g_f44 k)
noncomputable def f43_l4_lrc {R : Type} (_g_f44 : Nat → List Int → List Int → (Bool → Option R) → Option R) (_k : Nat) : Lrc D R := noLrc
theorem f43_l4_e {R : Type} (g_f44 : Nat → List Int → List Int → (Bool → Option R) → Option R) (k : Nat) (x : (List (List Int) × (Unit) × List (List Int) × Int × Int × Unit)) (y : (Unit)) (K : Ex → List (PV D) → List (Option (Am.Obj D)) → Option R) : f43_l4_g g_f44 (k + 1) x y K = round cx (f43_o g_f44 k) (f43_l4_lrc g_f44 k) f43_ann kp 32 0 f43_l4_a f43_l4_b (gives (D := D) [.list (.slice (.int .u8)), .fn 44 [], .list (.slice (.int .u8)), .int .i64, .int .i64] x) (giveGs (D := D) [] y) (fun vs os => f43_l4_d g_f44 k vs os K) K := by kernel_rfl
theorem f43_l4_d_ok {R : Type} : ∀ k, LoopOk Try.prog cx 32 0 f43_ann (f43_l4_d (R := R) (f44 (R := R)) k) f43_l4_b :=
  loop_ok (keep := kp) (lrc := f43_l4_lrc (R := R) (f44 (R := R))) cxOk mixed f43_o_ok (show f43_ann (Am.keyOf f43_l4_b) = some f43_l4_a by kernel_rfl) (L := []) (by kernel_rfl) (fun k => trivial) (fun k => LrcNat.no) (fun x y K => by kernel_rfl) (f43_l4_e (f44 (R := R)))
noncomputable def f43_lrc {R : Type} (g_f44 : Nat → List Int → List Int → (Bool → Option R) → Option R) (k : Nat) : Lrc D R := (lrcAdd 4 (f43_l4_d g_f44 k) noLrc)
noncomputable def f43_d {R : Type} (g : List (List Int) → List (List Int) → (Bool → Option R) → Option R) (e : Dr D R) : Dr D R := door [.list (.slice (.int .u8)), .list (.slice (.int .u8)), .fn 44 []] [] (fun (x : (List (List Int) × List (List Int) × (Unit) × Unit)) (_y : (Unit)) K => g x.1 x.2.1 (fun z0 => K ⟨.bool z0, []⟩)) e
theorem f43_e {R : Type} (g_f44 : Nat → List Int → List Int → (Bool → Option R) → Option R) (k : Nat) (x : (List (List Int) × List (List Int) × (Unit) × Unit)) (y : (Unit)) (K : RV D → Option R) : f43_s g_f44 k x.1 x.2.1 (fun z0 => K ⟨.bool z0, []⟩) = exec cx (f43_o g_f44 k) (f43_lrc g_f44 k) f43_ann kp 32 0 f43_b (entry (gives (D := D) [.list (.slice (.int .u8)), .list (.slice (.int .u8)), .fn 44 []] x) (giveOs (D := D) [] y)) (fin cx Try.f43.results.toList [] 0 K) := by kernel_rfl
theorem f43_ok {R : Type} (k : Nat) {e : Dr D R} (he : FnOk Try.prog cx 43 e) : FnOk Try.prog cx 43 (f43_d (f43 k) e) :=
  he.door fun x y => body_ok (keep := kp) (ann := f43_ann) (lrc := f43_lrc (R := R) (f44 (R := R)) k) (N := 32) (n0 := 0) (c := []) cxOk mixed (f43_o_ok k) (body := f43_b) (by kernel_rfl : Try.prog.funcs[43]? = some Try.f43) (by kernel_rfl) (by kernel_rfl) (by kernel_rfl) (by kernel_rfl) (of_decide_eq_true (by kernel_rfl)) (L := [f43_l4_b]) (by kernel_rfl) ⟨(f43_l4_d_ok k).use (by kernel_rfl), trivial⟩ ((LrcNat.add (f43_l4_d_ok k).2 LrcNat.no)) (fun K => f43_e (f44 (R := R)) k x y K)

/-! ## 31: diorama/lace.Same -/
noncomputable def f31_s {R : Type} (g_f43 : Nat → List (List Int) → List (List Int) → (Bool → Option R) → Option R) (k : Nat) (a0 : Int) (a1 : Int) (a2 : Bool) (a3 : Int) (a4 : List (List Int)) (a5 : Int) (a6 : Int) (a7 : Bool) (a8 : Int) (a9 : List (List Int)) (K : Bool → Option R) : Option R :=
  bif (a0 == a5) then
    bif (a1 == a6) then
      bif (a2 == a7) then
        bif (a3 == a8) then
          g_f43 k a4 a9 (fun v1 =>
            K v1)
        else
          K false
      else
        K false
    else
      K false
  else
    K false
noncomputable def f31 {R : Type} (k : Nat) (a0 : Int) (a1 : Int) (a2 : Bool) (a3 : Int) (a4 : List (List Int)) (a5 : Int) (a6 : Int) (a7 : Bool) (a8 : Int) (a9 : List (List Int)) (K : Bool → Option R) : Option R := f31_s (f43 (R := R)) k a0 a1 a2 a3 a4 a5 a6 a7 a8 a9 K
noncomputable def f31_o {R : Type} (g_f43 : Nat → List (List Int) → List (List Int) → (Bool → Option R) → Option R) (k : Nat) : Orc D R := (orcAdd 43 (f43_d (g_f43 k) noDr) noOrc)
theorem f31_o_ok {R : Type} (k : Nat) : OrcOk Try.prog cx (f31_o (R := R) (f43 (R := R)) k) := (OrcOk.add (f43_ok k FnOk.no) OrcOk.no)
noncomputable def f31_b : Code := bodyOf Try.f31
noncomputable def f31_ann : Nat → Option LAnn := fun _key => none
noncomputable def f31_lrc {R : Type} (_g_f43 : Nat → List (List Int) → List (List Int) → (Bool → Option R) → Option R) (_k : Nat) : Lrc D R := noLrc
noncomputable def f31_d {R : Type} (g : Int → Int → Bool → Int → List (List Int) → Int → Int → Bool → Int → List (List Int) → (Bool → Option R) → Option R) (e : Dr D R) : Dr D R := door [.agg [.int .i64, .int .i64, .bool, .int .i64, .list (.slice (.int .u8))], .agg [.int .i64, .int .i64, .bool, .int .i64, .list (.slice (.int .u8))]] [] (fun (x : ((Int × Int × Bool × Int × List (List Int) × Unit) × (Int × Int × Bool × Int × List (List Int) × Unit) × Unit)) (_y : (Unit)) K => g x.1.1 x.1.2.1 x.1.2.2.1 x.1.2.2.2.1 x.1.2.2.2.2.1 x.2.1.1 x.2.1.2.1 x.2.1.2.2.1 x.2.1.2.2.2.1 x.2.1.2.2.2.2.1 (fun z0 => K ⟨.bool z0, []⟩)) e
theorem f31_e {R : Type} (g_f43 : Nat → List (List Int) → List (List Int) → (Bool → Option R) → Option R) (k : Nat) (x : ((Int × Int × Bool × Int × List (List Int) × Unit) × (Int × Int × Bool × Int × List (List Int) × Unit) × Unit)) (y : (Unit)) (K : RV D → Option R) : f31_s g_f43 k x.1.1 x.1.2.1 x.1.2.2.1 x.1.2.2.2.1 x.1.2.2.2.2.1 x.2.1.1 x.2.1.2.1 x.2.1.2.2.1 x.2.1.2.2.2.1 x.2.1.2.2.2.2.1 (fun z0 => K ⟨.bool z0, []⟩) = exec cx (f31_o g_f43 k) (f31_lrc g_f43 k) f31_ann kp 38 0 f31_b (entry (gives (D := D) [.agg [.int .i64, .int .i64, .bool, .int .i64, .list (.slice (.int .u8))], .agg [.int .i64, .int .i64, .bool, .int .i64, .list (.slice (.int .u8))]] x) (giveOs (D := D) [] y)) (fin cx Try.f31.results.toList [] 0 K) := by kernel_rfl
theorem f31_ok {R : Type} (k : Nat) {e : Dr D R} (he : FnOk Try.prog cx 31 e) : FnOk Try.prog cx 31 (f31_d (f31 k) e) :=
  he.door fun x y => body_ok (keep := kp) (ann := f31_ann) (lrc := f31_lrc (R := R) (f43 (R := R)) k) (N := 38) (n0 := 0) (c := []) cxOk mixed (f31_o_ok k) (body := f31_b) (by kernel_rfl : Try.prog.funcs[31]? = some Try.f31) (by kernel_rfl) (by kernel_rfl) (by kernel_rfl) (by kernel_rfl) (of_decide_eq_true (by kernel_rfl)) (L := []) (by kernel_rfl) trivial (LrcNat.no) (fun K => f31_e (f43 (R := R)) k x y K)

/-! ## 8: diorama/dioramalaw05.LaceSplits -/
noncomputable def f8_s {R : Type} (g_f9 : Nat → List (List Int) → (Bool → Option R) → Option R) (g_f17 : Nat → Int → Int → Bool → Int → List (List Int) → Int → Int → Bool → Int → List (List Int) → (Bool → Option R) → Option R) (g_f15 : Nat → (Bool → Option R) → Option R) (g_f28 : Nat → Int → Int → Bool → Int → List (List Int) → (Int → List D0 → Option R) → Option R) (g_f29 : Nat → Int → Int → Bool → Int → List (List Int) → (Int → List D0 → Option R) → Option R) (g_f30 : Nat → List D0 → List D0 → (Bool → Option R) → Option R) (g_f31 : Nat → Int → Int → Bool → Int → List (List Int) → Int → Int → Bool → Int → List (List Int) → (Bool → Option R) → Option R) (k : Nat) (a0 : Int) (a1 : Int) (a2 : Bool) (a3 : Int) (a4 : List (List Int)) (a5 : Int) (a6 : Int) (a7 : Bool) (a8 : Int) (a9 : List (List Int)) (K : Bool → Option R) : Option R :=
  g_f9 k a4 (fun v1 =>
    bif (!v1) then
      K true
    else
      g_f9 k a9 (fun v2 =>
        bif (!v2) then
          K true
        else
          g_f28 k a0 a1 a2 a3 a4 (fun v3 v4 =>
            g_f29 k a0 a1 a2 a3 a4 (fun v5 v6 =>
              g_f30 k v4 v6 (fun v7 =>
                bif v7 then
                  bif (v3 == v5) then
                    g_f31 k a0 a1 a2 a3 a4 a5 a6 a7 a8 a9 (fun v8 =>
                      g_f17 k a0 a1 a2 a3 a4 a5 a6 a7 a8 a9 (fun v9 =>
                        bif (v8 == v9) then
                          g_f31 k a0 a1 a2 a3 a4 a0 a1 a2 a3 a4 (fun v10 =>
                            bif v10 then
                              g_f15 k (fun v11 =>
                                K v11)
                            else
                              K false)
                        else
                          K false))
                  else
                    K false
                else
                  K false)))))
noncomputable def f8 {R : Type} (k : Nat) (a0 : Int) (a1 : Int) (a2 : Bool) (a3 : Int) (a4 : List (List Int)) (a5 : Int) (a6 : Int) (a7 : Bool) (a8 : Int) (a9 : List (List Int)) (K : Bool → Option R) : Option R := f8_s (f9 (R := R)) (f17 (R := R)) (f15 (R := R)) (f28 (R := R)) (f29 (R := R)) (f30 (R := R)) (f31 (R := R)) k a0 a1 a2 a3 a4 a5 a6 a7 a8 a9 K
noncomputable def f8_o {R : Type} (g_f9 : Nat → List (List Int) → (Bool → Option R) → Option R) (g_f17 : Nat → Int → Int → Bool → Int → List (List Int) → Int → Int → Bool → Int → List (List Int) → (Bool → Option R) → Option R) (g_f15 : Nat → (Bool → Option R) → Option R) (g_f28 : Nat → Int → Int → Bool → Int → List (List Int) → (Int → List D0 → Option R) → Option R) (g_f29 : Nat → Int → Int → Bool → Int → List (List Int) → (Int → List D0 → Option R) → Option R) (g_f30 : Nat → List D0 → List D0 → (Bool → Option R) → Option R) (g_f31 : Nat → Int → Int → Bool → Int → List (List Int) → Int → Int → Bool → Int → List (List Int) → (Bool → Option R) → Option R) (k : Nat) : Orc D R := (orcAdd 31 (f31_d (g_f31 k) noDr) (orcAdd 30 (f30_d (g_f30 k) noDr) (orcAdd 29 (f29_d (g_f29 k) noDr) (orcAdd 28 (f28_d (g_f28 k) noDr) (orcAdd 15 (f15_d (g_f15 k) noDr) (orcAdd 17 (f17_d (g_f17 k) noDr) (orcAdd 9 (f9_d (g_f9 k) noDr) noOrc)))))))
theorem f8_o_ok {R : Type} (k : Nat) : OrcOk Try.prog cx (f8_o (R := R) (f9 (R := R)) (f17 (R := R)) (f15 (R := R)) (f28 (R := R)) (f29 (R := R)) (f30 (R := R)) (f31 (R := R)) k) := (OrcOk.add (f31_ok k FnOk.no) (OrcOk.add (f30_ok k FnOk.no) (OrcOk.add (f29_ok k FnOk.no) (OrcOk.add (f28_ok k FnOk.no) (OrcOk.add (f15_ok k FnOk.no) (OrcOk.add (f17_ok k FnOk.no) (OrcOk.add (f9_ok k FnOk.no) OrcOk.no)))))))
noncomputable def f8_b : Code := bodyOf Try.f8
noncomputable def f8_ann : Nat → Option LAnn := fun _key => none
noncomputable def f8_lrc {R : Type} (_g_f9 : Nat → List (List Int) → (Bool → Option R) → Option R) (_g_f17 : Nat → Int → Int → Bool → Int → List (List Int) → Int → Int → Bool → Int → List (List Int) → (Bool → Option R) → Option R) (_g_f15 : Nat → (Bool → Option R) → Option R) (_g_f28 : Nat → Int → Int → Bool → Int → List (List Int) → (Int → List D0 → Option R) → Option R) (_g_f29 : Nat → Int → Int → Bool → Int → List (List Int) → (Int → List D0 → Option R) → Option R) (_g_f30 : Nat → List D0 → List D0 → (Bool → Option R) → Option R) (_g_f31 : Nat → Int → Int → Bool → Int → List (List Int) → Int → Int → Bool → Int → List (List Int) → (Bool → Option R) → Option R) (_k : Nat) : Lrc D R := noLrc
noncomputable def f8_d {R : Type} (g : Int → Int → Bool → Int → List (List Int) → Int → Int → Bool → Int → List (List Int) → (Bool → Option R) → Option R) (e : Dr D R) : Dr D R := door [.agg [.int .i64, .int .i64, .bool, .int .i64, .list (.slice (.int .u8))], .agg [.int .i64, .int .i64, .bool, .int .i64, .list (.slice (.int .u8))]] [] (fun (x : ((Int × Int × Bool × Int × List (List Int) × Unit) × (Int × Int × Bool × Int × List (List Int) × Unit) × Unit)) (_y : (Unit)) K => g x.1.1 x.1.2.1 x.1.2.2.1 x.1.2.2.2.1 x.1.2.2.2.2.1 x.2.1.1 x.2.1.2.1 x.2.1.2.2.1 x.2.1.2.2.2.1 x.2.1.2.2.2.2.1 (fun z0 => K ⟨.bool z0, []⟩)) e
theorem f8_e {R : Type} (g_f9 : Nat → List (List Int) → (Bool → Option R) → Option R) (g_f17 : Nat → Int → Int → Bool → Int → List (List Int) → Int → Int → Bool → Int → List (List Int) → (Bool → Option R) → Option R) (g_f15 : Nat → (Bool → Option R) → Option R) (g_f28 : Nat → Int → Int → Bool → Int → List (List Int) → (Int → List D0 → Option R) → Option R) (g_f29 : Nat → Int → Int → Bool → Int → List (List Int) → (Int → List D0 → Option R) → Option R) (g_f30 : Nat → List D0 → List D0 → (Bool → Option R) → Option R) (g_f31 : Nat → Int → Int → Bool → Int → List (List Int) → Int → Int → Bool → Int → List (List Int) → (Bool → Option R) → Option R) (k : Nat) (x : ((Int × Int × Bool × Int × List (List Int) × Unit) × (Int × Int × Bool × Int × List (List Int) × Unit) × Unit)) (y : (Unit)) (K : RV D → Option R) : f8_s g_f9 g_f17 g_f15 g_f28 g_f29 g_f30 g_f31 k x.1.1 x.1.2.1 x.1.2.2.1 x.1.2.2.2.1 x.1.2.2.2.2.1 x.2.1.1 x.2.1.2.1 x.2.1.2.2.1 x.2.1.2.2.2.1 x.2.1.2.2.2.2.1 (fun z0 => K ⟨.bool z0, []⟩) = exec cx (f8_o g_f9 g_f17 g_f15 g_f28 g_f29 g_f30 g_f31 k) (f8_lrc g_f9 g_f17 g_f15 g_f28 g_f29 g_f30 g_f31 k) f8_ann kp 54 0 f8_b (entry (gives (D := D) [.agg [.int .i64, .int .i64, .bool, .int .i64, .list (.slice (.int .u8))], .agg [.int .i64, .int .i64, .bool, .int .i64, .list (.slice (.int .u8))]] x) (giveOs (D := D) [] y)) (fin cx Try.f8.results.toList [] 0 K) := by kernel_rfl
theorem f8_ok {R : Type} (k : Nat) {e : Dr D R} (he : FnOk Try.prog cx 8 e) : FnOk Try.prog cx 8 (f8_d (f8 k) e) :=
  he.door fun x y => body_ok (keep := kp) (ann := f8_ann) (lrc := f8_lrc (R := R) (f9 (R := R)) (f17 (R := R)) (f15 (R := R)) (f28 (R := R)) (f29 (R := R)) (f30 (R := R)) (f31 (R := R)) k) (N := 54) (n0 := 0) (c := []) cxOk mixed (f8_o_ok k) (body := f8_b) (by kernel_rfl : Try.prog.funcs[8]? = some Try.f8) (by kernel_rfl) (by kernel_rfl) (by kernel_rfl) (by kernel_rfl) (of_decide_eq_true (by kernel_rfl)) (L := []) (by kernel_rfl) trivial (LrcNat.no) (fun K => f8_e (f9 (R := R)) (f17 (R := R)) (f15 (R := R)) (f28 (R := R)) (f29 (R := R)) (f30 (R := R)) (f31 (R := R)) k x y K)


end Go.Proofs.Ytnmoccdnkpkhhaa
