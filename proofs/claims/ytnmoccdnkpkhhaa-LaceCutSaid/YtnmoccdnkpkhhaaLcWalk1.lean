/- Proved: each of these functions does what a plain function says. Conditions: none. -/
import Derived.Test.YtnmoccdnkpkhhaaMach4
import Derived.Test.YtnmoccdnkpkhhaaProg

/-! The types of this program, for the machine. -/
namespace Go.Proofs.Ytnmoccdnkpkhhaa
open Go Go.Am
abbrev D0 : Type := Int × Int × Bool × Int × List (List Int)
abbrev D1 : Type := Int × Int × Bool × Int × List (List Int) × Int × List Int × Int
noncomputable def D : Nat → Type
  | 0 => D0
  | 1 => D1
  | _ => Unit
noncomputable def flds : Nat → List Ty
  | 0 => [.int .i64, .int .i64, .bool, .int .i64, (.slice (.slice (.int .u8)))]
  | 1 => [.int .i64, .int .i64, .bool, .int .i64, (.slice (.slice (.int .u8))), .int .i64, (.slice (.int .i64)), .int .i64]
  | _ => []
noncomputable def toT : (r : Nat) → D r → Tup D (flds r)
  | 0 => fun (x : D0) => x
  | 1 => fun (x : D1) => x
  | _n + 2 => fun _ => ()
noncomputable def ofT : (r : Nat) → Tup D (flds r) → D r
  | 0 => fun (x : D0) => x
  | 1 => fun (x : D1) => x
  | _n + 2 => fun _ => ()
noncomputable def zero0 : D0 := (0, 0, false, 0, [])
noncomputable def zero1 : D1 := (0, 0, false, 0, [], 0, [], 0)
noncomputable def zeros : (r : Nat) → D r
  | 0 => zero0
  | 1 => zero1
  | _n + 2 => ()
noncomputable def deep0 (v : D0) : List IV := [.int .i64 v.1] ++ [.int .i64 v.2.1] ++ [.bool v.2.2.1] ++ [.int .i64 v.2.2.2.1] ++ [.list 1 (v.2.2.2.2.map fun y => [.list 1 (y.map fun y => [.int .u8 y])])]
noncomputable def deep1 (v : D1) : List IV := [.int .i64 v.1] ++ [.int .i64 v.2.1] ++ [.bool v.2.2.1] ++ [.int .i64 v.2.2.2.1] ++ [.list 1 (v.2.2.2.2.1.map fun y => [.list 1 (y.map fun y => [.int .u8 y])])] ++ [.int .i64 v.2.2.2.2.2.1] ++ [.list 1 (v.2.2.2.2.2.2.1.map fun y => [.int .i64 y])] ++ [.int .i64 v.2.2.2.2.2.2.2]
noncomputable def deeps : (r : Nat) → D r → List IV
  | 0 => deep0
  | 1 => deep1
  | _n + 2 => fun _ => []
noncomputable def tab : List (Nat × TI D) := [
  (3, ⟨.int .i64, 1, 8, false, [.int .i64 0], some (.int .i64), false⟩),
  (26, ⟨.slice 5, 1, 24, false, [.nil], some (.slice (.int .u8)), false⟩),
  (5, ⟨.int .u8, 1, 1, false, [.int .u8 0], some (.int .u8), false⟩),
  (24, ⟨.struct [(0, 1, false), (1, 1, false), (2, 1, false), (3, 1, false), (4, 1, false)], 5, 56, true, [.int .i64 0, .int .i64 0, .bool false, .int .i64 0, .nil], some (.named 0), false⟩),
  (22, ⟨.slice 26, 1, 24, false, [.nil], some (.slice (.slice (.int .u8))), false⟩),
  (40, ⟨.slice 3, 1, 24, false, [.nil], some (.slice (.int .i64)), false⟩),
  (58, ⟨.struct [(0, 5, true), (5, 1, false), (6, 1, false), (7, 1, false)], 8, 96, true, [.int .i64 0, .int .i64 0, .bool false, .int .i64 0, .nil, .int .i64 0, .nil, .int .i64 0], some (.named 1), false⟩),
  (4, ⟨.bool, 1, 1, false, [.bool false], some .bool, false⟩),
  (49, ⟨.slice 24, 1, 24, false, [.nil], some (.slice (.named 0)), false⟩),
  (54, ⟨.int .u64, 1, 8, false, [.int .u64 0], some (.int .u64), false⟩),
  (84, ⟨.arr 32 3, 32, 256, true, [.int .i64 0, .int .i64 0, .int .i64 0, .int .i64 0, .int .i64 0, .int .i64 0, .int .i64 0, .int .i64 0, .int .i64 0, .int .i64 0, .int .i64 0, .int .i64 0, .int .i64 0, .int .i64 0, .int .i64 0, .int .i64 0, .int .i64 0, .int .i64 0, .int .i64 0, .int .i64 0, .int .i64 0, .int .i64 0, .int .i64 0, .int .i64 0, .int .i64 0, .int .i64 0, .int .i64 0, .int .i64 0, .int .i64 0, .int .i64 0, .int .i64 0, .int .i64 0], none, false⟩),
  (67, ⟨.int .u64, 1, 8, false, [.int .u64 0], some (.int .u64), false⟩),
  (73, ⟨.int .u16, 1, 2, false, [.int .u16 0], some (.int .u16), false⟩),
  (72, ⟨.int .i16, 1, 2, false, [.int .i16 0], some (.int .i16), false⟩),
  (9, ⟨.str, 1, 16, false, [.str ByteArray.empty], some .str, false⟩)]
noncomputable def cx : Cx D := mkCx tab flds toT ofT zeros deeps
theorem cxOk : CxOk cx Try.prog :=
  mkCx_ok (fun r => match r with
  | 0 => rfl
  | 1 => rfl
  | n + 2 => rfl) (fun r x => match r, x with
  | 0, _ => rfl
  | 1, _ => rfl
  | n + 2, _ => rfl) (fun r v => match r, v with
  | 0, _ => rfl
  | 1, _ => rfl
  | n + 2, _ => rfl) (by kernel_rfl)
theorem mixed : Try.prog.follows .mixedOrders = true := by kernel_rfl
def lit0 : ByteArray := ⟨#[0, 1, 2, 2, 3, 3, 3, 3, 4, 4, 4, 4, 4, 4, 4, 4, 5, 5, 5, 5, 5, 5, 5, 5, 5, 5, 5, 5, 5, 5, 5, 5, 6, 6, 6, 6, 6, 6, 6, 6, 6, 6, 6, 6, 6, 6, 6, 6, 6, 6, 6, 6, 6, 6, 6, 6, 6, 6, 6, 6, 6, 6, 6, 6, 7, 7, 7, 7, 7, 7, 7, 7, 7, 7, 7, 7, 7, 7, 7, 7, 7, 7, 7, 7, 7, 7, 7, 7, 7, 7, 7, 7, 7, 7, 7, 7, 7, 7, 7, 7, 7, 7, 7, 7, 7, 7, 7, 7, 7, 7, 7, 7, 7, 7, 7, 7, 7, 7, 7, 7, 7, 7, 7, 7, 7, 7, 7, 7, 8, 8, 8, 8, 8, 8, 8, 8, 8, 8, 8, 8, 8, 8, 8, 8, 8, 8, 8, 8, 8, 8, 8, 8, 8, 8, 8, 8, 8, 8, 8, 8, 8, 8, 8, 8, 8, 8, 8, 8, 8, 8, 8, 8, 8, 8, 8, 8, 8, 8, 8, 8, 8, 8, 8, 8, 8, 8, 8, 8, 8, 8, 8, 8, 8, 8, 8, 8, 8, 8, 8, 8, 8, 8, 8, 8, 8, 8, 8, 8, 8, 8, 8, 8, 8, 8, 8, 8, 8, 8, 8, 8, 8, 8, 8, 8, 8, 8, 8, 8, 8, 8, 8, 8, 8, 8, 8, 8, 8, 8, 8, 8, 8, 8, 8, 8, 8, 8, 8, 8, 8, 8, 8, 8, 8, 8, 8, 8]⟩
def lit1 : ByteArray := ⟨#[99, 97, 110, 110, 111, 116, 32, 98, 101, 32, 110, 101, 103, 97, 116, 105, 118, 101]⟩
def lit2 : ByteArray := ⟨#[116, 104, 101, 32, 114, 101, 115, 117, 108, 116, 32, 111, 102, 32, 40, 108, 101, 110, 40, 120, 41, 32, 42, 32, 99, 111, 117, 110, 116, 41, 32, 111, 118, 101, 114, 102, 108, 111, 119, 115]⟩
noncomputable def kp : FuncId → List Bool := fun f => bif Nat.beq f 39 then [true, false] else bif Nat.beq f 60 then [true, false] else []

end Go.Proofs.Ytnmoccdnkpkhhaa

/-! What the functions do, as plain functions; and that they do. -/
namespace Go.Proofs.Ytnmoccdnkpkhhaa
open Go Go.Am
/-! ## 9: diorama/dioramalaw05.small -/
noncomputable def f9_l3 {R : Type} : Nat → List (List Int) → Int → Int → (List (List Int) → Int → Option R) → Option R
  | 0, _, _, _, _ => none
  | k + 1, v1, v2, v3, X0 =>
    bif decide (v3 < (v1.length : Int)) then
      bif inb v3 v1.length then
        f9_l3 k v1 (IntKind.i64.wrap (v2 + ((v1.getD v3.toNat []).length : Int))) (IntKind.i64.wrap (v3 + 1)) X0
      else
        none
    else
      X0 v1 v2
noncomputable def f9_s {R : Type} (k : Nat) (a0 : List (List Int)) (K : Bool → Option R) : Option R :=
  f9_l3 k a0 0 0 (fun v4 v5 =>
    bif decide ((v4.length : Int) ≤ 60) then
      K (decide (v5 ≤ 200000))
    else
      K false)
noncomputable def f9 {R : Type} (k : Nat) (a0 : List (List Int)) (K : Bool → Option R) : Option R := f9_s k a0 K
noncomputable def f9_o {R : Type} (_k : Nat) : Orc D R := noOrc
theorem f9_o_ok {R : Type} (k : Nat) : OrcOk Try.prog cx (f9_o (R := R) k) := OrcOk.no
noncomputable def f9_b : Code := bodyOf Try.f9
noncomputable def f9_l3_a : LAnn := ⟨⟨[], [0, 3, 4], []⟩, exOf (none) [(0, ⟨[], [0, 3], []⟩)]⟩
noncomputable def f9_ann : Nat → Option LAnn := fun key => bif Nat.beq key 3 then some f9_l3_a else none
noncomputable def f9_l3_b : Code := loopAt f9_b 0
noncomputable def f9_l3_g {R : Type} (k : Nat) (x : (List (List Int) × Int × Int × Unit)) (_y : (Unit)) (K : Ex → List (PV D) → List (Option (Am.Obj D)) → Option R) : Option R := f9_l3 k x.1 x.2.1 x.2.2.1 (fun z0 z1 => K (.exit 0) [.list (.slice (.int .u8)) z0, .int .i64 z1] [])
noncomputable def f9_l3_d {R : Type} (k : Nat) : Lr D R := ldoor [.list (.slice (.int .u8)), .int .i64, .int .i64] [] (f9_l3_g k)
noncomputable def f9_l3_lrc {R : Type} (_k : Nat) : Lrc D R := noLrc
theorem f9_l3_e {R : Type} (k : Nat) (x : (List (List Int) × Int × Int × Unit)) (y : (Unit)) (K : Ex → List (PV D) → List (Option (Am.Obj D)) → Option R) : f9_l3_g (k + 1) x y K = round cx (f9_o k) (f9_l3_lrc k) f9_ann kp 25 0 f9_l3_a f9_l3_b (gives (D := D) [.list (.slice (.int .u8)), .int .i64, .int .i64] x) (giveGs (D := D) [] y) (fun vs os => f9_l3_d k vs os K) K := by kernel_rfl
theorem f9_l3_d_ok {R : Type} : ∀ k, LoopOk Try.prog cx 25 0 f9_ann (f9_l3_d (R := R) k) f9_l3_b :=
  loop_ok (keep := kp) (lrc := f9_l3_lrc (R := R)) cxOk mixed f9_o_ok (show f9_ann (Am.keyOf f9_l3_b) = some f9_l3_a by kernel_rfl) (L := []) (by kernel_rfl) (fun k => trivial) (fun k => LrcNat.no) (fun x y K => by kernel_rfl) (f9_l3_e)
noncomputable def f9_lrc {R : Type} (k : Nat) : Lrc D R := (lrcAdd 3 (f9_l3_d k) noLrc)
noncomputable def f9_d {R : Type} (g : List (List Int) → (Bool → Option R) → Option R) (e : Dr D R) : Dr D R := door [.list (.slice (.int .u8))] [] (fun (x : (List (List Int) × Unit)) (_y : (Unit)) K => g x.1 (fun z0 => K ⟨.bool z0, []⟩)) e
theorem f9_e {R : Type} (k : Nat) (x : (List (List Int) × Unit)) (y : (Unit)) (K : RV D → Option R) : f9_s k x.1 (fun z0 => K ⟨.bool z0, []⟩) = exec cx (f9_o k) (f9_lrc k) f9_ann kp 25 0 f9_b (entry (gives (D := D) [.list (.slice (.int .u8))] x) (giveOs (D := D) [] y)) (fin cx Try.f9.results.toList [] 0 K) := by kernel_rfl
theorem f9_ok {R : Type} (k : Nat) {e : Dr D R} (he : FnOk Try.prog cx 9 e) : FnOk Try.prog cx 9 (f9_d (f9 k) e) :=
  he.door fun x y => body_ok (keep := kp) (ann := f9_ann) (lrc := f9_lrc (R := R) k) (N := 25) (n0 := 0) (c := []) cxOk mixed (f9_o_ok k) (body := f9_b) (by kernel_rfl : Try.prog.funcs[9]? = some Try.f9) (by kernel_rfl) (by kernel_rfl) (by kernel_rfl) (by kernel_rfl) (of_decide_eq_true (by kernel_rfl)) (L := [f9_l3_b]) (by kernel_rfl) ⟨(f9_l3_d_ok k).use (by kernel_rfl), trivial⟩ ((LrcNat.add (f9_l3_d_ok k).2 LrcNat.no)) (fun K => f9_e k x y K)

/-! ## 52: diorama/lace.frames$1 -/
noncomputable def f52_s {R : Type} (_k : Nat) (a0 : List Int) (K : Bool → Option R) : Option R :=
  K (decide ((a0.length : Int) > 65536))
noncomputable def f52 {R : Type} (k : Nat) (a0 : List Int) (K : Bool → Option R) : Option R := f52_s k a0 K
noncomputable def f52_o {R : Type} (_k : Nat) : Orc D R := noOrc
theorem f52_o_ok {R : Type} (k : Nat) : OrcOk Try.prog cx (f52_o (R := R) k) := OrcOk.no
noncomputable def f52_b : Code := bodyOf Try.f52
noncomputable def f52_ann : Nat → Option LAnn := fun _key => none
noncomputable def f52_lrc {R : Type} (_k : Nat) : Lrc D R := noLrc
noncomputable def f52_d {R : Type} (g : List Int → (Bool → Option R) → Option R) (e : Dr D R) : Dr D R := door [.list (.int .u8)] [] (fun (x : (List Int × Unit)) (_y : (Unit)) K => g x.1 (fun z0 => K ⟨.bool z0, []⟩)) e
theorem f52_e {R : Type} (k : Nat) (x : (List Int × Unit)) (y : (Unit)) (K : RV D → Option R) : f52_s k x.1 (fun z0 => K ⟨.bool z0, []⟩) = exec cx (f52_o k) (f52_lrc k) f52_ann kp 6 0 f52_b (entry (gives (D := D) [.list (.int .u8)] x) (giveOs (D := D) [] y)) (fin cx Try.f52.results.toList [] 0 K) := by kernel_rfl
theorem f52_ok {R : Type} (k : Nat) {e : Dr D R} (he : FnOk Try.prog cx 52 e) : FnOk Try.prog cx 52 (f52_d (f52 k) e) :=
  he.door fun x y => body_ok (keep := kp) (ann := f52_ann) (lrc := f52_lrc (R := R) k) (N := 6) (n0 := 0) (c := []) cxOk mixed (f52_o_ok k) (body := f52_b) (by kernel_rfl : Try.prog.funcs[52]? = some Try.f52) (by kernel_rfl) (by kernel_rfl) (by kernel_rfl) (by kernel_rfl) (of_decide_eq_true (by kernel_rfl)) (L := []) (by kernel_rfl) trivial (LrcNat.no) (fun K => f52_e k x y K)

/-! ## 64: slices.IndexFunc[[][]byte,[]byte] -/
noncomputable def f64_l2 {R : Type} (g_f52 : Nat → List Int → (Bool → Option R) → Option R) : Nat → List (List Int) → Int → Int → Option R → (Int → Option R) → Option R
  | 0, _, _, _, _, _ => none
  | k + 1, v1, v2, v3, X0, X1 =>
    bif decide (v3 < v2) then
      bif inb v3 v1.length then
        g_f52 k (v1.getD v3.toNat []) (fun v4 =>
          bif v4 then
            X1 v3
          else
            f64_l2 g_f52 k v1 v2 (IntKind.i64.wrap (v3 + 1)) X0 X1)
      else
        none
    else
      X0
noncomputable def f64_s {R : Type} (g_f52 : Nat → List Int → (Bool → Option R) → Option R) (k : Nat) (a0 : List (List Int)) (K : Int → Option R) : Option R :=
  f64_l2 g_f52 k a0 (a0.length : Int) 0 (
    K (-1)) (fun v5 =>
    K v5)
noncomputable def f64 {R : Type} (k : Nat) (a0 : List (List Int)) (K : Int → Option R) : Option R := f64_s (f52 (R := R)) k a0 K
noncomputable def f64_o {R : Type} (g_f52 : Nat → List Int → (Bool → Option R) → Option R) (k : Nat) : Orc D R := (orcAdd 52 (f52_d (g_f52 k) noDr) noOrc)
theorem f64_o_ok {R : Type} (k : Nat) : OrcOk Try.prog cx (f64_o (R := R) (f52 (R := R)) k) := (OrcOk.add (f52_ok k FnOk.no) OrcOk.no)
noncomputable def f64_b : Code := bodyOf Try.f64
noncomputable def f64_l2_a : LAnn := ⟨⟨[], [0, 1, 7, 8], []⟩, exOf (some ⟨[], [4], []⟩) [(0, ⟨[], [], []⟩)]⟩
noncomputable def f64_ann : Nat → Option LAnn := fun key => bif Nat.beq key 2 then some f64_l2_a else none
noncomputable def f64_l2_b : Code := loopAt f64_b 0
noncomputable def f64_l2_g {R : Type} (g_f52 : Nat → List Int → (Bool → Option R) → Option R) (k : Nat) (x : (List (List Int) × (Unit) × Int × Int × Unit)) (_y : (Unit)) (K : Ex → List (PV D) → List (Option (Am.Obj D)) → Option R) : Option R := f64_l2 g_f52 k x.1 x.2.2.1 x.2.2.2.1 (K (.exit 0) [] []) (fun z0 => K (.ret) [.int .i64 z0] [])
noncomputable def f64_l2_d {R : Type} (g_f52 : Nat → List Int → (Bool → Option R) → Option R) (k : Nat) : Lr D R := ldoor [.list (.slice (.int .u8)), .fn 52 [], .int .i64, .int .i64] [] (f64_l2_g g_f52 k)
noncomputable def f64_l2_lrc {R : Type} (_g_f52 : Nat → List Int → (Bool → Option R) → Option R) (_k : Nat) : Lrc D R := noLrc
theorem f64_l2_e {R : Type} (g_f52 : Nat → List Int → (Bool → Option R) → Option R) (k : Nat) (x : (List (List Int) × (Unit) × Int × Int × Unit)) (y : (Unit)) (K : Ex → List (PV D) → List (Option (Am.Obj D)) → Option R) : f64_l2_g g_f52 (k + 1) x y K = round cx (f64_o g_f52 k) (f64_l2_lrc g_f52 k) f64_ann kp 19 0 f64_l2_a f64_l2_b (gives (D := D) [.list (.slice (.int .u8)), .fn 52 [], .int .i64, .int .i64] x) (giveGs (D := D) [] y) (fun vs os => f64_l2_d g_f52 k vs os K) K := by kernel_rfl
theorem f64_l2_d_ok {R : Type} : ∀ k, LoopOk Try.prog cx 19 0 f64_ann (f64_l2_d (R := R) (f52 (R := R)) k) f64_l2_b :=
  loop_ok (keep := kp) (lrc := f64_l2_lrc (R := R) (f52 (R := R))) cxOk mixed f64_o_ok (show f64_ann (Am.keyOf f64_l2_b) = some f64_l2_a by kernel_rfl) (L := []) (by kernel_rfl) (fun k => trivial) (fun k => LrcNat.no) (fun x y K => by kernel_rfl) (f64_l2_e (f52 (R := R)))
noncomputable def f64_lrc {R : Type} (g_f52 : Nat → List Int → (Bool → Option R) → Option R) (k : Nat) : Lrc D R := (lrcAdd 2 (f64_l2_d g_f52 k) noLrc)
noncomputable def f64_d {R : Type} (g : List (List Int) → (Int → Option R) → Option R) (e : Dr D R) : Dr D R := door [.list (.slice (.int .u8)), .fn 52 []] [] (fun (x : (List (List Int) × (Unit) × Unit)) (_y : (Unit)) K => g x.1 (fun z0 => K ⟨.int .i64 z0, []⟩)) e
theorem f64_e {R : Type} (g_f52 : Nat → List Int → (Bool → Option R) → Option R) (k : Nat) (x : (List (List Int) × (Unit) × Unit)) (y : (Unit)) (K : RV D → Option R) : f64_s g_f52 k x.1 (fun z0 => K ⟨.int .i64 z0, []⟩) = exec cx (f64_o g_f52 k) (f64_lrc g_f52 k) f64_ann kp 19 0 f64_b (entry (gives (D := D) [.list (.slice (.int .u8)), .fn 52 []] x) (giveOs (D := D) [] y)) (fin cx Try.f64.results.toList [] 0 K) := by kernel_rfl
theorem f64_ok {R : Type} (k : Nat) {e : Dr D R} (he : FnOk Try.prog cx 64 e) : FnOk Try.prog cx 64 (f64_d (f64 k) e) :=
  he.door fun x y => body_ok (keep := kp) (ann := f64_ann) (lrc := f64_lrc (R := R) (f52 (R := R)) k) (N := 19) (n0 := 0) (c := []) cxOk mixed (f64_o_ok k) (body := f64_b) (by kernel_rfl : Try.prog.funcs[64]? = some Try.f64) (by kernel_rfl) (by kernel_rfl) (by kernel_rfl) (by kernel_rfl) (of_decide_eq_true (by kernel_rfl)) (L := [f64_l2_b]) (by kernel_rfl) ⟨(f64_l2_d_ok k).use (by kernel_rfl), trivial⟩ ((LrcNat.add (f64_l2_d_ok k).2 LrcNat.no)) (fun K => f64_e (f52 (R := R)) k x y K)

/-! ## 51: slices.ContainsFunc[[][]byte,[]byte] -/
noncomputable def f51_s {R : Type} (g_f64 : Nat → List (List Int) → (Int → Option R) → Option R) (k : Nat) (a0 : List (List Int)) (K : Bool → Option R) : Option R :=
  g_f64 k a0 (fun v1 =>
    K (decide (v1 ≥ 0)))
noncomputable def f51 {R : Type} (k : Nat) (a0 : List (List Int)) (K : Bool → Option R) : Option R := f51_s (f64 (R := R)) k a0 K
noncomputable def f51_o {R : Type} (g_f64 : Nat → List (List Int) → (Int → Option R) → Option R) (k : Nat) : Orc D R := (orcAdd 64 (f64_d (g_f64 k) noDr) noOrc)
theorem f51_o_ok {R : Type} (k : Nat) : OrcOk Try.prog cx (f51_o (R := R) (f64 (R := R)) k) := (OrcOk.add (f64_ok k FnOk.no) OrcOk.no)
noncomputable def f51_b : Code := bodyOf Try.f51
noncomputable def f51_ann : Nat → Option LAnn := fun _key => none
noncomputable def f51_lrc {R : Type} (_g_f64 : Nat → List (List Int) → (Int → Option R) → Option R) (_k : Nat) : Lrc D R := noLrc
noncomputable def f51_d {R : Type} (g : List (List Int) → (Bool → Option R) → Option R) (e : Dr D R) : Dr D R := door [.list (.slice (.int .u8)), .fn 52 []] [] (fun (x : (List (List Int) × (Unit) × Unit)) (_y : (Unit)) K => g x.1 (fun z0 => K ⟨.bool z0, []⟩)) e
theorem f51_e {R : Type} (g_f64 : Nat → List (List Int) → (Int → Option R) → Option R) (k : Nat) (x : (List (List Int) × (Unit) × Unit)) (y : (Unit)) (K : RV D → Option R) : f51_s g_f64 k x.1 (fun z0 => K ⟨.bool z0, []⟩) = exec cx (f51_o g_f64 k) (f51_lrc g_f64 k) f51_ann kp 9 0 f51_b (entry (gives (D := D) [.list (.slice (.int .u8)), .fn 52 []] x) (giveOs (D := D) [] y)) (fin cx Try.f51.results.toList [] 0 K) := by kernel_rfl
theorem f51_ok {R : Type} (k : Nat) {e : Dr D R} (he : FnOk Try.prog cx 51 e) : FnOk Try.prog cx 51 (f51_d (f51 k) e) :=
  he.door fun x y => body_ok (keep := kp) (ann := f51_ann) (lrc := f51_lrc (R := R) (f64 (R := R)) k) (N := 9) (n0 := 0) (c := []) cxOk mixed (f51_o_ok k) (body := f51_b) (by kernel_rfl : Try.prog.funcs[51]? = some Try.f51) (by kernel_rfl) (by kernel_rfl) (by kernel_rfl) (by kernel_rfl) (of_decide_eq_true (by kernel_rfl)) (L := []) (by kernel_rfl) trivial (LrcNat.no) (fun K => f51_e (f64 (R := R)) k x y K)

/-! ## 53: diorama/lace.frames$2 -/
noncomputable def f53_s {R : Type} (_k : Nat) (a0 : List Int) (a1 : List (List Int)) (K : Bool → List (List Int) → Option R) : Option R :=
  bif inb 0 a1.length then
    K ((a0.length : Int) != ((a1.getD 0 []).length : Int)) a1
  else
    none
noncomputable def f53 {R : Type} (k : Nat) (a0 : List Int) (a1 : List (List Int)) (K : Bool → List (List Int) → Option R) : Option R := f53_s k a0 a1 K
noncomputable def f53_o {R : Type} (_k : Nat) : Orc D R := noOrc
theorem f53_o_ok {R : Type} (k : Nat) : OrcOk Try.prog cx (f53_o (R := R) k) := OrcOk.no
noncomputable def f53_b : Code := bodyOf Try.f53
noncomputable def f53_ann : Nat → Option LAnn := fun _key => none
noncomputable def f53_lrc {R : Type} (_k : Nat) : Lrc D R := noLrc
noncomputable def f53_d {R : Type} (g : List Int → List (List Int) → (Bool → List (List Int) → Option R) → Option R) (e : Dr D R) : Dr D R := door [.list (.int .u8), .ptr 0 0] [.box [.list (.slice (.int .u8))]] (fun (x : (List Int × Unit × Unit)) (y : ((List (List Int) × Unit) × Unit)) K => g x.1 y.1.1 (fun z0 z1 => K ⟨.bool z0, [some (.box [.list (.slice (.int .u8)) z1])]⟩)) e
theorem f53_e {R : Type} (k : Nat) (x : (List Int × Unit × Unit)) (y : ((List (List Int) × Unit) × Unit)) (K : RV D → Option R) : f53_s k x.1 y.1.1 (fun z0 z1 => K ⟨.bool z0, [some (.box [.list (.slice (.int .u8)) z1])]⟩) = exec cx (f53_o k) (f53_lrc k) f53_ann kp 11 1 f53_b (entry (gives (D := D) [.list (.int .u8), .ptr 0 0] x) (giveOs (D := D) [.box [.list (.slice (.int .u8))]] y)) (fin cx Try.f53.results.toList [] 1 K) := by kernel_rfl
theorem f53_ok {R : Type} (k : Nat) {e : Dr D R} (he : FnOk Try.prog cx 53 e) : FnOk Try.prog cx 53 (f53_d (f53 k) e) :=
  he.door fun x y => body_ok (keep := kp) (ann := f53_ann) (lrc := f53_lrc (R := R) k) (N := 11) (n0 := 1) (c := []) cxOk mixed (f53_o_ok k) (body := f53_b) (by kernel_rfl : Try.prog.funcs[53]? = some Try.f53) (by kernel_rfl) (by kernel_rfl) (by kernel_rfl) (by kernel_rfl) (of_decide_eq_true (by kernel_rfl)) (L := []) (by kernel_rfl) trivial (LrcNat.no) (fun K => f53_e k x y K)

/-! ## 64: slices.IndexFunc[[][]byte,[]byte] -/
noncomputable def f64_2_l2 {R : Type} (g_f53 : Nat → List Int → List (List Int) → (Bool → List (List Int) → Option R) → Option R) : Nat → List (List Int) → Int → Int → List (List Int) → (List (List Int) → Option R) → (Int → List (List Int) → Option R) → Option R
  | 0, _, _, _, _, _, _ => none
  | k + 1, v1, v2, v3, v4, X0, X1 =>
    bif decide (v3 < v2) then
      bif inb v3 v1.length then
        g_f53 k (v1.getD v3.toNat []) v4 (fun v5 v6 =>
          bif v5 then
            X1 v3 v6
          else
            f64_2_l2 g_f53 k v1 v2 (IntKind.i64.wrap (v3 + 1)) v6 X0 X1)
      else
        none
    else
      X0 v4
noncomputable def f64_2_s {R : Type} (g_f53 : Nat → List Int → List (List Int) → (Bool → List (List Int) → Option R) → Option R) (k : Nat) (a0 : List (List Int)) (a1 : List (List Int)) (K : Int → List (List Int) → Option R) : Option R :=
  f64_2_l2 g_f53 k a0 (a0.length : Int) 0 a1 (fun v7 =>
    K (-1) v7) (fun v8 v9 =>
    K v8 v9)
noncomputable def f64_2 {R : Type} (k : Nat) (a0 : List (List Int)) (a1 : List (List Int)) (K : Int → List (List Int) → Option R) : Option R := f64_2_s (f53 (R := R)) k a0 a1 K
noncomputable def f64_2_o {R : Type} (g_f53 : Nat → List Int → List (List Int) → (Bool → List (List Int) → Option R) → Option R) (k : Nat) : Orc D R := (orcAdd 53 (f53_d (g_f53 k) noDr) noOrc)
theorem f64_2_o_ok {R : Type} (k : Nat) : OrcOk Try.prog cx (f64_2_o (R := R) (f53 (R := R)) k) := (OrcOk.add (f53_ok k FnOk.no) OrcOk.no)
noncomputable def f64_2_b : Code := bodyOf Try.f64
noncomputable def f64_2_l2_a : LAnn := ⟨⟨[], [0, 1, 7, 8], [0]⟩, exOf (some ⟨[], [4], [0]⟩) [(0, ⟨[], [], [0]⟩)]⟩
noncomputable def f64_2_ann : Nat → Option LAnn := fun key => bif Nat.beq key 2 then some f64_2_l2_a else none
noncomputable def f64_2_l2_b : Code := loopAt f64_2_b 0
noncomputable def f64_2_l2_g {R : Type} (g_f53 : Nat → List Int → List (List Int) → (Bool → List (List Int) → Option R) → Option R) (k : Nat) (x : (List (List Int) × (Unit × Unit) × Int × Int × Unit)) (y : ((List (List Int) × Unit) × Unit)) (K : Ex → List (PV D) → List (Option (Am.Obj D)) → Option R) : Option R := f64_2_l2 g_f53 k x.1 x.2.2.1 x.2.2.2.1 y.1.1 (fun z0 => K (.exit 0) [] [some (.box [.list (.slice (.int .u8)) z0])]) (fun z0 z1 => K (.ret) [.int .i64 z0] [some (.box [.list (.slice (.int .u8)) z1])])
noncomputable def f64_2_l2_d {R : Type} (g_f53 : Nat → List Int → List (List Int) → (Bool → List (List Int) → Option R) → Option R) (k : Nat) : Lr D R := ldoor [.list (.slice (.int .u8)), .fn 53 [.ptr 0 0], .int .i64, .int .i64] [some (.box [.list (.slice (.int .u8))])] (f64_2_l2_g g_f53 k)
noncomputable def f64_2_l2_lrc {R : Type} (_g_f53 : Nat → List Int → List (List Int) → (Bool → List (List Int) → Option R) → Option R) (_k : Nat) : Lrc D R := noLrc
theorem f64_2_l2_e {R : Type} (g_f53 : Nat → List Int → List (List Int) → (Bool → List (List Int) → Option R) → Option R) (k : Nat) (x : (List (List Int) × (Unit × Unit) × Int × Int × Unit)) (y : ((List (List Int) × Unit) × Unit)) (K : Ex → List (PV D) → List (Option (Am.Obj D)) → Option R) : f64_2_l2_g g_f53 (k + 1) x y K = round cx (f64_2_o g_f53 k) (f64_2_l2_lrc g_f53 k) f64_2_ann kp 19 1 f64_2_l2_a f64_2_l2_b (gives (D := D) [.list (.slice (.int .u8)), .fn 53 [.ptr 0 0], .int .i64, .int .i64] x) (giveGs (D := D) [some (.box [.list (.slice (.int .u8))])] y) (fun vs os => f64_2_l2_d g_f53 k vs os K) K := by kernel_rfl
theorem f64_2_l2_d_ok {R : Type} : ∀ k, LoopOk Try.prog cx 19 1 f64_2_ann (f64_2_l2_d (R := R) (f53 (R := R)) k) f64_2_l2_b :=
  loop_ok (keep := kp) (lrc := f64_2_l2_lrc (R := R) (f53 (R := R))) cxOk mixed f64_2_o_ok (show f64_2_ann (Am.keyOf f64_2_l2_b) = some f64_2_l2_a by kernel_rfl) (L := []) (by kernel_rfl) (fun k => trivial) (fun k => LrcNat.no) (fun x y K => by kernel_rfl) (f64_2_l2_e (f53 (R := R)))
noncomputable def f64_2_lrc {R : Type} (g_f53 : Nat → List Int → List (List Int) → (Bool → List (List Int) → Option R) → Option R) (k : Nat) : Lrc D R := (lrcAdd 2 (f64_2_l2_d g_f53 k) noLrc)
noncomputable def f64_2_d {R : Type} (g : List (List Int) → List (List Int) → (Int → List (List Int) → Option R) → Option R) (e : Dr D R) : Dr D R := door [.list (.slice (.int .u8)), .fn 53 [.ptr 0 0]] [.box [.list (.slice (.int .u8))]] (fun (x : (List (List Int) × (Unit × Unit) × Unit)) (y : ((List (List Int) × Unit) × Unit)) K => g x.1 y.1.1 (fun z0 z1 => K ⟨.int .i64 z0, [some (.box [.list (.slice (.int .u8)) z1])]⟩)) e
theorem f64_2_e {R : Type} (g_f53 : Nat → List Int → List (List Int) → (Bool → List (List Int) → Option R) → Option R) (k : Nat) (x : (List (List Int) × (Unit × Unit) × Unit)) (y : ((List (List Int) × Unit) × Unit)) (K : RV D → Option R) : f64_2_s g_f53 k x.1 y.1.1 (fun z0 z1 => K ⟨.int .i64 z0, [some (.box [.list (.slice (.int .u8)) z1])]⟩) = exec cx (f64_2_o g_f53 k) (f64_2_lrc g_f53 k) f64_2_ann kp 19 1 f64_2_b (entry (gives (D := D) [.list (.slice (.int .u8)), .fn 53 [.ptr 0 0]] x) (giveOs (D := D) [.box [.list (.slice (.int .u8))]] y)) (fin cx Try.f64.results.toList [] 1 K) := by kernel_rfl
theorem f64_2_ok {R : Type} (k : Nat) {e : Dr D R} (he : FnOk Try.prog cx 64 e) : FnOk Try.prog cx 64 (f64_2_d (f64_2 k) e) :=
  he.door fun x y => body_ok (keep := kp) (ann := f64_2_ann) (lrc := f64_2_lrc (R := R) (f53 (R := R)) k) (N := 19) (n0 := 1) (c := []) cxOk mixed (f64_2_o_ok k) (body := f64_2_b) (by kernel_rfl : Try.prog.funcs[64]? = some Try.f64) (by kernel_rfl) (by kernel_rfl) (by kernel_rfl) (by kernel_rfl) (of_decide_eq_true (by kernel_rfl)) (L := [f64_2_l2_b]) (by kernel_rfl) ⟨(f64_2_l2_d_ok k).use (by kernel_rfl), trivial⟩ ((LrcNat.add (f64_2_l2_d_ok k).2 LrcNat.no)) (fun K => f64_2_e (f53 (R := R)) k x y K)

/-! ## 51: slices.ContainsFunc[[][]byte,[]byte] -/
noncomputable def f51_2_s {R : Type} (g_f64_2 : Nat → List (List Int) → List (List Int) → (Int → List (List Int) → Option R) → Option R) (k : Nat) (a0 : List (List Int)) (a1 : List (List Int)) (K : Bool → List (List Int) → Option R) : Option R :=
  g_f64_2 k a0 a1 (fun v1 v2 =>
    K (decide (v1 ≥ 0)) v2)
noncomputable def f51_2 {R : Type} (k : Nat) (a0 : List (List Int)) (a1 : List (List Int)) (K : Bool → List (List Int) → Option R) : Option R := f51_2_s (f64_2 (R := R)) k a0 a1 K
noncomputable def f51_2_o {R : Type} (g_f64_2 : Nat → List (List Int) → List (List Int) → (Int → List (List Int) → Option R) → Option R) (k : Nat) : Orc D R := (orcAdd 64 (f64_2_d (g_f64_2 k) noDr) noOrc)
theorem f51_2_o_ok {R : Type} (k : Nat) : OrcOk Try.prog cx (f51_2_o (R := R) (f64_2 (R := R)) k) := (OrcOk.add (f64_2_ok k FnOk.no) OrcOk.no)
noncomputable def f51_2_b : Code := bodyOf Try.f51
noncomputable def f51_2_ann : Nat → Option LAnn := fun _key => none
noncomputable def f51_2_lrc {R : Type} (_g_f64_2 : Nat → List (List Int) → List (List Int) → (Int → List (List Int) → Option R) → Option R) (_k : Nat) : Lrc D R := noLrc
noncomputable def f51_2_d {R : Type} (g : List (List Int) → List (List Int) → (Bool → List (List Int) → Option R) → Option R) (e : Dr D R) : Dr D R := door [.list (.slice (.int .u8)), .fn 53 [.ptr 0 0]] [.box [.list (.slice (.int .u8))]] (fun (x : (List (List Int) × (Unit × Unit) × Unit)) (y : ((List (List Int) × Unit) × Unit)) K => g x.1 y.1.1 (fun z0 z1 => K ⟨.bool z0, [some (.box [.list (.slice (.int .u8)) z1])]⟩)) e
theorem f51_2_e {R : Type} (g_f64_2 : Nat → List (List Int) → List (List Int) → (Int → List (List Int) → Option R) → Option R) (k : Nat) (x : (List (List Int) × (Unit × Unit) × Unit)) (y : ((List (List Int) × Unit) × Unit)) (K : RV D → Option R) : f51_2_s g_f64_2 k x.1 y.1.1 (fun z0 z1 => K ⟨.bool z0, [some (.box [.list (.slice (.int .u8)) z1])]⟩) = exec cx (f51_2_o g_f64_2 k) (f51_2_lrc g_f64_2 k) f51_2_ann kp 9 1 f51_2_b (entry (gives (D := D) [.list (.slice (.int .u8)), .fn 53 [.ptr 0 0]] x) (giveOs (D := D) [.box [.list (.slice (.int .u8))]] y)) (fin cx Try.f51.results.toList [] 1 K) := by kernel_rfl
theorem f51_2_ok {R : Type} (k : Nat) {e : Dr D R} (he : FnOk Try.prog cx 51 e) : FnOk Try.prog cx 51 (f51_2_d (f51_2 k) e) :=
  he.door fun x y => body_ok (keep := kp) (ann := f51_2_ann) (lrc := f51_2_lrc (R := R) (f64_2 (R := R)) k) (N := 9) (n0 := 1) (c := []) cxOk mixed (f51_2_o_ok k) (body := f51_2_b) (by kernel_rfl : Try.prog.funcs[51]? = some Try.f51) (by kernel_rfl) (by kernel_rfl) (by kernel_rfl) (by kernel_rfl) (of_decide_eq_true (by kernel_rfl)) (L := []) (by kernel_rfl) trivial (LrcNat.no) (fun K => f51_2_e (f64_2 (R := R)) k x y K)

/-! ## 36: diorama/lace.frames -/
noncomputable def f36_s {R : Type} (g_f51 : Nat → List (List Int) → (Bool → Option R) → Option R) (g_f51_2 : Nat → List (List Int) → List (List Int) → (Bool → List (List Int) → Option R) → Option R) (k : Nat) (a0 : Int) (a1 : List (List Int)) (K : Int → Option R) : Option R :=
  bif decide ((a1.length : Int) < 1) then
    K 2
  else
    bif decide ((a1.length : Int) > 32) then
      K 2
    else
      g_f51 k a1 (fun v1 =>
        bif v1 then
          K 2
        else
          bif (a0 == 0) then
            bif decide ((a1.length : Int) > 1) then
              K 50
            else
              bif (a0 == 2) then
                g_f51_2 k a1 a1 (fun v2 _v3 =>
                  bif v2 then
                    K 50
                  else
                    K 0)
              else
                K 0
          else
            bif (a0 == 2) then
              g_f51_2 k a1 a1 (fun v4 _v5 =>
                bif v4 then
                  K 50
                else
                  K 0)
            else
              K 0)
noncomputable def f36 {R : Type} (k : Nat) (a0 : Int) (a1 : List (List Int)) (K : Int → Option R) : Option R := f36_s (f51 (R := R)) (f51_2 (R := R)) k a0 a1 K
noncomputable def f36_o {R : Type} (g_f51 : Nat → List (List Int) → (Bool → Option R) → Option R) (g_f51_2 : Nat → List (List Int) → List (List Int) → (Bool → List (List Int) → Option R) → Option R) (k : Nat) : Orc D R := (orcAdd 51 (f51_2_d (g_f51_2 k) (f51_d (g_f51 k) noDr)) noOrc)
theorem f36_o_ok {R : Type} (k : Nat) : OrcOk Try.prog cx (f36_o (R := R) (f51 (R := R)) (f51_2 (R := R)) k) := (OrcOk.add (f51_2_ok k (f51_ok k FnOk.no)) OrcOk.no)
noncomputable def f36_b : Code := bodyOf Try.f36
noncomputable def f36_ann : Nat → Option LAnn := fun _key => none
noncomputable def f36_lrc {R : Type} (_g_f51 : Nat → List (List Int) → (Bool → Option R) → Option R) (_g_f51_2 : Nat → List (List Int) → List (List Int) → (Bool → List (List Int) → Option R) → Option R) (_k : Nat) : Lrc D R := noLrc
noncomputable def f36_d {R : Type} (g : Int → List (List Int) → (Int → Option R) → Option R) (e : Dr D R) : Dr D R := door [.int .i64, .list (.slice (.int .u8))] [] (fun (x : (Int × List (List Int) × Unit)) (_y : (Unit)) K => g x.1 x.2.1 (fun z0 => K ⟨.int .i64 z0, []⟩)) e
theorem f36_e {R : Type} (g_f51 : Nat → List (List Int) → (Bool → Option R) → Option R) (g_f51_2 : Nat → List (List Int) → List (List Int) → (Bool → List (List Int) → Option R) → Option R) (k : Nat) (x : (Int × List (List Int) × Unit)) (y : (Unit)) (K : RV D → Option R) : f36_s g_f51 g_f51_2 k x.1 x.2.1 (fun z0 => K ⟨.int .i64 z0, []⟩) = exec cx (f36_o g_f51 g_f51_2 k) (f36_lrc g_f51 g_f51_2 k) f36_ann kp 35 0 f36_b (entry (gives (D := D) [.int .i64, .list (.slice (.int .u8))] x) (giveOs (D := D) [] y)) (fin cx Try.f36.results.toList [] 0 K) := by kernel_rfl
theorem f36_ok {R : Type} (k : Nat) {e : Dr D R} (he : FnOk Try.prog cx 36 e) : FnOk Try.prog cx 36 (f36_d (f36 k) e) :=
  he.door fun x y => body_ok (keep := kp) (ann := f36_ann) (lrc := f36_lrc (R := R) (f51 (R := R)) (f51_2 (R := R)) k) (N := 35) (n0 := 0) (c := []) cxOk mixed (f36_o_ok k) (body := f36_b) (by kernel_rfl : Try.prog.funcs[36]? = some Try.f36) (by kernel_rfl) (by kernel_rfl) (by kernel_rfl) (by kernel_rfl) (of_decide_eq_true (by kernel_rfl)) (L := []) (by kernel_rfl) trivial (LrcNat.no) (fun K => f36_e (f51 (R := R)) (f51_2 (R := R)) k x y K)

/-! ## 12: diorama/lace.Check -/
noncomputable def f12_s {R : Type} (g_f36 : Nat → Int → List (List Int) → (Int → Option R) → Option R) (k : Nat) (a0 : Int) (a1 : Int) (_a2 : Bool) (a3 : Int) (a4 : List (List Int)) (K : Int → Option R) : Option R :=
  bif decide (a0 < 1) then
    K 1
  else
    bif decide (a0 > 1000) then
      K 1
    else
      bif decide (a1 < (-32768)) then
        K 1
      else
        bif decide (a1 > 32767) then
          K 1
        else
          bif decide (a3 < 0) then
            K 1
          else
            bif decide (a3 > 3) then
              K 1
            else
              g_f36 k a3 a4 (fun v1 =>
                K v1)
noncomputable def f12 {R : Type} (k : Nat) (a0 : Int) (a1 : Int) (a2 : Bool) (a3 : Int) (a4 : List (List Int)) (K : Int → Option R) : Option R := f12_s (f36 (R := R)) k a0 a1 a2 a3 a4 K
noncomputable def f12_o {R : Type} (g_f36 : Nat → Int → List (List Int) → (Int → Option R) → Option R) (k : Nat) : Orc D R := (orcAdd 36 (f36_d (g_f36 k) noDr) noOrc)
theorem f12_o_ok {R : Type} (k : Nat) : OrcOk Try.prog cx (f12_o (R := R) (f36 (R := R)) k) := (OrcOk.add (f36_ok k FnOk.no) OrcOk.no)
noncomputable def f12_b : Code := bodyOf Try.f12
noncomputable def f12_ann : Nat → Option LAnn := fun _key => none
noncomputable def f12_lrc {R : Type} (_g_f36 : Nat → Int → List (List Int) → (Int → Option R) → Option R) (_k : Nat) : Lrc D R := noLrc
noncomputable def f12_d {R : Type} (g : Int → Int → Bool → Int → List (List Int) → (Int → Option R) → Option R) (e : Dr D R) : Dr D R := door [.agg [.int .i64, .int .i64, .bool, .int .i64, .list (.slice (.int .u8))]] [] (fun (x : ((Int × Int × Bool × Int × List (List Int) × Unit) × Unit)) (_y : (Unit)) K => g x.1.1 x.1.2.1 x.1.2.2.1 x.1.2.2.2.1 x.1.2.2.2.2.1 (fun z0 => K ⟨.int .i64 z0, []⟩)) e
theorem f12_e {R : Type} (g_f36 : Nat → Int → List (List Int) → (Int → Option R) → Option R) (k : Nat) (x : ((Int × Int × Bool × Int × List (List Int) × Unit) × Unit)) (y : (Unit)) (K : RV D → Option R) : f12_s g_f36 k x.1.1 x.1.2.1 x.1.2.2.1 x.1.2.2.2.1 x.1.2.2.2.2.1 (fun z0 => K ⟨.int .i64 z0, []⟩) = exec cx (f12_o g_f36 k) (f12_lrc g_f36 k) f12_ann kp 36 0 f12_b (entry (gives (D := D) [.agg [.int .i64, .int .i64, .bool, .int .i64, .list (.slice (.int .u8))]] x) (giveOs (D := D) [] y)) (fin cx Try.f12.results.toList [] 0 K) := by kernel_rfl
theorem f12_ok {R : Type} (k : Nat) {e : Dr D R} (he : FnOk Try.prog cx 12 e) : FnOk Try.prog cx 12 (f12_d (f12 k) e) :=
  he.door fun x y => body_ok (keep := kp) (ann := f12_ann) (lrc := f12_lrc (R := R) (f36 (R := R)) k) (N := 36) (n0 := 0) (c := []) cxOk mixed (f12_o_ok k) (body := f12_b) (by kernel_rfl : Try.prog.funcs[12]? = some Try.f12) (by kernel_rfl) (by kernel_rfl) (by kernel_rfl) (by kernel_rfl) (of_decide_eq_true (by kernel_rfl)) (L := []) (by kernel_rfl) trivial (LrcNat.no) (fun K => f12_e (f36 (R := R)) k x y K)

/-! ## 45: diorama/bits.all -/
noncomputable def f45_s {R : Type} (_k : Nat) (a0 : Int) (K : Int → Option R) : Option R :=
  bif decide ((IntKind.i64.wrap (7 * a0)) < 0) then
    none
  else
    K (IntKind.i64.wrap ((shlI .i64 1 (IntKind.i64.wrap (7 * a0))) - 1))
noncomputable def f45 {R : Type} (k : Nat) (a0 : Int) (K : Int → Option R) : Option R := f45_s k a0 K
noncomputable def f45_o {R : Type} (_k : Nat) : Orc D R := noOrc
theorem f45_o_ok {R : Type} (k : Nat) : OrcOk Try.prog cx (f45_o (R := R) k) := OrcOk.no
noncomputable def f45_b : Code := bodyOf Try.f45
noncomputable def f45_ann : Nat → Option LAnn := fun _key => none
noncomputable def f45_lrc {R : Type} (_k : Nat) : Lrc D R := noLrc
noncomputable def f45_d {R : Type} (g : Int → (Int → Option R) → Option R) (e : Dr D R) : Dr D R := door [.int .i64] [] (fun (x : (Int × Unit)) (_y : (Unit)) K => g x.1 (fun z0 => K ⟨.int .i64 z0, []⟩)) e
theorem f45_e {R : Type} (k : Nat) (x : (Int × Unit)) (y : (Unit)) (K : RV D → Option R) : f45_s k x.1 (fun z0 => K ⟨.int .i64 z0, []⟩) = exec cx (f45_o k) (f45_lrc k) f45_ann kp 7 0 f45_b (entry (gives (D := D) [.int .i64] x) (giveOs (D := D) [] y)) (fin cx Try.f45.results.toList [] 0 K) := by kernel_rfl
theorem f45_ok {R : Type} (k : Nat) {e : Dr D R} (he : FnOk Try.prog cx 45 e) : FnOk Try.prog cx 45 (f45_d (f45 k) e) :=
  he.door fun x y => body_ok (keep := kp) (ann := f45_ann) (lrc := f45_lrc (R := R) k) (N := 7) (n0 := 0) (c := []) cxOk mixed (f45_o_ok k) (body := f45_b) (by kernel_rfl : Try.prog.funcs[45]? = some Try.f45) (by kernel_rfl) (by kernel_rfl) (by kernel_rfl) (by kernel_rfl) (of_decide_eq_true (by kernel_rfl)) (L := []) (by kernel_rfl) trivial (LrcNat.no) (fun K => f45_e k x y K)

/-! ## 61: diorama/bits.big -/
noncomputable def f61_l3 {R : Type} : Nat → Int → Int → List Int → (List Int → Option R) → Option R
  | 0, _, _, _, _ => none
  | k + 1, v1, v2, v3, X0 =>
    bif decide (v2 ≥ 0) then
      bif inb v2 v3.length then
        f61_l3 k (shrI .u64 v1 8) (IntKind.i64.wrap (v2 - 1)) (v3.set v2.toNat (IntKind.u8.wrap (v1))) X0
      else
        none
    else
      X0 v3
noncomputable def f61_s {R : Type} (k : Nat) (a0 : Int) (a1 : Int) (K : List Int → Option R) : Option R :=
  bif (decide ((0 : Int) ≤ a1)) && (decide (a1 ≤ a1)) && (decide (a1 * ((1 : Nat) : Int) ≤ 140737488355328)) then
    f61_l3 k a0 (IntKind.i64.wrap (a1 - 1)) (List.replicate a1.toNat (0 : Int)) (fun v4 =>
      K v4)
  else
    none
noncomputable def f61 {R : Type} (k : Nat) (a0 : Int) (a1 : Int) (K : List Int → Option R) : Option R := f61_s k a0 a1 K
noncomputable def f61_o {R : Type} (_k : Nat) : Orc D R := noOrc
theorem f61_o_ok {R : Type} (k : Nat) : OrcOk Try.prog cx (f61_o (R := R) k) := OrcOk.no
noncomputable def f61_b : Code := bodyOf Try.f61
noncomputable def f61_l3_a : LAnn := ⟨⟨[], [0, 5, 6], [131216]⟩, exOf (none) [(0, ⟨[], [5], [131216]⟩)]⟩
noncomputable def f61_ann : Nat → Option LAnn := fun key => bif Nat.beq key 3 then some f61_l3_a else none
noncomputable def f61_l3_b : Code := loopAt f61_b 0
noncomputable def f61_l3_g {R : Type} (k : Nat) (x : (Int × Unit × Int × Unit)) (y : (List Int × Unit)) (K : Ex → List (PV D) → List (Option (Am.Obj D)) → Option R) : Option R := f61_l3 k x.1 x.2.2.1 y.1 (fun z0 => K (.exit 0) [.own 131216] [some (.row (.int .u8) z0 true)])
noncomputable def f61_l3_d {R : Type} (k : Nat) : Lr D R := ldoor [.int .u64, .own 131216, .int .i64] [some (.row (.int .u8) true)] (f61_l3_g k)
noncomputable def f61_l3_lrc {R : Type} (_k : Nat) : Lrc D R := noLrc
theorem f61_l3_e {R : Type} (k : Nat) (x : (Int × Unit × Int × Unit)) (y : (List Int × Unit)) (K : Ex → List (PV D) → List (Option (Am.Obj D)) → Option R) : f61_l3_g (k + 1) x y K = round cx (f61_o k) (f61_l3_lrc k) f61_ann kp 23 0 f61_l3_a f61_l3_b (gives (D := D) [.int .u64, .own 131216, .int .i64] x) (giveGs (D := D) [some (.row (.int .u8) true)] y) (fun vs os => f61_l3_d k vs os K) K := by kernel_rfl
theorem f61_l3_d_ok {R : Type} : ∀ k, LoopOk Try.prog cx 23 0 f61_ann (f61_l3_d (R := R) k) f61_l3_b :=
  loop_ok (keep := kp) (lrc := f61_l3_lrc (R := R)) cxOk mixed f61_o_ok (show f61_ann (Am.keyOf f61_l3_b) = some f61_l3_a by kernel_rfl) (L := []) (by kernel_rfl) (fun k => trivial) (fun k => LrcNat.no) (fun x y K => by kernel_rfl) (f61_l3_e)
noncomputable def f61_lrc {R : Type} (k : Nat) : Lrc D R := (lrcAdd 3 (f61_l3_d k) noLrc)
noncomputable def f61_d {R : Type} (g : Int → Int → (List Int → Option R) → Option R) (e : Dr D R) : Dr D R := door [.int .u64, .int .i64] [] (fun (x : (Int × Int × Unit)) (_y : (Unit)) K => g x.1 x.2.1 (fun z0 => K ⟨.own 0, [some (.row (.int .u8) z0 true)]⟩)) e
theorem f61_e {R : Type} (k : Nat) (x : (Int × Int × Unit)) (y : (Unit)) (K : RV D → Option R) : f61_s k x.1 x.2.1 (fun z0 => K ⟨.own 0, [some (.row (.int .u8) z0 true)]⟩) = exec cx (f61_o k) (f61_lrc k) f61_ann kp 23 0 f61_b (entry (gives (D := D) [.int .u64, .int .i64] x) (giveOs (D := D) [] y)) (fin cx Try.f61.results.toList [] 0 K) := by kernel_rfl
theorem f61_ok {R : Type} (k : Nat) {e : Dr D R} (he : FnOk Try.prog cx 61 e) : FnOk Try.prog cx 61 (f61_d (f61 k) e) :=
  he.door fun x y => body_ok (keep := kp) (ann := f61_ann) (lrc := f61_lrc (R := R) k) (N := 23) (n0 := 0) (c := []) cxOk mixed (f61_o_ok k) (body := f61_b) (by kernel_rfl : Try.prog.funcs[61]? = some Try.f61) (by kernel_rfl) (by kernel_rfl) (by kernel_rfl) (by kernel_rfl) (of_decide_eq_true (by kernel_rfl)) (L := [f61_l3_b]) (by kernel_rfl) ⟨(f61_l3_d_ok k).use (by kernel_rfl), trivial⟩ ((LrcNat.add (f61_l3_d_ok k).2 LrcNat.no)) (fun K => f61_e k x y K)

/-! ## 46: diorama/bits.mark -/
noncomputable def f46_s {R : Type} (g_f61 : Nat → Int → Int → (List Int → Option R) → Option R) (k : Nat) (a0 : Int) (a1 : Int) (K : List Int → Option R) : Option R :=
  bif decide ((IntKind.i64.wrap (7 * a1)) < 0) then
    none
  else
    g_f61 k (orI .u64 a0 (shlI .u64 1 (IntKind.i64.wrap (7 * a1)))) a1 (fun v1 =>
      K v1)
noncomputable def f46 {R : Type} (k : Nat) (a0 : Int) (a1 : Int) (K : List Int → Option R) : Option R := f46_s (f61 (R := R)) k a0 a1 K
noncomputable def f46_o {R : Type} (g_f61 : Nat → Int → Int → (List Int → Option R) → Option R) (k : Nat) : Orc D R := (orcAdd 61 (f61_d (g_f61 k) noDr) noOrc)
theorem f46_o_ok {R : Type} (k : Nat) : OrcOk Try.prog cx (f46_o (R := R) (f61 (R := R)) k) := (OrcOk.add (f61_ok k FnOk.no) OrcOk.no)
noncomputable def f46_b : Code := bodyOf Try.f46
noncomputable def f46_ann : Nat → Option LAnn := fun _key => none
noncomputable def f46_lrc {R : Type} (_g_f61 : Nat → Int → Int → (List Int → Option R) → Option R) (_k : Nat) : Lrc D R := noLrc
noncomputable def f46_d {R : Type} (g : Int → Int → (List Int → Option R) → Option R) (e : Dr D R) : Dr D R := door [.int .u64, .int .i64] [] (fun (x : (Int × Int × Unit)) (_y : (Unit)) K => g x.1 x.2.1 (fun z0 => K ⟨.own 0, [some (.row (.int .u8) z0 true)]⟩)) e
theorem f46_e {R : Type} (g_f61 : Nat → Int → Int → (List Int → Option R) → Option R) (k : Nat) (x : (Int × Int × Unit)) (y : (Unit)) (K : RV D → Option R) : f46_s g_f61 k x.1 x.2.1 (fun z0 => K ⟨.own 0, [some (.row (.int .u8) z0 true)]⟩) = exec cx (f46_o g_f61 k) (f46_lrc g_f61 k) f46_ann kp 12 0 f46_b (entry (gives (D := D) [.int .u64, .int .i64] x) (giveOs (D := D) [] y)) (fin cx Try.f46.results.toList [] 0 K) := by kernel_rfl
theorem f46_ok {R : Type} (k : Nat) {e : Dr D R} (he : FnOk Try.prog cx 46 e) : FnOk Try.prog cx 46 (f46_d (f46 k) e) :=
  he.door fun x y => body_ok (keep := kp) (ann := f46_ann) (lrc := f46_lrc (R := R) (f61 (R := R)) k) (N := 12) (n0 := 0) (c := []) cxOk mixed (f46_o_ok k) (body := f46_b) (by kernel_rfl : Try.prog.funcs[46]? = some Try.f46) (by kernel_rfl) (by kernel_rfl) (by kernel_rfl) (by kernel_rfl) (of_decide_eq_true (by kernel_rfl)) (L := []) (by kernel_rfl) trivial (LrcNat.no) (fun K => f46_e (f61 (R := R)) k x y K)


end Go.Proofs.Ytnmoccdnkpkhhaa

/-! What the functions do, as plain functions; and that they do. -/
namespace Go.Proofs.Ytnmoccdnkpkhhaa
open Go Go.Am
/-! ## 32: diorama/bits.PutVint -/
noncomputable def f32_l5 {R : Type} (g_f45 : Nat → Int → (Int → Option R) → Option R) (g_f46 : Nat → Int → Int → (List Int → Option R) → Option R) : Nat → Int → Int → (Int → Int → Option R) → Option R
  | 0, _, _, _ => none
  | k + 1, v1, v2, X0 =>
    bif decide (v2 < 8) then
      g_f45 k v2 (fun v3 =>
        bif decide (v1 ≥ v3) then
          f32_l5 g_f45 g_f46 k v1 (IntKind.i64.wrap (v2 + 1)) X0
        else
          X0 v1 v2)
    else
      X0 v1 v2
noncomputable def f32_s {R : Type} (g_f45 : Nat → Int → (Int → Option R) → Option R) (g_f46 : Nat → Int → Int → (List Int → Option R) → Option R) (k : Nat) (a0 : Int) (a1 : Int) (K : Int → List Int → Option R) : Option R :=
  bif decide (a1 < 0) then
    K 1 ([] : List Int)
  else
    bif decide (a1 > 8) then
      K 1 ([] : List Int)
    else
      bif decide (a0 < 0) then
        K 1 ([] : List Int)
      else
        bif (a1 == 0) then
          f32_l5 g_f45 g_f46 k a0 1 (fun v4 v5 =>
            g_f45 k v5 (fun v6 =>
              bif decide (v4 ≥ v6) then
                K 1 ([] : List Int)
              else
                g_f46 k (IntKind.u64.wrap (v4)) v5 (fun v7 =>
                  K 0 v7)))
        else
          g_f45 k a1 (fun v8 =>
            bif decide (a0 ≥ v8) then
              K 1 ([] : List Int)
            else
              g_f46 k (IntKind.u64.wrap (a0)) a1 (fun v9 =>
                K 0 v9))
noncomputable def f32 {R : Type} (k : Nat) (a0 : Int) (a1 : Int) (K : Int → List Int → Option R) : Option R := f32_s (f45 (R := R)) (f46 (R := R)) k a0 a1 K
noncomputable def f32_o {R : Type} (g_f45 : Nat → Int → (Int → Option R) → Option R) (g_f46 : Nat → Int → Int → (List Int → Option R) → Option R) (k : Nat) : Orc D R := (orcAdd 46 (f46_d (g_f46 k) noDr) (orcAdd 45 (f45_d (g_f45 k) noDr) noOrc))
theorem f32_o_ok {R : Type} (k : Nat) : OrcOk Try.prog cx (f32_o (R := R) (f45 (R := R)) (f46 (R := R)) k) := (OrcOk.add (f46_ok k FnOk.no) (OrcOk.add (f45_ok k FnOk.no) OrcOk.no))
noncomputable def f32_b : Code := bodyOf Try.f32
noncomputable def f32_l5_a : LAnn := ⟨⟨[], [0, 1], []⟩, exOf (none) [(0, ⟨[], [0, 1], []⟩)]⟩
noncomputable def f32_ann : Nat → Option LAnn := fun key => bif Nat.beq key 5 then some f32_l5_a else none
noncomputable def f32_l5_b : Code := loopAt f32_b 0
noncomputable def f32_l5_g {R : Type} (g_f45 : Nat → Int → (Int → Option R) → Option R) (g_f46 : Nat → Int → Int → (List Int → Option R) → Option R) (k : Nat) (x : (Int × Int × Unit)) (_y : (Unit)) (K : Ex → List (PV D) → List (Option (Am.Obj D)) → Option R) : Option R := f32_l5 g_f45 g_f46 k x.1 x.2.1 (fun z0 z1 => K (.exit 0) [.int .i64 z0, .int .i64 z1] [])
noncomputable def f32_l5_d {R : Type} (g_f45 : Nat → Int → (Int → Option R) → Option R) (g_f46 : Nat → Int → Int → (List Int → Option R) → Option R) (k : Nat) : Lr D R := ldoor [.int .i64, .int .i64] [] (f32_l5_g g_f45 g_f46 k)
noncomputable def f32_l5_lrc {R : Type} (_g_f45 : Nat → Int → (Int → Option R) → Option R) (_g_f46 : Nat → Int → Int → (List Int → Option R) → Option R) (_k : Nat) : Lrc D R := noLrc
theorem f32_l5_e {R : Type} (g_f45 : Nat → Int → (Int → Option R) → Option R) (g_f46 : Nat → Int → Int → (List Int → Option R) → Option R) (k : Nat) (x : (Int × Int × Unit)) (y : (Unit)) (K : Ex → List (PV D) → List (Option (Am.Obj D)) → Option R) : f32_l5_g g_f45 g_f46 (k + 1) x y K = round cx (f32_o g_f45 g_f46 k) (f32_l5_lrc g_f45 g_f46 k) f32_ann kp 36 0 f32_l5_a f32_l5_b (gives (D := D) [.int .i64, .int .i64] x) (giveGs (D := D) [] y) (fun vs os => f32_l5_d g_f45 g_f46 k vs os K) K := by kernel_rfl
theorem f32_l5_d_ok {R : Type} : ∀ k, LoopOk Try.prog cx 36 0 f32_ann (f32_l5_d (R := R) (f45 (R := R)) (f46 (R := R)) k) f32_l5_b :=
  loop_ok (keep := kp) (lrc := f32_l5_lrc (R := R) (f45 (R := R)) (f46 (R := R))) cxOk mixed f32_o_ok (show f32_ann (Am.keyOf f32_l5_b) = some f32_l5_a by kernel_rfl) (L := []) (by kernel_rfl) (fun k => trivial) (fun k => LrcNat.no) (fun x y K => by kernel_rfl) (f32_l5_e (f45 (R := R)) (f46 (R := R)))
noncomputable def f32_lrc {R : Type} (g_f45 : Nat → Int → (Int → Option R) → Option R) (g_f46 : Nat → Int → Int → (List Int → Option R) → Option R) (k : Nat) : Lrc D R := (lrcAdd 5 (f32_l5_d g_f45 g_f46 k) noLrc)
noncomputable def f32_d {R : Type} (g : Int → Int → (Int → List Int → Option R) → Option R) (e : Dr D R) : Dr D R := door [.int .i64, .int .i64] [] (fun (x : (Int × Int × Unit)) (_y : (Unit)) K => g x.1 x.2.1 (fun z0 z1 => K ⟨.tup [.own 0, .int .i64 z0], [some (.row (.int .u8) z1 true)]⟩)) e
theorem f32_e {R : Type} (g_f45 : Nat → Int → (Int → Option R) → Option R) (g_f46 : Nat → Int → Int → (List Int → Option R) → Option R) (k : Nat) (x : (Int × Int × Unit)) (y : (Unit)) (K : RV D → Option R) : f32_s g_f45 g_f46 k x.1 x.2.1 (fun z0 z1 => K ⟨.tup [.own 0, .int .i64 z0], [some (.row (.int .u8) z1 true)]⟩) = exec cx (f32_o g_f45 g_f46 k) (f32_lrc g_f45 g_f46 k) f32_ann kp 36 0 f32_b (entry (gives (D := D) [.int .i64, .int .i64] x) (giveOs (D := D) [] y)) (fin cx Try.f32.results.toList [(.tmp 4, .own 1099511627776 (.int .u8))] 0 K) := by kernel_rfl
theorem f32_ok {R : Type} (k : Nat) {e : Dr D R} (he : FnOk Try.prog cx 32 e) : FnOk Try.prog cx 32 (f32_d (f32 k) e) :=
  he.door fun x y => body_ok (keep := kp) (ann := f32_ann) (lrc := f32_lrc (R := R) (f45 (R := R)) (f46 (R := R)) k) (N := 36) (n0 := 0) (c := [(.tmp 4, .own 1099511627776 (.int .u8))]) cxOk mixed (f32_o_ok k) (body := f32_b) (by kernel_rfl : Try.prog.funcs[32]? = some Try.f32) (by kernel_rfl) (by kernel_rfl) (by kernel_rfl) (by kernel_rfl) (of_decide_eq_true (by kernel_rfl)) (L := [f32_l5_b]) (by kernel_rfl) ⟨(f32_l5_d_ok k).use (by kernel_rfl), trivial⟩ ((LrcNat.add (f32_l5_d_ok k).2 LrcNat.no)) (fun K => f32_e (f45 (R := R)) (f46 (R := R)) k x y K)

/-! ## 62: diorama/bits.half -/
noncomputable def f62_s {R : Type} (_k : Nat) (a0 : Int) (K : Int → Option R) : Option R :=
  bif decide ((IntKind.i64.wrap ((IntKind.i64.wrap (7 * a0)) - 1)) < 0) then
    none
  else
    K (IntKind.i64.wrap ((shlI .i64 1 (IntKind.i64.wrap ((IntKind.i64.wrap (7 * a0)) - 1))) - 1))
noncomputable def f62 {R : Type} (k : Nat) (a0 : Int) (K : Int → Option R) : Option R := f62_s k a0 K
noncomputable def f62_o {R : Type} (_k : Nat) : Orc D R := noOrc
theorem f62_o_ok {R : Type} (k : Nat) : OrcOk Try.prog cx (f62_o (R := R) k) := OrcOk.no
noncomputable def f62_b : Code := bodyOf Try.f62
noncomputable def f62_ann : Nat → Option LAnn := fun _key => none
noncomputable def f62_lrc {R : Type} (_k : Nat) : Lrc D R := noLrc
noncomputable def f62_d {R : Type} (g : Int → (Int → Option R) → Option R) (e : Dr D R) : Dr D R := door [.int .i64] [] (fun (x : (Int × Unit)) (_y : (Unit)) K => g x.1 (fun z0 => K ⟨.int .i64 z0, []⟩)) e
theorem f62_e {R : Type} (k : Nat) (x : (Int × Unit)) (y : (Unit)) (K : RV D → Option R) : f62_s k x.1 (fun z0 => K ⟨.int .i64 z0, []⟩) = exec cx (f62_o k) (f62_lrc k) f62_ann kp 8 0 f62_b (entry (gives (D := D) [.int .i64] x) (giveOs (D := D) [] y)) (fin cx Try.f62.results.toList [] 0 K) := by kernel_rfl
theorem f62_ok {R : Type} (k : Nat) {e : Dr D R} (he : FnOk Try.prog cx 62 e) : FnOk Try.prog cx 62 (f62_d (f62 k) e) :=
  he.door fun x y => body_ok (keep := kp) (ann := f62_ann) (lrc := f62_lrc (R := R) k) (N := 8) (n0 := 0) (c := []) cxOk mixed (f62_o_ok k) (body := f62_b) (by kernel_rfl : Try.prog.funcs[62]? = some Try.f62) (by kernel_rfl) (by kernel_rfl) (by kernel_rfl) (by kernel_rfl) (of_decide_eq_true (by kernel_rfl)) (L := []) (by kernel_rfl) trivial (LrcNat.no) (fun K => f62_e k x y K)

/-! ## 47: diorama/bits.PutSigned -/
noncomputable def f47_l7 {R : Type} (g_f46 : Nat → Int → Int → (List Int → Option R) → Option R) (g_f62 : Nat → Int → (Int → Option R) → Option R) : Nat → Int → Int → Int → Option R → (Int → List Int → Option R) → Option R
  | 0, _, _, _, _, _ => none
  | k + 1, v1, v2, v3, X0, X1 =>
    bif decide (v3 ≤ v2) then
      g_f62 k v3 (fun v4 =>
        bif decide (v1 ≥ (IntKind.i64.wrap (0 - v4))) then
          g_f62 k v3 (fun v5 =>
            bif decide (v1 ≤ v5) then
              g_f62 k v3 (fun v6 =>
                g_f46 k (IntKind.u64.wrap ((IntKind.i64.wrap (v1 + v6)))) v3 (fun v7 =>
                  X1 0 v7))
            else
              f47_l7 g_f46 g_f62 k v1 v2 (IntKind.i64.wrap (v3 + 1)) X0 X1)
        else
          f47_l7 g_f46 g_f62 k v1 v2 (IntKind.i64.wrap (v3 + 1)) X0 X1)
    else
      X0
noncomputable def f47_s {R : Type} (g_f46 : Nat → Int → Int → (List Int → Option R) → Option R) (g_f62 : Nat → Int → (Int → Option R) → Option R) (k : Nat) (a0 : Int) (a1 : Int) (K : Int → List Int → Option R) : Option R :=
  bif decide (a1 < 0) then
    K 1 ([] : List Int)
  else
    bif decide (a1 > 8) then
      K 1 ([] : List Int)
    else
      bif (a1 == 0) then
        f47_l7 g_f46 g_f62 k a0 8 1 (
          K 1 ([] : List Int)) (fun v8 v9 =>
          K v8 v9)
      else
        f47_l7 g_f46 g_f62 k a0 a1 a1 (
          K 1 ([] : List Int)) (fun v10 v11 =>
          K v10 v11)
noncomputable def f47 {R : Type} (k : Nat) (a0 : Int) (a1 : Int) (K : Int → List Int → Option R) : Option R := f47_s (f46 (R := R)) (f62 (R := R)) k a0 a1 K
noncomputable def f47_o {R : Type} (g_f46 : Nat → Int → Int → (List Int → Option R) → Option R) (g_f62 : Nat → Int → (Int → Option R) → Option R) (k : Nat) : Orc D R := (orcAdd 62 (f62_d (g_f62 k) noDr) (orcAdd 46 (f46_d (g_f46 k) noDr) noOrc))
theorem f47_o_ok {R : Type} (k : Nat) : OrcOk Try.prog cx (f47_o (R := R) (f46 (R := R)) (f62 (R := R)) k) := (OrcOk.add (f62_ok k FnOk.no) (OrcOk.add (f46_ok k FnOk.no) OrcOk.no))
noncomputable def f47_b : Code := bodyOf Try.f47
noncomputable def f47_l7_a : LAnn := ⟨⟨[], [0, 7, 8], []⟩, exOf (some ⟨[], [4, 5], [721584]⟩) [(0, ⟨[], [], []⟩)]⟩
noncomputable def f47_ann : Nat → Option LAnn := fun key => bif Nat.beq key 7 then some f47_l7_a else none
noncomputable def f47_l7_b : Code := loopAt f47_b 0
noncomputable def f47_l7_g {R : Type} (g_f46 : Nat → Int → Int → (List Int → Option R) → Option R) (g_f62 : Nat → Int → (Int → Option R) → Option R) (k : Nat) (x : (Int × Int × Int × Unit)) (_y : (Unit)) (K : Ex → List (PV D) → List (Option (Am.Obj D)) → Option R) : Option R := f47_l7 g_f46 g_f62 k x.1 x.2.1 x.2.2.1 (K (.exit 0) [] []) (fun z0 z1 => K (.ret) [.own 721584, .int .i64 z0] [some (.row (.int .u8) z1 true)])
noncomputable def f47_l7_d {R : Type} (g_f46 : Nat → Int → Int → (List Int → Option R) → Option R) (g_f62 : Nat → Int → (Int → Option R) → Option R) (k : Nat) : Lr D R := ldoor [.int .i64, .int .i64, .int .i64] [] (f47_l7_g g_f46 g_f62 k)
noncomputable def f47_l7_lrc {R : Type} (_g_f46 : Nat → Int → Int → (List Int → Option R) → Option R) (_g_f62 : Nat → Int → (Int → Option R) → Option R) (_k : Nat) : Lrc D R := noLrc
theorem f47_l7_e {R : Type} (g_f46 : Nat → Int → Int → (List Int → Option R) → Option R) (g_f62 : Nat → Int → (Int → Option R) → Option R) (k : Nat) (x : (Int × Int × Int × Unit)) (y : (Unit)) (K : Ex → List (PV D) → List (Option (Am.Obj D)) → Option R) : f47_l7_g g_f46 g_f62 (k + 1) x y K = round cx (f47_o g_f46 g_f62 k) (f47_l7_lrc g_f46 g_f62 k) f47_ann kp 43 0 f47_l7_a f47_l7_b (gives (D := D) [.int .i64, .int .i64, .int .i64] x) (giveGs (D := D) [] y) (fun vs os => f47_l7_d g_f46 g_f62 k vs os K) K := by kernel_rfl
theorem f47_l7_d_ok {R : Type} : ∀ k, LoopOk Try.prog cx 43 0 f47_ann (f47_l7_d (R := R) (f46 (R := R)) (f62 (R := R)) k) f47_l7_b :=
  loop_ok (keep := kp) (lrc := f47_l7_lrc (R := R) (f46 (R := R)) (f62 (R := R))) cxOk mixed f47_o_ok (show f47_ann (Am.keyOf f47_l7_b) = some f47_l7_a by kernel_rfl) (L := []) (by kernel_rfl) (fun k => trivial) (fun k => LrcNat.no) (fun x y K => by kernel_rfl) (f47_l7_e (f46 (R := R)) (f62 (R := R)))
noncomputable def f47_lrc {R : Type} (g_f46 : Nat → Int → Int → (List Int → Option R) → Option R) (g_f62 : Nat → Int → (Int → Option R) → Option R) (k : Nat) : Lrc D R := (lrcAdd 7 (f47_l7_d g_f46 g_f62 k) noLrc)
noncomputable def f47_d {R : Type} (g : Int → Int → (Int → List Int → Option R) → Option R) (e : Dr D R) : Dr D R := door [.int .i64, .int .i64] [] (fun (x : (Int × Int × Unit)) (_y : (Unit)) K => g x.1 x.2.1 (fun z0 z1 => K ⟨.tup [.own 0, .int .i64 z0], [some (.row (.int .u8) z1 true)]⟩)) e
theorem f47_e {R : Type} (g_f46 : Nat → Int → Int → (List Int → Option R) → Option R) (g_f62 : Nat → Int → (Int → Option R) → Option R) (k : Nat) (x : (Int × Int × Unit)) (y : (Unit)) (K : RV D → Option R) : f47_s g_f46 g_f62 k x.1 x.2.1 (fun z0 z1 => K ⟨.tup [.own 0, .int .i64 z0], [some (.row (.int .u8) z1 true)]⟩) = exec cx (f47_o g_f46 g_f62 k) (f47_lrc g_f46 g_f62 k) f47_ann kp 43 0 f47_b (entry (gives (D := D) [.int .i64, .int .i64] x) (giveOs (D := D) [] y)) (fin cx Try.f47.results.toList [(.tmp 4, .own 1099511627776 (.int .u8))] 0 K) := by kernel_rfl
theorem f47_ok {R : Type} (k : Nat) {e : Dr D R} (he : FnOk Try.prog cx 47 e) : FnOk Try.prog cx 47 (f47_d (f47 k) e) :=
  he.door fun x y => body_ok (keep := kp) (ann := f47_ann) (lrc := f47_lrc (R := R) (f46 (R := R)) (f62 (R := R)) k) (N := 43) (n0 := 0) (c := [(.tmp 4, .own 1099511627776 (.int .u8))]) cxOk mixed (f47_o_ok k) (body := f47_b) (by kernel_rfl : Try.prog.funcs[47]? = some Try.f47) (by kernel_rfl) (by kernel_rfl) (by kernel_rfl) (by kernel_rfl) (of_decide_eq_true (by kernel_rfl)) (L := [f47_l7_b]) (by kernel_rfl) ⟨(f47_l7_d_ok k).use (by kernel_rfl), trivial⟩ ((LrcNat.add (f47_l7_d_ok k).2 LrcNat.no)) (fun K => f47_e (f46 (R := R)) (f62 (R := R)) k x y K)

/-! ## 33: diorama/lace.sizes -/
noncomputable def f33_l8 {R : Type} (g_f32 : Nat → Int → Int → (Int → List Int → Option R) → Option R) (g_f47 : Nat → Int → Int → (Int → List Int → Option R) → Option R) : Nat → Int → List (List Int) → Int → List (List Int) → Int → Int → List Int → (Int → List (List Int) → Int → List (List Int) → Int → Int → List Int → Option R) → Option R
  | 0, _, _, _, _, _, _, _, _ => none
  | k + 1, v7, v8, v9, v10, v11, v12, v13, X0 =>
    bif decide (v9 ≥ 255) then
      bif room 1 (v13.length + ([255]).length) then
        f33_l8 g_f32 g_f47 k v7 v8 (IntKind.i64.wrap (v9 - 255)) v10 v11 v12 (v13 ++ ([255])) X0
      else
        none
    else
      X0 v7 v8 v9 v10 v11 v12 v13
noncomputable def f33_l3 {R : Type} (g_f32 : Nat → Int → Int → (Int → List Int → Option R) → Option R) (g_f47 : Nat → Int → Int → (Int → List Int → Option R) → Option R) : Nat → Int → List (List Int) → List (List Int) → Int → Int → List Int → (List Int → Option R) → Option R
  | 0, _, _, _, _, _, _, _ => none
  | k + 1, v1, v2, v3, v4, v5, v6, X0 =>
    bif decide (v5 < v4) then
      bif inb v5 v3.length then
        bif (v1 == 1) then
          f33_l8 g_f32 g_f47 k v1 v2 ((v3.getD v5.toNat []).length : Int) v3 v4 v5 v6 (fun v14 v15 v16 v17 v18 v19 v20 =>
            bif room 1 (v20.length + ([(IntKind.u8.wrap (v16))]).length) then
              f33_l3 g_f32 g_f47 k v14 v15 v17 v18 (IntKind.i64.wrap (v19 + 1)) (v20 ++ ([(IntKind.u8.wrap (v16))])) X0
            else
              none)
        else
          bif (v1 == 3) then
            bif (v5 == 0) then
              g_f32 k ((v3.getD v5.toNat []).length : Int) 0 (fun _v21 v22 =>
                bif room 1 (v6.length + v22.length) then
                  f33_l3 g_f32 g_f47 k v1 v2 v3 v4 (IntKind.i64.wrap (v5 + 1)) (v6 ++ v22) X0
                else
                  none)
            else
              bif inb (IntKind.i64.wrap (v5 - 1)) v2.length then
                g_f47 k (IntKind.i64.wrap (((v3.getD v5.toNat []).length : Int) - ((v2.getD ((IntKind.i64.wrap (v5 - 1)).toNat) []).length : Int))) 0 (fun _v23 v24 =>
                  bif room 1 (v6.length + v24.length) then
                    f33_l3 g_f32 g_f47 k v1 v2 v3 v4 (IntKind.i64.wrap (v5 + 1)) (v6 ++ v24) X0
                  else
                    none)
              else
                none
          else
            f33_l3 g_f32 g_f47 k v1 v2 v3 v4 (IntKind.i64.wrap (v5 + 1)) v6 X0
      else
        none
    else
      X0 v6
noncomputable def f33_s {R : Type} (g_f32 : Nat → Int → Int → (Int → List Int → Option R) → Option R) (g_f47 : Nat → Int → Int → (Int → List Int → Option R) → Option R) (k : Nat) (a0 : Int) (a1 : List (List Int)) (K : List Int → Option R) : Option R :=
  bif upto (IntKind.i64.wrap ((a1.length : Int) - 1)) a1.length then
    f33_l3 g_f32 g_f47 k a0 a1 (a1.take ((IntKind.i64.wrap ((a1.length : Int) - 1)).toNat)) ((a1.take ((IntKind.i64.wrap ((a1.length : Int) - 1)).toNat)).length : Int) 0 ([] : List Int) (fun v25 =>
      K v25)
  else
    none
noncomputable def f33 {R : Type} (k : Nat) (a0 : Int) (a1 : List (List Int)) (K : List Int → Option R) : Option R := f33_s (f32 (R := R)) (f47 (R := R)) k a0 a1 K
noncomputable def f33_o {R : Type} (g_f32 : Nat → Int → Int → (Int → List Int → Option R) → Option R) (g_f47 : Nat → Int → Int → (Int → List Int → Option R) → Option R) (k : Nat) : Orc D R := (orcAdd 47 (f47_d (g_f47 k) noDr) (orcAdd 32 (f32_d (g_f32 k) noDr) noOrc))
theorem f33_o_ok {R : Type} (k : Nat) : OrcOk Try.prog cx (f33_o (R := R) (f32 (R := R)) (f47 (R := R)) k) := (OrcOk.add (f47_ok k FnOk.no) (OrcOk.add (f32_ok k FnOk.no) OrcOk.no))
noncomputable def f33_b : Code := bodyOf Try.f33
noncomputable def f33_l3_a : LAnn := ⟨⟨[(.tmp 5, .own 68719489024 (.int .u8))], [0, 1, 5, 14, 15, 16], [68719489024]⟩, exOf (none) [(0, ⟨[], [5], [68719489024]⟩)]⟩
noncomputable def f33_l8_a : LAnn := ⟨⟨[(.tmp 5, .own 68719509504 (.int .u8))], [0, 1, 5, 8, 14, 15, 16], [68719509504]⟩, exOf (none) [(3, ⟨[], [0, 1, 5, 8, 14, 15, 16], [68719509504]⟩)]⟩
noncomputable def f33_ann : Nat → Option LAnn := fun key => bif Nat.beq key 8 then some f33_l8_a else bif Nat.beq key 3 then some f33_l3_a else none
noncomputable def f33_l8_b : Code := loopAt f33_b 1
noncomputable def f33_l8_g {R : Type} (g_f32 : Nat → Int → Int → (Int → List Int → Option R) → Option R) (g_f47 : Nat → Int → Int → (Int → List Int → Option R) → Option R) (k : Nat) (x : (Int × List (List Int) × Unit × Int × List (List Int) × Int × Int × Unit)) (y : (List Int × Unit)) (K : Ex → List (PV D) → List (Option (Am.Obj D)) → Option R) : Option R := f33_l8 g_f32 g_f47 k x.1 x.2.1 x.2.2.2.1 x.2.2.2.2.1 x.2.2.2.2.2.1 x.2.2.2.2.2.2.1 y.1 (fun z0 z1 z2 z3 z4 z5 z6 => K (.exit 3) [.int .i64 z0, .list (.slice (.int .u8)) z1, .own 68719509504, .int .i64 z2, .list (.slice (.int .u8)) z3, .int .i64 z4, .int .i64 z5] [some (.row (.int .u8) z6 true)])
noncomputable def f33_l8_d {R : Type} (g_f32 : Nat → Int → Int → (Int → List Int → Option R) → Option R) (g_f47 : Nat → Int → Int → (Int → List Int → Option R) → Option R) (k : Nat) : Lr D R := ldoor [.int .i64, .list (.slice (.int .u8)), .own 68719509504, .int .i64, .list (.slice (.int .u8)), .int .i64, .int .i64] [some (.row (.int .u8) true)] (f33_l8_g g_f32 g_f47 k)
noncomputable def f33_l8_lrc {R : Type} (_g_f32 : Nat → Int → Int → (Int → List Int → Option R) → Option R) (_g_f47 : Nat → Int → Int → (Int → List Int → Option R) → Option R) (_k : Nat) : Lrc D R := noLrc
theorem f33_l8_e {R : Type} (g_f32 : Nat → Int → Int → (Int → List Int → Option R) → Option R) (g_f47 : Nat → Int → Int → (Int → List Int → Option R) → Option R) (k : Nat) (x : (Int × List (List Int) × Unit × Int × List (List Int) × Int × Int × Unit)) (y : (List Int × Unit)) (K : Ex → List (PV D) → List (Option (Am.Obj D)) → Option R) : f33_l8_g g_f32 g_f47 (k + 1) x y K = round cx (f33_o g_f32 g_f47 k) (f33_l8_lrc g_f32 g_f47 k) f33_ann kp 64 0 f33_l8_a f33_l8_b (gives (D := D) [.int .i64, .list (.slice (.int .u8)), .own 68719509504, .int .i64, .list (.slice (.int .u8)), .int .i64, .int .i64] x) (giveGs (D := D) [some (.row (.int .u8) true)] y) (fun vs os => f33_l8_d g_f32 g_f47 k vs os K) K := by kernel_rfl
theorem f33_l8_d_ok {R : Type} : ∀ k, LoopOk Try.prog cx 64 0 f33_ann (f33_l8_d (R := R) (f32 (R := R)) (f47 (R := R)) k) f33_l8_b :=
  loop_ok (keep := kp) (lrc := f33_l8_lrc (R := R) (f32 (R := R)) (f47 (R := R))) cxOk mixed f33_o_ok (show f33_ann (Am.keyOf f33_l8_b) = some f33_l8_a by kernel_rfl) (L := []) (by kernel_rfl) (fun k => trivial) (fun k => LrcNat.no) (fun x y K => by kernel_rfl) (f33_l8_e (f32 (R := R)) (f47 (R := R)))
noncomputable def f33_l3_b : Code := loopAt f33_b 0
noncomputable def f33_l3_g {R : Type} (g_f32 : Nat → Int → Int → (Int → List Int → Option R) → Option R) (g_f47 : Nat → Int → Int → (Int → List Int → Option R) → Option R) (k : Nat) (x : (Int × List (List Int) × Unit × List (List Int) × Int × Int × Unit)) (y : (List Int × Unit)) (K : Ex → List (PV D) → List (Option (Am.Obj D)) → Option R) : Option R := f33_l3 g_f32 g_f47 k x.1 x.2.1 x.2.2.2.1 x.2.2.2.2.1 x.2.2.2.2.2.1 y.1 (fun z0 => K (.exit 0) [.own 68719489024] [some (.row (.int .u8) z0 true)])
noncomputable def f33_l3_d {R : Type} (g_f32 : Nat → Int → Int → (Int → List Int → Option R) → Option R) (g_f47 : Nat → Int → Int → (Int → List Int → Option R) → Option R) (k : Nat) : Lr D R := ldoor [.int .i64, .list (.slice (.int .u8)), .own 68719489024, .list (.slice (.int .u8)), .int .i64, .int .i64] [some (.row (.int .u8) true)] (f33_l3_g g_f32 g_f47 k)
noncomputable def f33_l3_lrc {R : Type} (g_f32 : Nat → Int → Int → (Int → List Int → Option R) → Option R) (g_f47 : Nat → Int → Int → (Int → List Int → Option R) → Option R) (k : Nat) : Lrc D R := (lrcAdd 8 (f33_l8_d g_f32 g_f47 k) noLrc)
theorem f33_l3_e {R : Type} (g_f32 : Nat → Int → Int → (Int → List Int → Option R) → Option R) (g_f47 : Nat → Int → Int → (Int → List Int → Option R) → Option R) (k : Nat) (x : (Int × List (List Int) × Unit × List (List Int) × Int × Int × Unit)) (y : (List Int × Unit)) (K : Ex → List (PV D) → List (Option (Am.Obj D)) → Option R) : f33_l3_g g_f32 g_f47 (k + 1) x y K = round cx (f33_o g_f32 g_f47 k) (f33_l3_lrc g_f32 g_f47 k) f33_ann kp 64 0 f33_l3_a f33_l3_b (gives (D := D) [.int .i64, .list (.slice (.int .u8)), .own 68719489024, .list (.slice (.int .u8)), .int .i64, .int .i64] x) (giveGs (D := D) [some (.row (.int .u8) true)] y) (fun vs os => f33_l3_d g_f32 g_f47 k vs os K) K := by kernel_rfl
theorem f33_l3_d_ok {R : Type} : ∀ k, LoopOk Try.prog cx 64 0 f33_ann (f33_l3_d (R := R) (f32 (R := R)) (f47 (R := R)) k) f33_l3_b :=
  loop_ok (keep := kp) (lrc := f33_l3_lrc (R := R) (f32 (R := R)) (f47 (R := R))) cxOk mixed f33_o_ok (show f33_ann (Am.keyOf f33_l3_b) = some f33_l3_a by kernel_rfl) (L := [f33_l8_b]) (by kernel_rfl) (fun k => ⟨(f33_l8_d_ok k).use (by kernel_rfl), trivial⟩) (fun k => (LrcNat.add (f33_l8_d_ok k).2 LrcNat.no)) (fun x y K => by kernel_rfl) (f33_l3_e (f32 (R := R)) (f47 (R := R)))
noncomputable def f33_lrc {R : Type} (g_f32 : Nat → Int → Int → (Int → List Int → Option R) → Option R) (g_f47 : Nat → Int → Int → (Int → List Int → Option R) → Option R) (k : Nat) : Lrc D R := (lrcAdd 8 (f33_l8_d g_f32 g_f47 k) (lrcAdd 3 (f33_l3_d g_f32 g_f47 k) noLrc))
noncomputable def f33_d {R : Type} (g : Int → List (List Int) → (List Int → Option R) → Option R) (e : Dr D R) : Dr D R := door [.int .i64, .list (.slice (.int .u8))] [] (fun (x : (Int × List (List Int) × Unit)) (_y : (Unit)) K => g x.1 x.2.1 (fun z0 => K ⟨.own 0, [some (.row (.int .u8) z0 true)]⟩)) e
theorem f33_e {R : Type} (g_f32 : Nat → Int → Int → (Int → List Int → Option R) → Option R) (g_f47 : Nat → Int → Int → (Int → List Int → Option R) → Option R) (k : Nat) (x : (Int × List (List Int) × Unit)) (y : (Unit)) (K : RV D → Option R) : f33_s g_f32 g_f47 k x.1 x.2.1 (fun z0 => K ⟨.own 0, [some (.row (.int .u8) z0 true)]⟩) = exec cx (f33_o g_f32 g_f47 k) (f33_lrc g_f32 g_f47 k) f33_ann kp 64 0 f33_b (entry (gives (D := D) [.int .i64, .list (.slice (.int .u8))] x) (giveOs (D := D) [] y)) (fin cx Try.f33.results.toList [] 0 K) := by kernel_rfl
theorem f33_ok {R : Type} (k : Nat) {e : Dr D R} (he : FnOk Try.prog cx 33 e) : FnOk Try.prog cx 33 (f33_d (f33 k) e) :=
  he.door fun x y => body_ok (keep := kp) (ann := f33_ann) (lrc := f33_lrc (R := R) (f32 (R := R)) (f47 (R := R)) k) (N := 64) (n0 := 0) (c := []) cxOk mixed (f33_o_ok k) (body := f33_b) (by kernel_rfl : Try.prog.funcs[33]? = some Try.f33) (by kernel_rfl) (by kernel_rfl) (by kernel_rfl) (by kernel_rfl) (of_decide_eq_true (by kernel_rfl)) (L := [f33_l3_b, f33_l8_b]) (by kernel_rfl) ⟨(f33_l3_d_ok k).use (by kernel_rfl), (f33_l8_d_ok k).use (by kernel_rfl), trivial⟩ ((LrcNat.add (f33_l8_d_ok k).2 (LrcNat.add (f33_l3_d_ok k).2 LrcNat.no))) (fun K => f33_e (f32 (R := R)) (f47 (R := R)) k x y K)

/-! ## 10: diorama/lace.Write -/
noncomputable def f10_l13 {R : Type} (g_f12 : Nat → Int → Int → Bool → Int → List (List Int) → (Int → Option R) → Option R) (g_f32 : Nat → Int → Int → (Int → List Int → Option R) → Option R) (g_f33 : Nat → Int → List (List Int) → (List Int → Option R) → Option R) : Nat → List (List Int) → Int → Int → List Int → (List Int → Option R) → Option R
  | 0, _, _, _, _, _ => none
  | k + 1, v5, v6, v7, v8, X0 =>
    bif decide (v7 < v6) then
      bif inb v7 v5.length then
        bif room 1 (v8.length + (v5.getD v7.toNat []).length) then
          f10_l13 g_f12 g_f32 g_f33 k v5 v6 (IntKind.i64.wrap (v7 + 1)) (v8 ++ (v5.getD v7.toNat [])) X0
        else
          none
      else
        none
    else
      X0 v8
noncomputable def f10_s {R : Type} (g_f12 : Nat → Int → Int → Bool → Int → List (List Int) → (Int → Option R) → Option R) (g_f32 : Nat → Int → Int → (Int → List Int → Option R) → Option R) (g_f33 : Nat → Int → List (List Int) → (List Int → Option R) → Option R) (k : Nat) (a0 : Int) (a1 : Int) (a2 : Bool) (a3 : Int) (a4 : List (List Int)) (K : Int → List Int → Option R) : Option R :=
  g_f12 k a0 a1 a2 a3 a4 (fun v1 =>
    bif (v1 != 0) then
      K v1 ([] : List Int)
    else
      g_f32 k a0 0 (fun _v2 v3 =>
        bif a2 then
          bif room 1 (v3.length + ([(IntKind.u8.wrap ((shrI .i64 a1 8))), (IntKind.u8.wrap (a1)), (orI .u8 (IntKind.u8.wrap ((shlI .i64 a3 1))) 128)]).length) then
            bif (a3 != 0) then
              bif room 1 ((v3 ++ ([(IntKind.u8.wrap ((shrI .i64 a1 8))), (IntKind.u8.wrap (a1)), (orI .u8 (IntKind.u8.wrap ((shlI .i64 a3 1))) 128)])).length + ([(IntKind.u8.wrap ((IntKind.i64.wrap ((a4.length : Int) - 1))))]).length) then
                g_f33 k a3 a4 (fun v4 =>
                  bif room 1 (((v3 ++ ([(IntKind.u8.wrap ((shrI .i64 a1 8))), (IntKind.u8.wrap (a1)), (orI .u8 (IntKind.u8.wrap ((shlI .i64 a3 1))) 128)])) ++ ([(IntKind.u8.wrap ((IntKind.i64.wrap ((a4.length : Int) - 1))))])).length + v4.length) then
                    f10_l13 g_f12 g_f32 g_f33 k a4 (a4.length : Int) 0 (((v3 ++ ([(IntKind.u8.wrap ((shrI .i64 a1 8))), (IntKind.u8.wrap (a1)), (orI .u8 (IntKind.u8.wrap ((shlI .i64 a3 1))) 128)])) ++ ([(IntKind.u8.wrap ((IntKind.i64.wrap ((a4.length : Int) - 1))))])) ++ v4) (fun v9 =>
                      K 0 v9)
                  else
                    none)
              else
                none
            else
              f10_l13 g_f12 g_f32 g_f33 k a4 (a4.length : Int) 0 (v3 ++ ([(IntKind.u8.wrap ((shrI .i64 a1 8))), (IntKind.u8.wrap (a1)), (orI .u8 (IntKind.u8.wrap ((shlI .i64 a3 1))) 128)])) (fun v10 =>
                K 0 v10)
          else
            none
        else
          bif room 1 (v3.length + ([(IntKind.u8.wrap ((shrI .i64 a1 8))), (IntKind.u8.wrap (a1)), (IntKind.u8.wrap ((shlI .i64 a3 1)))]).length) then
            bif (a3 != 0) then
              bif room 1 ((v3 ++ ([(IntKind.u8.wrap ((shrI .i64 a1 8))), (IntKind.u8.wrap (a1)), (IntKind.u8.wrap ((shlI .i64 a3 1)))])).length + ([(IntKind.u8.wrap ((IntKind.i64.wrap ((a4.length : Int) - 1))))]).length) then
                g_f33 k a3 a4 (fun v11 =>
                  bif room 1 (((v3 ++ ([(IntKind.u8.wrap ((shrI .i64 a1 8))), (IntKind.u8.wrap (a1)), (IntKind.u8.wrap ((shlI .i64 a3 1)))])) ++ ([(IntKind.u8.wrap ((IntKind.i64.wrap ((a4.length : Int) - 1))))])).length + v11.length) then
                    f10_l13 g_f12 g_f32 g_f33 k a4 (a4.length : Int) 0 (((v3 ++ ([(IntKind.u8.wrap ((shrI .i64 a1 8))), (IntKind.u8.wrap (a1)), (IntKind.u8.wrap ((shlI .i64 a3 1)))])) ++ ([(IntKind.u8.wrap ((IntKind.i64.wrap ((a4.length : Int) - 1))))])) ++ v11) (fun v12 =>
                      K 0 v12)
                  else
                    none)
              else
                none
            else
              f10_l13 g_f12 g_f32 g_f33 k a4 (a4.length : Int) 0 (v3 ++ ([(IntKind.u8.wrap ((shrI .i64 a1 8))), (IntKind.u8.wrap (a1)), (IntKind.u8.wrap ((shlI .i64 a3 1)))])) (fun v13 =>
                K 0 v13)
          else
            none))
noncomputable def f10 {R : Type} (k : Nat) (a0 : Int) (a1 : Int) (a2 : Bool) (a3 : Int) (a4 : List (List Int)) (K : Int → List Int → Option R) : Option R := f10_s (f12 (R := R)) (f32 (R := R)) (f33 (R := R)) k a0 a1 a2 a3 a4 K
noncomputable def f10_o {R : Type} (g_f12 : Nat → Int → Int → Bool → Int → List (List Int) → (Int → Option R) → Option R) (g_f32 : Nat → Int → Int → (Int → List Int → Option R) → Option R) (g_f33 : Nat → Int → List (List Int) → (List Int → Option R) → Option R) (k : Nat) : Orc D R := (orcAdd 33 (f33_d (g_f33 k) noDr) (orcAdd 32 (f32_d (g_f32 k) noDr) (orcAdd 12 (f12_d (g_f12 k) noDr) noOrc)))
theorem f10_o_ok {R : Type} (k : Nat) : OrcOk Try.prog cx (f10_o (R := R) (f12 (R := R)) (f32 (R := R)) (f33 (R := R)) k) := (OrcOk.add (f33_ok k FnOk.no) (OrcOk.add (f32_ok k FnOk.no) (OrcOk.add (f12_ok k FnOk.no) OrcOk.no)))
noncomputable def f10_b : Code := bodyOf Try.f10
noncomputable def f10_l13_a : LAnn := ⟨⟨[(.tmp 5, .own 68719529984 (.int .u8))], [5, 59, 60, 61], [68719529984]⟩, exOf (none) [(0, ⟨[], [5], [68719529984]⟩)]⟩
noncomputable def f10_ann : Nat → Option LAnn := fun key => bif Nat.beq key 13 then some f10_l13_a else none
noncomputable def f10_l13_b : Code := loopAt f10_b 0
noncomputable def f10_l13_g {R : Type} (g_f12 : Nat → Int → Int → Bool → Int → List (List Int) → (Int → Option R) → Option R) (g_f32 : Nat → Int → Int → (Int → List Int → Option R) → Option R) (g_f33 : Nat → Int → List (List Int) → (List Int → Option R) → Option R) (k : Nat) (x : (Unit × List (List Int) × Int × Int × Unit)) (y : (List Int × Unit)) (K : Ex → List (PV D) → List (Option (Am.Obj D)) → Option R) : Option R := f10_l13 g_f12 g_f32 g_f33 k x.2.1 x.2.2.1 x.2.2.2.1 y.1 (fun z0 => K (.exit 0) [.own 68719529984] [some (.row (.int .u8) z0 true)])
noncomputable def f10_l13_d {R : Type} (g_f12 : Nat → Int → Int → Bool → Int → List (List Int) → (Int → Option R) → Option R) (g_f32 : Nat → Int → Int → (Int → List Int → Option R) → Option R) (g_f33 : Nat → Int → List (List Int) → (List Int → Option R) → Option R) (k : Nat) : Lr D R := ldoor [.own 68719529984, .list (.slice (.int .u8)), .int .i64, .int .i64] [some (.row (.int .u8) true)] (f10_l13_g g_f12 g_f32 g_f33 k)
noncomputable def f10_l13_lrc {R : Type} (_g_f12 : Nat → Int → Int → Bool → Int → List (List Int) → (Int → Option R) → Option R) (_g_f32 : Nat → Int → Int → (Int → List Int → Option R) → Option R) (_g_f33 : Nat → Int → List (List Int) → (List Int → Option R) → Option R) (_k : Nat) : Lrc D R := noLrc
theorem f10_l13_e {R : Type} (g_f12 : Nat → Int → Int → Bool → Int → List (List Int) → (Int → Option R) → Option R) (g_f32 : Nat → Int → Int → (Int → List Int → Option R) → Option R) (g_f33 : Nat → Int → List (List Int) → (List Int → Option R) → Option R) (k : Nat) (x : (Unit × List (List Int) × Int × Int × Unit)) (y : (List Int × Unit)) (K : Ex → List (PV D) → List (Option (Am.Obj D)) → Option R) : f10_l13_g g_f12 g_f32 g_f33 (k + 1) x y K = round cx (f10_o g_f12 g_f32 g_f33 k) (f10_l13_lrc g_f12 g_f32 g_f33 k) f10_ann kp 70 0 f10_l13_a f10_l13_b (gives (D := D) [.own 68719529984, .list (.slice (.int .u8)), .int .i64, .int .i64] x) (giveGs (D := D) [some (.row (.int .u8) true)] y) (fun vs os => f10_l13_d g_f12 g_f32 g_f33 k vs os K) K := by kernel_rfl
theorem f10_l13_d_ok {R : Type} : ∀ k, LoopOk Try.prog cx 70 0 f10_ann (f10_l13_d (R := R) (f12 (R := R)) (f32 (R := R)) (f33 (R := R)) k) f10_l13_b :=
  loop_ok (keep := kp) (lrc := f10_l13_lrc (R := R) (f12 (R := R)) (f32 (R := R)) (f33 (R := R))) cxOk mixed f10_o_ok (show f10_ann (Am.keyOf f10_l13_b) = some f10_l13_a by kernel_rfl) (L := []) (by kernel_rfl) (fun k => trivial) (fun k => LrcNat.no) (fun x y K => by kernel_rfl) (f10_l13_e (f12 (R := R)) (f32 (R := R)) (f33 (R := R)))
noncomputable def f10_lrc {R : Type} (g_f12 : Nat → Int → Int → Bool → Int → List (List Int) → (Int → Option R) → Option R) (g_f32 : Nat → Int → Int → (Int → List Int → Option R) → Option R) (g_f33 : Nat → Int → List (List Int) → (List Int → Option R) → Option R) (k : Nat) : Lrc D R := (lrcAdd 13 (f10_l13_d g_f12 g_f32 g_f33 k) noLrc)
noncomputable def f10_d {R : Type} (g : Int → Int → Bool → Int → List (List Int) → (Int → List Int → Option R) → Option R) (e : Dr D R) : Dr D R := door [.agg [.int .i64, .int .i64, .bool, .int .i64, .list (.slice (.int .u8))]] [] (fun (x : ((Int × Int × Bool × Int × List (List Int) × Unit) × Unit)) (_y : (Unit)) K => g x.1.1 x.1.2.1 x.1.2.2.1 x.1.2.2.2.1 x.1.2.2.2.2.1 (fun z0 z1 => K ⟨.tup [.own 0, .int .i64 z0], [some (.row (.int .u8) z1 true)]⟩)) e
theorem f10_e {R : Type} (g_f12 : Nat → Int → Int → Bool → Int → List (List Int) → (Int → Option R) → Option R) (g_f32 : Nat → Int → Int → (Int → List Int → Option R) → Option R) (g_f33 : Nat → Int → List (List Int) → (List Int → Option R) → Option R) (k : Nat) (x : ((Int × Int × Bool × Int × List (List Int) × Unit) × Unit)) (y : (Unit)) (K : RV D → Option R) : f10_s g_f12 g_f32 g_f33 k x.1.1 x.1.2.1 x.1.2.2.1 x.1.2.2.2.1 x.1.2.2.2.2.1 (fun z0 z1 => K ⟨.tup [.own 0, .int .i64 z0], [some (.row (.int .u8) z1 true)]⟩) = exec cx (f10_o g_f12 g_f32 g_f33 k) (f10_lrc g_f12 g_f32 g_f33 k) f10_ann kp 70 0 f10_b (entry (gives (D := D) [.agg [.int .i64, .int .i64, .bool, .int .i64, .list (.slice (.int .u8))]] x) (giveOs (D := D) [] y)) (fin cx Try.f10.results.toList [(.tmp 2, .own 1099511627776 (.int .u8))] 0 K) := by kernel_rfl
theorem f10_ok {R : Type} (k : Nat) {e : Dr D R} (he : FnOk Try.prog cx 10 e) : FnOk Try.prog cx 10 (f10_d (f10 k) e) :=
  he.door fun x y => body_ok (keep := kp) (ann := f10_ann) (lrc := f10_lrc (R := R) (f12 (R := R)) (f32 (R := R)) (f33 (R := R)) k) (N := 70) (n0 := 0) (c := [(.tmp 2, .own 1099511627776 (.int .u8))]) cxOk mixed (f10_o_ok k) (body := f10_b) (by kernel_rfl : Try.prog.funcs[10]? = some Try.f10) (by kernel_rfl) (by kernel_rfl) (by kernel_rfl) (by kernel_rfl) (of_decide_eq_true (by kernel_rfl)) (L := [f10_l13_b]) (by kernel_rfl) ⟨(f10_l13_d_ok k).use (by kernel_rfl), trivial⟩ ((LrcNat.add (f10_l13_d_ok k).2 LrcNat.no)) (fun K => f10_e (f12 (R := R)) (f32 (R := R)) (f33 (R := R)) k x y K)

/-! ## 37: diorama/dioramaref05.frames -/
noncomputable def f37_l5 {R : Type} : Nat → Int → List (List Int) → Bool → Int → (Int → List (List Int) → Bool → Option R) → (Int → Option R) → Option R
  | 0, _, _, _, _, _, _ => none
  | k + 1, v1, v2, v3, v4, X0, X1 =>
    bif decide (v4 < (v2.length : Int)) then
      bif inb v4 v2.length then
        bif decide (((v2.getD v4.toNat []).length : Int) > 65536) then
          X1 2
        else
          bif v3 then
            bif inb v4 v2.length then
              bif inb 0 v2.length then
                f37_l5 k v1 v2 (((v2.getD v4.toNat []).length : Int) == ((v2.getD 0 []).length : Int)) (IntKind.i64.wrap (v4 + 1)) X0 X1
              else
                none
            else
              none
          else
            f37_l5 k v1 v2 false (IntKind.i64.wrap (v4 + 1)) X0 X1
      else
        none
    else
      X0 v1 v2 v3
noncomputable def f37_s {R : Type} (k : Nat) (a0 : Int) (a1 : List (List Int)) (K : Int → Option R) : Option R :=
  bif decide ((a1.length : Int) < 1) then
    K 2
  else
    bif decide ((a1.length : Int) > 32) then
      K 2
    else
      f37_l5 k a0 a1 true 0 (fun v5 v6 v7 =>
        bif (v5 == 0) then
          bif decide ((v6.length : Int) > 1) then
            K 50
          else
            bif (v5 == 2) then
              bif (!v7) then
                K 50
              else
                K 0
            else
              K 0
        else
          bif (v5 == 2) then
            bif (!v7) then
              K 50
            else
              K 0
          else
            K 0) (fun v8 =>
        K v8)
noncomputable def f37 {R : Type} (k : Nat) (a0 : Int) (a1 : List (List Int)) (K : Int → Option R) : Option R := f37_s k a0 a1 K
noncomputable def f37_o {R : Type} (_k : Nat) : Orc D R := noOrc
theorem f37_o_ok {R : Type} (k : Nat) : OrcOk Try.prog cx (f37_o (R := R) k) := OrcOk.no
noncomputable def f37_b : Code := bodyOf Try.f37
noncomputable def f37_l5_a : LAnn := ⟨⟨[], [0, 1, 5, 6], []⟩, exOf (some ⟨[], [4], []⟩) [(0, ⟨[], [0, 1, 5], []⟩)]⟩
noncomputable def f37_ann : Nat → Option LAnn := fun key => bif Nat.beq key 5 then some f37_l5_a else none
noncomputable def f37_l5_b : Code := loopAt f37_b 0
noncomputable def f37_l5_g {R : Type} (k : Nat) (x : (Int × List (List Int) × Bool × Int × Unit)) (_y : (Unit)) (K : Ex → List (PV D) → List (Option (Am.Obj D)) → Option R) : Option R := f37_l5 k x.1 x.2.1 x.2.2.1 x.2.2.2.1 (fun z0 z1 z2 => K (.exit 0) [.int .i64 z0, .list (.slice (.int .u8)) z1, .bool z2] []) (fun z0 => K (.ret) [.int .i64 z0] [])
noncomputable def f37_l5_d {R : Type} (k : Nat) : Lr D R := ldoor [.int .i64, .list (.slice (.int .u8)), .bool, .int .i64] [] (f37_l5_g k)
noncomputable def f37_l5_lrc {R : Type} (_k : Nat) : Lrc D R := noLrc
theorem f37_l5_e {R : Type} (k : Nat) (x : (Int × List (List Int) × Bool × Int × Unit)) (y : (Unit)) (K : Ex → List (PV D) → List (Option (Am.Obj D)) → Option R) : f37_l5_g (k + 1) x y K = round cx (f37_o k) (f37_l5_lrc k) f37_ann kp 55 0 f37_l5_a f37_l5_b (gives (D := D) [.int .i64, .list (.slice (.int .u8)), .bool, .int .i64] x) (giveGs (D := D) [] y) (fun vs os => f37_l5_d k vs os K) K := by kernel_rfl
theorem f37_l5_d_ok {R : Type} : ∀ k, LoopOk Try.prog cx 55 0 f37_ann (f37_l5_d (R := R) k) f37_l5_b :=
  loop_ok (keep := kp) (lrc := f37_l5_lrc (R := R)) cxOk mixed f37_o_ok (show f37_ann (Am.keyOf f37_l5_b) = some f37_l5_a by kernel_rfl) (L := []) (by kernel_rfl) (fun k => trivial) (fun k => LrcNat.no) (fun x y K => by kernel_rfl) (f37_l5_e)
noncomputable def f37_lrc {R : Type} (k : Nat) : Lrc D R := (lrcAdd 5 (f37_l5_d k) noLrc)
noncomputable def f37_d {R : Type} (g : Int → List (List Int) → (Int → Option R) → Option R) (e : Dr D R) : Dr D R := door [.int .i64, .list (.slice (.int .u8))] [] (fun (x : (Int × List (List Int) × Unit)) (_y : (Unit)) K => g x.1 x.2.1 (fun z0 => K ⟨.int .i64 z0, []⟩)) e
theorem f37_e {R : Type} (k : Nat) (x : (Int × List (List Int) × Unit)) (y : (Unit)) (K : RV D → Option R) : f37_s k x.1 x.2.1 (fun z0 => K ⟨.int .i64 z0, []⟩) = exec cx (f37_o k) (f37_lrc k) f37_ann kp 55 0 f37_b (entry (gives (D := D) [.int .i64, .list (.slice (.int .u8))] x) (giveOs (D := D) [] y)) (fin cx Try.f37.results.toList [] 0 K) := by kernel_rfl
theorem f37_ok {R : Type} (k : Nat) {e : Dr D R} (he : FnOk Try.prog cx 37 e) : FnOk Try.prog cx 37 (f37_d (f37 k) e) :=
  he.door fun x y => body_ok (keep := kp) (ann := f37_ann) (lrc := f37_lrc (R := R) k) (N := 55) (n0 := 0) (c := []) cxOk mixed (f37_o_ok k) (body := f37_b) (by kernel_rfl : Try.prog.funcs[37]? = some Try.f37) (by kernel_rfl) (by kernel_rfl) (by kernel_rfl) (by kernel_rfl) (of_decide_eq_true (by kernel_rfl)) (L := [f37_l5_b]) (by kernel_rfl) ⟨(f37_l5_d_ok k).use (by kernel_rfl), trivial⟩ ((LrcNat.add (f37_l5_d_ok k).2 LrcNat.no)) (fun K => f37_e k x y K)


end Go.Proofs.Ytnmoccdnkpkhhaa

/-! What the functions do, as plain functions; and that they do. -/
namespace Go.Proofs.Ytnmoccdnkpkhhaa
open Go Go.Am
/-! ## 13: diorama/dioramaref05.Check -/
noncomputable def f13_s {R : Type} (g_f37 : Nat → Int → List (List Int) → (Int → Option R) → Option R) (k : Nat) (a0 : Int) (a1 : Int) (_a2 : Bool) (a3 : Int) (a4 : List (List Int)) (K : Int → Option R) : Option R :=
  bif decide (a0 < 1) then
    K 1
  else
    bif decide (a0 > 1000) then
      K 1
    else
      bif decide (a1 < (-32768)) then
        K 1
      else
        bif decide (a1 > 32767) then
          K 1
        else
          bif decide (a3 < 0) then
            K 1
          else
            bif decide (a3 > 3) then
              K 1
            else
              g_f37 k a3 a4 (fun v1 =>
                K v1)
noncomputable def f13 {R : Type} (k : Nat) (a0 : Int) (a1 : Int) (a2 : Bool) (a3 : Int) (a4 : List (List Int)) (K : Int → Option R) : Option R := f13_s (f37 (R := R)) k a0 a1 a2 a3 a4 K
noncomputable def f13_o {R : Type} (g_f37 : Nat → Int → List (List Int) → (Int → Option R) → Option R) (k : Nat) : Orc D R := (orcAdd 37 (f37_d (g_f37 k) noDr) noOrc)
theorem f13_o_ok {R : Type} (k : Nat) : OrcOk Try.prog cx (f13_o (R := R) (f37 (R := R)) k) := (OrcOk.add (f37_ok k FnOk.no) OrcOk.no)
noncomputable def f13_b : Code := bodyOf Try.f13
noncomputable def f13_ann : Nat → Option LAnn := fun _key => none
noncomputable def f13_lrc {R : Type} (_g_f37 : Nat → Int → List (List Int) → (Int → Option R) → Option R) (_k : Nat) : Lrc D R := noLrc
noncomputable def f13_d {R : Type} (g : Int → Int → Bool → Int → List (List Int) → (Int → Option R) → Option R) (e : Dr D R) : Dr D R := door [.agg [.int .i64, .int .i64, .bool, .int .i64, .list (.slice (.int .u8))]] [] (fun (x : ((Int × Int × Bool × Int × List (List Int) × Unit) × Unit)) (_y : (Unit)) K => g x.1.1 x.1.2.1 x.1.2.2.1 x.1.2.2.2.1 x.1.2.2.2.2.1 (fun z0 => K ⟨.int .i64 z0, []⟩)) e
theorem f13_e {R : Type} (g_f37 : Nat → Int → List (List Int) → (Int → Option R) → Option R) (k : Nat) (x : ((Int × Int × Bool × Int × List (List Int) × Unit) × Unit)) (y : (Unit)) (K : RV D → Option R) : f13_s g_f37 k x.1.1 x.1.2.1 x.1.2.2.1 x.1.2.2.2.1 x.1.2.2.2.2.1 (fun z0 => K ⟨.int .i64 z0, []⟩) = exec cx (f13_o g_f37 k) (f13_lrc g_f37 k) f13_ann kp 36 0 f13_b (entry (gives (D := D) [.agg [.int .i64, .int .i64, .bool, .int .i64, .list (.slice (.int .u8))]] x) (giveOs (D := D) [] y)) (fin cx Try.f13.results.toList [] 0 K) := by kernel_rfl
theorem f13_ok {R : Type} (k : Nat) {e : Dr D R} (he : FnOk Try.prog cx 13 e) : FnOk Try.prog cx 13 (f13_d (f13 k) e) :=
  he.door fun x y => body_ok (keep := kp) (ann := f13_ann) (lrc := f13_lrc (R := R) (f37 (R := R)) k) (N := 36) (n0 := 0) (c := []) cxOk mixed (f13_o_ok k) (body := f13_b) (by kernel_rfl : Try.prog.funcs[13]? = some Try.f13) (by kernel_rfl) (by kernel_rfl) (by kernel_rfl) (by kernel_rfl) (of_decide_eq_true (by kernel_rfl)) (L := []) (by kernel_rfl) trivial (LrcNat.no) (fun K => f13_e (f37 (R := R)) k x y K)

/-! ## 48: diorama/dioramaref01.most -/
noncomputable def f48_s {R : Type} (_k : Nat) (a0 : Int) (K : Int → Option R) : Option R :=
  bif decide ((IntKind.u64.wrap ((IntKind.i64.wrap (7 * a0)))) < 0) then
    none
  else
    K (IntKind.i64.wrap ((shlI .i64 1 (IntKind.u64.wrap ((IntKind.i64.wrap (7 * a0))))) - 1))
noncomputable def f48 {R : Type} (k : Nat) (a0 : Int) (K : Int → Option R) : Option R := f48_s k a0 K
noncomputable def f48_o {R : Type} (_k : Nat) : Orc D R := noOrc
theorem f48_o_ok {R : Type} (k : Nat) : OrcOk Try.prog cx (f48_o (R := R) k) := OrcOk.no
noncomputable def f48_b : Code := bodyOf Try.f48
noncomputable def f48_ann : Nat → Option LAnn := fun _key => none
noncomputable def f48_lrc {R : Type} (_k : Nat) : Lrc D R := noLrc
noncomputable def f48_d {R : Type} (g : Int → (Int → Option R) → Option R) (e : Dr D R) : Dr D R := door [.int .i64] [] (fun (x : (Int × Unit)) (_y : (Unit)) K => g x.1 (fun z0 => K ⟨.int .i64 z0, []⟩)) e
theorem f48_e {R : Type} (k : Nat) (x : (Int × Unit)) (y : (Unit)) (K : RV D → Option R) : f48_s k x.1 (fun z0 => K ⟨.int .i64 z0, []⟩) = exec cx (f48_o k) (f48_lrc k) f48_ann kp 8 0 f48_b (entry (gives (D := D) [.int .i64] x) (giveOs (D := D) [] y)) (fin cx Try.f48.results.toList [] 0 K) := by kernel_rfl
theorem f48_ok {R : Type} (k : Nat) {e : Dr D R} (he : FnOk Try.prog cx 48 e) : FnOk Try.prog cx 48 (f48_d (f48 k) e) :=
  he.door fun x y => body_ok (keep := kp) (ann := f48_ann) (lrc := f48_lrc (R := R) k) (N := 8) (n0 := 0) (c := []) cxOk mixed (f48_o_ok k) (body := f48_b) (by kernel_rfl : Try.prog.funcs[48]? = some Try.f48) (by kernel_rfl) (by kernel_rfl) (by kernel_rfl) (by kernel_rfl) (of_decide_eq_true (by kernel_rfl)) (L := []) (by kernel_rfl) trivial (LrcNat.no) (fun K => f48_e k x y K)

/-! ## 49: diorama/dioramaref01.Bytes -/
noncomputable def f49_l3 {R : Type} : Nat → Int → Int → List Int → (List Int → Option R) → Option R
  | 0, _, _, _, _ => none
  | k + 1, v1, v2, v3, X0 =>
    bif decide (v2 ≥ 0) then
      bif inb v2 v3.length then
        f49_l3 k (IntKind.i64.wrap (v1.tdiv 256)) (IntKind.i64.wrap (v2 - 1)) (v3.set v2.toNat (IntKind.u8.wrap ((v1.tmod 256)))) X0
      else
        none
    else
      X0 v3
noncomputable def f49_s {R : Type} (k : Nat) (a0 : Int) (a1 : Int) (K : List Int → Option R) : Option R :=
  bif (decide ((0 : Int) ≤ a1)) && (decide (a1 ≤ a1)) && (decide (a1 * ((1 : Nat) : Int) ≤ 140737488355328)) then
    f49_l3 k a0 (IntKind.i64.wrap (a1 - 1)) (List.replicate a1.toNat (0 : Int)) (fun v4 =>
      K v4)
  else
    none
noncomputable def f49 {R : Type} (k : Nat) (a0 : Int) (a1 : Int) (K : List Int → Option R) : Option R := f49_s k a0 a1 K
noncomputable def f49_o {R : Type} (_k : Nat) : Orc D R := noOrc
theorem f49_o_ok {R : Type} (k : Nat) : OrcOk Try.prog cx (f49_o (R := R) k) := OrcOk.no
noncomputable def f49_b : Code := bodyOf Try.f49
noncomputable def f49_l3_a : LAnn := ⟨⟨[], [0, 5, 6], [131216]⟩, exOf (none) [(0, ⟨[], [5], [131216]⟩)]⟩
noncomputable def f49_ann : Nat → Option LAnn := fun key => bif Nat.beq key 3 then some f49_l3_a else none
noncomputable def f49_l3_b : Code := loopAt f49_b 0
noncomputable def f49_l3_g {R : Type} (k : Nat) (x : (Int × Unit × Int × Unit)) (y : (List Int × Unit)) (K : Ex → List (PV D) → List (Option (Am.Obj D)) → Option R) : Option R := f49_l3 k x.1 x.2.2.1 y.1 (fun z0 => K (.exit 0) [.own 131216] [some (.row (.int .u8) z0 true)])
noncomputable def f49_l3_d {R : Type} (k : Nat) : Lr D R := ldoor [.int .i64, .own 131216, .int .i64] [some (.row (.int .u8) true)] (f49_l3_g k)
noncomputable def f49_l3_lrc {R : Type} (_k : Nat) : Lrc D R := noLrc
theorem f49_l3_e {R : Type} (k : Nat) (x : (Int × Unit × Int × Unit)) (y : (List Int × Unit)) (K : Ex → List (PV D) → List (Option (Am.Obj D)) → Option R) : f49_l3_g (k + 1) x y K = round cx (f49_o k) (f49_l3_lrc k) f49_ann kp 24 0 f49_l3_a f49_l3_b (gives (D := D) [.int .i64, .own 131216, .int .i64] x) (giveGs (D := D) [some (.row (.int .u8) true)] y) (fun vs os => f49_l3_d k vs os K) K := by kernel_rfl
theorem f49_l3_d_ok {R : Type} : ∀ k, LoopOk Try.prog cx 24 0 f49_ann (f49_l3_d (R := R) k) f49_l3_b :=
  loop_ok (keep := kp) (lrc := f49_l3_lrc (R := R)) cxOk mixed f49_o_ok (show f49_ann (Am.keyOf f49_l3_b) = some f49_l3_a by kernel_rfl) (L := []) (by kernel_rfl) (fun k => trivial) (fun k => LrcNat.no) (fun x y K => by kernel_rfl) (f49_l3_e)
noncomputable def f49_lrc {R : Type} (k : Nat) : Lrc D R := (lrcAdd 3 (f49_l3_d k) noLrc)
noncomputable def f49_d {R : Type} (g : Int → Int → (List Int → Option R) → Option R) (e : Dr D R) : Dr D R := door [.int .i64, .int .i64] [] (fun (x : (Int × Int × Unit)) (_y : (Unit)) K => g x.1 x.2.1 (fun z0 => K ⟨.own 0, [some (.row (.int .u8) z0 true)]⟩)) e
theorem f49_e {R : Type} (k : Nat) (x : (Int × Int × Unit)) (y : (Unit)) (K : RV D → Option R) : f49_s k x.1 x.2.1 (fun z0 => K ⟨.own 0, [some (.row (.int .u8) z0 true)]⟩) = exec cx (f49_o k) (f49_lrc k) f49_ann kp 24 0 f49_b (entry (gives (D := D) [.int .i64, .int .i64] x) (giveOs (D := D) [] y)) (fin cx Try.f49.results.toList [] 0 K) := by kernel_rfl
theorem f49_ok {R : Type} (k : Nat) {e : Dr D R} (he : FnOk Try.prog cx 49 e) : FnOk Try.prog cx 49 (f49_d (f49 k) e) :=
  he.door fun x y => body_ok (keep := kp) (ann := f49_ann) (lrc := f49_lrc (R := R) k) (N := 24) (n0 := 0) (c := []) cxOk mixed (f49_o_ok k) (body := f49_b) (by kernel_rfl : Try.prog.funcs[49]? = some Try.f49) (by kernel_rfl) (by kernel_rfl) (by kernel_rfl) (by kernel_rfl) (of_decide_eq_true (by kernel_rfl)) (L := [f49_l3_b]) (by kernel_rfl) ⟨(f49_l3_d_ok k).use (by kernel_rfl), trivial⟩ ((LrcNat.add (f49_l3_d_ok k).2 LrcNat.no)) (fun K => f49_e k x y K)

/-! ## 34: diorama/dioramaref01.PutVint -/
noncomputable def f34_l5 {R : Type} (g_f48 : Nat → Int → (Int → Option R) → Option R) (g_f49 : Nat → Int → Int → (List Int → Option R) → Option R) : Nat → Int → Int → (Int → Int → Option R) → Option R
  | 0, _, _, _ => none
  | k + 1, v1, v2, X0 =>
    bif decide (v2 < 8) then
      g_f48 k v2 (fun v3 =>
        bif decide (v1 ≥ v3) then
          f34_l5 g_f48 g_f49 k v1 (IntKind.i64.wrap (v2 + 1)) X0
        else
          X0 v1 v2)
    else
      X0 v1 v2
noncomputable def f34_s {R : Type} (g_f48 : Nat → Int → (Int → Option R) → Option R) (g_f49 : Nat → Int → Int → (List Int → Option R) → Option R) (k : Nat) (a0 : Int) (a1 : Int) (K : Int → List Int → Option R) : Option R :=
  bif decide (a1 < 0) then
    K 1 ([] : List Int)
  else
    bif decide (a1 > 8) then
      K 1 ([] : List Int)
    else
      bif decide (a0 < 0) then
        K 1 ([] : List Int)
      else
        bif (a1 == 0) then
          f34_l5 g_f48 g_f49 k a0 1 (fun v4 v5 =>
            g_f48 k v5 (fun v6 =>
              bif decide (v4 ≥ v6) then
                K 1 ([] : List Int)
              else
                bif decide ((IntKind.u64.wrap ((IntKind.i64.wrap (7 * v5)))) < 0) then
                  none
                else
                  g_f49 k (IntKind.i64.wrap (v4 + (shlI .i64 1 (IntKind.u64.wrap ((IntKind.i64.wrap (7 * v5))))))) v5 (fun v7 =>
                    K 0 v7)))
        else
          g_f48 k a1 (fun v8 =>
            bif decide (a0 ≥ v8) then
              K 1 ([] : List Int)
            else
              bif decide ((IntKind.u64.wrap ((IntKind.i64.wrap (7 * a1)))) < 0) then
                none
              else
                g_f49 k (IntKind.i64.wrap (a0 + (shlI .i64 1 (IntKind.u64.wrap ((IntKind.i64.wrap (7 * a1))))))) a1 (fun v9 =>
                  K 0 v9))
noncomputable def f34 {R : Type} (k : Nat) (a0 : Int) (a1 : Int) (K : Int → List Int → Option R) : Option R := f34_s (f48 (R := R)) (f49 (R := R)) k a0 a1 K
noncomputable def f34_o {R : Type} (g_f48 : Nat → Int → (Int → Option R) → Option R) (g_f49 : Nat → Int → Int → (List Int → Option R) → Option R) (k : Nat) : Orc D R := (orcAdd 49 (f49_d (g_f49 k) noDr) (orcAdd 48 (f48_d (g_f48 k) noDr) noOrc))
theorem f34_o_ok {R : Type} (k : Nat) : OrcOk Try.prog cx (f34_o (R := R) (f48 (R := R)) (f49 (R := R)) k) := (OrcOk.add (f49_ok k FnOk.no) (OrcOk.add (f48_ok k FnOk.no) OrcOk.no))
noncomputable def f34_b : Code := bodyOf Try.f34
noncomputable def f34_l5_a : LAnn := ⟨⟨[], [0, 1], []⟩, exOf (none) [(0, ⟨[], [0, 1], []⟩)]⟩
noncomputable def f34_ann : Nat → Option LAnn := fun key => bif Nat.beq key 5 then some f34_l5_a else none
noncomputable def f34_l5_b : Code := loopAt f34_b 0
noncomputable def f34_l5_g {R : Type} (g_f48 : Nat → Int → (Int → Option R) → Option R) (g_f49 : Nat → Int → Int → (List Int → Option R) → Option R) (k : Nat) (x : (Int × Int × Unit)) (_y : (Unit)) (K : Ex → List (PV D) → List (Option (Am.Obj D)) → Option R) : Option R := f34_l5 g_f48 g_f49 k x.1 x.2.1 (fun z0 z1 => K (.exit 0) [.int .i64 z0, .int .i64 z1] [])
noncomputable def f34_l5_d {R : Type} (g_f48 : Nat → Int → (Int → Option R) → Option R) (g_f49 : Nat → Int → Int → (List Int → Option R) → Option R) (k : Nat) : Lr D R := ldoor [.int .i64, .int .i64] [] (f34_l5_g g_f48 g_f49 k)
noncomputable def f34_l5_lrc {R : Type} (_g_f48 : Nat → Int → (Int → Option R) → Option R) (_g_f49 : Nat → Int → Int → (List Int → Option R) → Option R) (_k : Nat) : Lrc D R := noLrc
theorem f34_l5_e {R : Type} (g_f48 : Nat → Int → (Int → Option R) → Option R) (g_f49 : Nat → Int → Int → (List Int → Option R) → Option R) (k : Nat) (x : (Int × Int × Unit)) (y : (Unit)) (K : Ex → List (PV D) → List (Option (Am.Obj D)) → Option R) : f34_l5_g g_f48 g_f49 (k + 1) x y K = round cx (f34_o g_f48 g_f49 k) (f34_l5_lrc g_f48 g_f49 k) f34_ann kp 40 0 f34_l5_a f34_l5_b (gives (D := D) [.int .i64, .int .i64] x) (giveGs (D := D) [] y) (fun vs os => f34_l5_d g_f48 g_f49 k vs os K) K := by kernel_rfl
theorem f34_l5_d_ok {R : Type} : ∀ k, LoopOk Try.prog cx 40 0 f34_ann (f34_l5_d (R := R) (f48 (R := R)) (f49 (R := R)) k) f34_l5_b :=
  loop_ok (keep := kp) (lrc := f34_l5_lrc (R := R) (f48 (R := R)) (f49 (R := R))) cxOk mixed f34_o_ok (show f34_ann (Am.keyOf f34_l5_b) = some f34_l5_a by kernel_rfl) (L := []) (by kernel_rfl) (fun k => trivial) (fun k => LrcNat.no) (fun x y K => by kernel_rfl) (f34_l5_e (f48 (R := R)) (f49 (R := R)))
noncomputable def f34_lrc {R : Type} (g_f48 : Nat → Int → (Int → Option R) → Option R) (g_f49 : Nat → Int → Int → (List Int → Option R) → Option R) (k : Nat) : Lrc D R := (lrcAdd 5 (f34_l5_d g_f48 g_f49 k) noLrc)
noncomputable def f34_d {R : Type} (g : Int → Int → (Int → List Int → Option R) → Option R) (e : Dr D R) : Dr D R := door [.int .i64, .int .i64] [] (fun (x : (Int × Int × Unit)) (_y : (Unit)) K => g x.1 x.2.1 (fun z0 z1 => K ⟨.tup [.own 0, .int .i64 z0], [some (.row (.int .u8) z1 true)]⟩)) e
theorem f34_e {R : Type} (g_f48 : Nat → Int → (Int → Option R) → Option R) (g_f49 : Nat → Int → Int → (List Int → Option R) → Option R) (k : Nat) (x : (Int × Int × Unit)) (y : (Unit)) (K : RV D → Option R) : f34_s g_f48 g_f49 k x.1 x.2.1 (fun z0 z1 => K ⟨.tup [.own 0, .int .i64 z0], [some (.row (.int .u8) z1 true)]⟩) = exec cx (f34_o g_f48 g_f49 k) (f34_lrc g_f48 g_f49 k) f34_ann kp 40 0 f34_b (entry (gives (D := D) [.int .i64, .int .i64] x) (giveOs (D := D) [] y)) (fin cx Try.f34.results.toList [(.tmp 4, .own 1099511627776 (.int .u8))] 0 K) := by kernel_rfl
theorem f34_ok {R : Type} (k : Nat) {e : Dr D R} (he : FnOk Try.prog cx 34 e) : FnOk Try.prog cx 34 (f34_d (f34 k) e) :=
  he.door fun x y => body_ok (keep := kp) (ann := f34_ann) (lrc := f34_lrc (R := R) (f48 (R := R)) (f49 (R := R)) k) (N := 40) (n0 := 0) (c := [(.tmp 4, .own 1099511627776 (.int .u8))]) cxOk mixed (f34_o_ok k) (body := f34_b) (by kernel_rfl : Try.prog.funcs[34]? = some Try.f34) (by kernel_rfl) (by kernel_rfl) (by kernel_rfl) (by kernel_rfl) (of_decide_eq_true (by kernel_rfl)) (L := [f34_l5_b]) (by kernel_rfl) ⟨(f34_l5_d_ok k).use (by kernel_rfl), trivial⟩ ((LrcNat.add (f34_l5_d_ok k).2 LrcNat.no)) (fun K => f34_e (f48 (R := R)) (f49 (R := R)) k x y K)

/-! ## 63: diorama/dioramaref01.half -/
noncomputable def f63_s {R : Type} (_k : Nat) (a0 : Int) (K : Int → Option R) : Option R :=
  bif decide ((IntKind.u64.wrap ((IntKind.i64.wrap ((IntKind.i64.wrap (7 * a0)) - 1)))) < 0) then
    none
  else
    K (IntKind.i64.wrap ((shlI .i64 1 (IntKind.u64.wrap ((IntKind.i64.wrap ((IntKind.i64.wrap (7 * a0)) - 1))))) - 1))
noncomputable def f63 {R : Type} (k : Nat) (a0 : Int) (K : Int → Option R) : Option R := f63_s k a0 K
noncomputable def f63_o {R : Type} (_k : Nat) : Orc D R := noOrc
theorem f63_o_ok {R : Type} (k : Nat) : OrcOk Try.prog cx (f63_o (R := R) k) := OrcOk.no
noncomputable def f63_b : Code := bodyOf Try.f63
noncomputable def f63_ann : Nat → Option LAnn := fun _key => none
noncomputable def f63_lrc {R : Type} (_k : Nat) : Lrc D R := noLrc
noncomputable def f63_d {R : Type} (g : Int → (Int → Option R) → Option R) (e : Dr D R) : Dr D R := door [.int .i64] [] (fun (x : (Int × Unit)) (_y : (Unit)) K => g x.1 (fun z0 => K ⟨.int .i64 z0, []⟩)) e
theorem f63_e {R : Type} (k : Nat) (x : (Int × Unit)) (y : (Unit)) (K : RV D → Option R) : f63_s k x.1 (fun z0 => K ⟨.int .i64 z0, []⟩) = exec cx (f63_o k) (f63_lrc k) f63_ann kp 9 0 f63_b (entry (gives (D := D) [.int .i64] x) (giveOs (D := D) [] y)) (fin cx Try.f63.results.toList [] 0 K) := by kernel_rfl
theorem f63_ok {R : Type} (k : Nat) {e : Dr D R} (he : FnOk Try.prog cx 63 e) : FnOk Try.prog cx 63 (f63_d (f63 k) e) :=
  he.door fun x y => body_ok (keep := kp) (ann := f63_ann) (lrc := f63_lrc (R := R) k) (N := 9) (n0 := 0) (c := []) cxOk mixed (f63_o_ok k) (body := f63_b) (by kernel_rfl : Try.prog.funcs[63]? = some Try.f63) (by kernel_rfl) (by kernel_rfl) (by kernel_rfl) (by kernel_rfl) (of_decide_eq_true (by kernel_rfl)) (L := []) (by kernel_rfl) trivial (LrcNat.no) (fun K => f63_e k x y K)

/-! ## 50: diorama/dioramaref01.PutSigned -/
noncomputable def f50_l5 {R : Type} (g_f34 : Nat → Int → Int → (Int → List Int → Option R) → Option R) (g_f63 : Nat → Int → (Int → Option R) → Option R) : Nat → Int → Int → (Int → Int → Option R) → Option R
  | 0, _, _, _ => none
  | k + 1, v1, v2, X0 =>
    bif decide (v2 < 8) then
      g_f63 k v2 (fun v3 =>
        bif decide (v1 < (IntKind.i64.wrap (0 - v3))) then
          f50_l5 g_f34 g_f63 k v1 (IntKind.i64.wrap (v2 + 1)) X0
        else
          g_f63 k v2 (fun v4 =>
            bif decide (v1 > v4) then
              f50_l5 g_f34 g_f63 k v1 (IntKind.i64.wrap (v2 + 1)) X0
            else
              X0 v1 v2))
    else
      X0 v1 v2
noncomputable def f50_s {R : Type} (g_f34 : Nat → Int → Int → (Int → List Int → Option R) → Option R) (g_f63 : Nat → Int → (Int → Option R) → Option R) (k : Nat) (a0 : Int) (a1 : Int) (K : Int → List Int → Option R) : Option R :=
  bif decide (a1 < 0) then
    K 1 ([] : List Int)
  else
    bif decide (a1 > 8) then
      K 1 ([] : List Int)
    else
      bif (a1 == 0) then
        f50_l5 g_f34 g_f63 k a0 1 (fun v5 v6 =>
          g_f63 k v6 (fun v7 =>
            bif decide (v5 < (IntKind.i64.wrap (0 - v7))) then
              K 1 ([] : List Int)
            else
              g_f63 k v6 (fun v8 =>
                bif decide (v5 > v8) then
                  K 1 ([] : List Int)
                else
                  g_f63 k v6 (fun v9 =>
                    g_f34 k (IntKind.i64.wrap (v5 + v9)) v6 (fun v10 v11 =>
                      K v10 v11)))))
      else
        g_f63 k a1 (fun v12 =>
          bif decide (a0 < (IntKind.i64.wrap (0 - v12))) then
            K 1 ([] : List Int)
          else
            g_f63 k a1 (fun v13 =>
              bif decide (a0 > v13) then
                K 1 ([] : List Int)
              else
                g_f63 k a1 (fun v14 =>
                  g_f34 k (IntKind.i64.wrap (a0 + v14)) a1 (fun v15 v16 =>
                    K v15 v16))))
noncomputable def f50 {R : Type} (k : Nat) (a0 : Int) (a1 : Int) (K : Int → List Int → Option R) : Option R := f50_s (f34 (R := R)) (f63 (R := R)) k a0 a1 K
noncomputable def f50_o {R : Type} (g_f34 : Nat → Int → Int → (Int → List Int → Option R) → Option R) (g_f63 : Nat → Int → (Int → Option R) → Option R) (k : Nat) : Orc D R := (orcAdd 63 (f63_d (g_f63 k) noDr) (orcAdd 34 (f34_d (g_f34 k) noDr) noOrc))
theorem f50_o_ok {R : Type} (k : Nat) : OrcOk Try.prog cx (f50_o (R := R) (f34 (R := R)) (f63 (R := R)) k) := (OrcOk.add (f63_ok k FnOk.no) (OrcOk.add (f34_ok k FnOk.no) OrcOk.no))
noncomputable def f50_b : Code := bodyOf Try.f50
noncomputable def f50_l5_a : LAnn := ⟨⟨[], [0, 1], []⟩, exOf (none) [(0, ⟨[], [0, 1], []⟩)]⟩
noncomputable def f50_ann : Nat → Option LAnn := fun key => bif Nat.beq key 5 then some f50_l5_a else none
noncomputable def f50_l5_b : Code := loopAt f50_b 0
noncomputable def f50_l5_g {R : Type} (g_f34 : Nat → Int → Int → (Int → List Int → Option R) → Option R) (g_f63 : Nat → Int → (Int → Option R) → Option R) (k : Nat) (x : (Int × Int × Unit)) (_y : (Unit)) (K : Ex → List (PV D) → List (Option (Am.Obj D)) → Option R) : Option R := f50_l5 g_f34 g_f63 k x.1 x.2.1 (fun z0 z1 => K (.exit 0) [.int .i64 z0, .int .i64 z1] [])
noncomputable def f50_l5_d {R : Type} (g_f34 : Nat → Int → Int → (Int → List Int → Option R) → Option R) (g_f63 : Nat → Int → (Int → Option R) → Option R) (k : Nat) : Lr D R := ldoor [.int .i64, .int .i64] [] (f50_l5_g g_f34 g_f63 k)
noncomputable def f50_l5_lrc {R : Type} (_g_f34 : Nat → Int → Int → (Int → List Int → Option R) → Option R) (_g_f63 : Nat → Int → (Int → Option R) → Option R) (_k : Nat) : Lrc D R := noLrc
theorem f50_l5_e {R : Type} (g_f34 : Nat → Int → Int → (Int → List Int → Option R) → Option R) (g_f63 : Nat → Int → (Int → Option R) → Option R) (k : Nat) (x : (Int × Int × Unit)) (y : (Unit)) (K : Ex → List (PV D) → List (Option (Am.Obj D)) → Option R) : f50_l5_g g_f34 g_f63 (k + 1) x y K = round cx (f50_o g_f34 g_f63 k) (f50_l5_lrc g_f34 g_f63 k) f50_ann kp 50 0 f50_l5_a f50_l5_b (gives (D := D) [.int .i64, .int .i64] x) (giveGs (D := D) [] y) (fun vs os => f50_l5_d g_f34 g_f63 k vs os K) K := by kernel_rfl
theorem f50_l5_d_ok {R : Type} : ∀ k, LoopOk Try.prog cx 50 0 f50_ann (f50_l5_d (R := R) (f34 (R := R)) (f63 (R := R)) k) f50_l5_b :=
  loop_ok (keep := kp) (lrc := f50_l5_lrc (R := R) (f34 (R := R)) (f63 (R := R))) cxOk mixed f50_o_ok (show f50_ann (Am.keyOf f50_l5_b) = some f50_l5_a by kernel_rfl) (L := []) (by kernel_rfl) (fun k => trivial) (fun k => LrcNat.no) (fun x y K => by kernel_rfl) (f50_l5_e (f34 (R := R)) (f63 (R := R)))
noncomputable def f50_lrc {R : Type} (g_f34 : Nat → Int → Int → (Int → List Int → Option R) → Option R) (g_f63 : Nat → Int → (Int → Option R) → Option R) (k : Nat) : Lrc D R := (lrcAdd 5 (f50_l5_d g_f34 g_f63 k) noLrc)
noncomputable def f50_d {R : Type} (g : Int → Int → (Int → List Int → Option R) → Option R) (e : Dr D R) : Dr D R := door [.int .i64, .int .i64] [] (fun (x : (Int × Int × Unit)) (_y : (Unit)) K => g x.1 x.2.1 (fun z0 z1 => K ⟨.tup [.own 0, .int .i64 z0], [some (.row (.int .u8) z1 true)]⟩)) e
theorem f50_e {R : Type} (g_f34 : Nat → Int → Int → (Int → List Int → Option R) → Option R) (g_f63 : Nat → Int → (Int → Option R) → Option R) (k : Nat) (x : (Int × Int × Unit)) (y : (Unit)) (K : RV D → Option R) : f50_s g_f34 g_f63 k x.1 x.2.1 (fun z0 z1 => K ⟨.tup [.own 0, .int .i64 z0], [some (.row (.int .u8) z1 true)]⟩) = exec cx (f50_o g_f34 g_f63 k) (f50_lrc g_f34 g_f63 k) f50_ann kp 50 0 f50_b (entry (gives (D := D) [.int .i64, .int .i64] x) (giveOs (D := D) [] y)) (fin cx Try.f50.results.toList [(.tmp 4, .own 1099511627776 (.int .u8))] 0 K) := by kernel_rfl
theorem f50_ok {R : Type} (k : Nat) {e : Dr D R} (he : FnOk Try.prog cx 50 e) : FnOk Try.prog cx 50 (f50_d (f50 k) e) :=
  he.door fun x y => body_ok (keep := kp) (ann := f50_ann) (lrc := f50_lrc (R := R) (f34 (R := R)) (f63 (R := R)) k) (N := 50) (n0 := 0) (c := [(.tmp 4, .own 1099511627776 (.int .u8))]) cxOk mixed (f50_o_ok k) (body := f50_b) (by kernel_rfl : Try.prog.funcs[50]? = some Try.f50) (by kernel_rfl) (by kernel_rfl) (by kernel_rfl) (by kernel_rfl) (of_decide_eq_true (by kernel_rfl)) (L := [f50_l5_b]) (by kernel_rfl) ⟨(f50_l5_d_ok k).use (by kernel_rfl), trivial⟩ ((LrcNat.add (f50_l5_d_ok k).2 LrcNat.no)) (fun K => f50_e (f34 (R := R)) (f63 (R := R)) k x y K)

/-! ## 35: diorama/dioramaref05.coded -/
noncomputable def f35_l10 {R : Type} (g_f34 : Nat → Int → Int → (Int → List Int → Option R) → Option R) (g_f50 : Nat → Int → Int → (Int → List Int → Option R) → Option R) : Nat → Int → List (List Int) → Int → Int → List Int → (Int → List (List Int) → Int → Int → List Int → Option R) → Option R
  | 0, _, _, _, _, _, _ => none
  | k + 1, v5, v6, v7, v8, v9, X0 =>
    bif decide (v8 ≥ 255) then
      bif room 1 (v9.length + ([255]).length) then
        f35_l10 g_f34 g_f50 k v5 v6 v7 (IntKind.i64.wrap (v8 - 255)) (v9 ++ ([255])) X0
      else
        none
    else
      X0 v5 v6 v7 v8 v9
noncomputable def f35_l5 {R : Type} (g_f34 : Nat → Int → Int → (Int → List Int → Option R) → Option R) (g_f50 : Nat → Int → Int → (Int → List Int → Option R) → Option R) : Nat → Int → List (List Int) → Int → List Int → (List Int → Option R) → Option R
  | 0, _, _, _, _, _ => none
  | k + 1, v1, v2, v3, v4, X0 =>
    bif decide (v3 < (IntKind.i64.wrap ((v2.length : Int) - 1))) then
      bif inb v3 v2.length then
        bif (v1 == 1) then
          f35_l10 g_f34 g_f50 k v1 v2 v3 ((v2.getD v3.toNat []).length : Int) v4 (fun v10 v11 v12 v13 v14 =>
            bif room 1 (v14.length + ([(IntKind.u8.wrap (v13))]).length) then
              f35_l5 g_f34 g_f50 k v10 v11 (IntKind.i64.wrap (v12 + 1)) (v14 ++ ([(IntKind.u8.wrap (v13))])) X0
            else
              none)
        else
          bif (v1 == 3) then
            bif (v3 == 0) then
              g_f34 k ((v2.getD v3.toNat []).length : Int) 0 (fun _v15 v16 =>
                bif room 1 (v4.length + v16.length) then
                  f35_l5 g_f34 g_f50 k v1 v2 (IntKind.i64.wrap (v3 + 1)) (v4 ++ v16) X0
                else
                  none)
            else
              bif inb (IntKind.i64.wrap (v3 - 1)) v2.length then
                g_f50 k (IntKind.i64.wrap (((v2.getD v3.toNat []).length : Int) - ((v2.getD ((IntKind.i64.wrap (v3 - 1)).toNat) []).length : Int))) 0 (fun _v17 v18 =>
                  bif room 1 (v4.length + v18.length) then
                    f35_l5 g_f34 g_f50 k v1 v2 (IntKind.i64.wrap (v3 + 1)) (v4 ++ v18) X0
                  else
                    none)
              else
                none
          else
            f35_l5 g_f34 g_f50 k v1 v2 (IntKind.i64.wrap (v3 + 1)) v4 X0
      else
        none
    else
      X0 v4
noncomputable def f35_s {R : Type} (g_f34 : Nat → Int → Int → (Int → List Int → Option R) → Option R) (g_f50 : Nat → Int → Int → (Int → List Int → Option R) → Option R) (k : Nat) (a0 : Int) (a1 : List (List Int)) (K : List Int → Option R) : Option R :=
  bif (a0 == 0) then
    K ([] : List Int)
  else
    f35_l5 g_f34 g_f50 k a0 a1 0 ([(IntKind.u8.wrap ((IntKind.i64.wrap ((a1.length : Int) - 1))))]) (fun v19 =>
      K v19)
noncomputable def f35 {R : Type} (k : Nat) (a0 : Int) (a1 : List (List Int)) (K : List Int → Option R) : Option R := f35_s (f34 (R := R)) (f50 (R := R)) k a0 a1 K
noncomputable def f35_o {R : Type} (g_f34 : Nat → Int → Int → (Int → List Int → Option R) → Option R) (g_f50 : Nat → Int → Int → (Int → List Int → Option R) → Option R) (k : Nat) : Orc D R := (orcAdd 50 (f50_d (g_f50 k) noDr) (orcAdd 34 (f34_d (g_f34 k) noDr) noOrc))
theorem f35_o_ok {R : Type} (k : Nat) : OrcOk Try.prog cx (f35_o (R := R) (f34 (R := R)) (f50 (R := R)) k) := (OrcOk.add (f50_ok k FnOk.no) (OrcOk.add (f34_ok k FnOk.no) OrcOk.no))
noncomputable def f35_b : Code := bodyOf Try.f35
noncomputable def f35_l5_a : LAnn := ⟨⟨[(.tmp 5, .own 68719497216 (.int .u8))], [0, 1, 5, 6], [68719497216]⟩, exOf (none) [(0, ⟨[], [5], [68719497216]⟩)]⟩
noncomputable def f35_l10_a : LAnn := ⟨⟨[(.tmp 5, .own 68719517696 (.int .u8))], [0, 1, 5, 6, 7], [68719517696]⟩, exOf (none) [(3, ⟨[], [0, 1, 5, 6, 7], [68719517696]⟩)]⟩
noncomputable def f35_ann : Nat → Option LAnn := fun key => bif Nat.beq key 10 then some f35_l10_a else bif Nat.beq key 5 then some f35_l5_a else none
noncomputable def f35_l10_b : Code := loopAt f35_b 1
noncomputable def f35_l10_g {R : Type} (g_f34 : Nat → Int → Int → (Int → List Int → Option R) → Option R) (g_f50 : Nat → Int → Int → (Int → List Int → Option R) → Option R) (k : Nat) (x : (Int × List (List Int) × Unit × Int × Int × Unit)) (y : (List Int × Unit)) (K : Ex → List (PV D) → List (Option (Am.Obj D)) → Option R) : Option R := f35_l10 g_f34 g_f50 k x.1 x.2.1 x.2.2.2.1 x.2.2.2.2.1 y.1 (fun z0 z1 z2 z3 z4 => K (.exit 3) [.int .i64 z0, .list (.slice (.int .u8)) z1, .own 68719517696, .int .i64 z2, .int .i64 z3] [some (.row (.int .u8) z4 true)])
noncomputable def f35_l10_d {R : Type} (g_f34 : Nat → Int → Int → (Int → List Int → Option R) → Option R) (g_f50 : Nat → Int → Int → (Int → List Int → Option R) → Option R) (k : Nat) : Lr D R := ldoor [.int .i64, .list (.slice (.int .u8)), .own 68719517696, .int .i64, .int .i64] [some (.row (.int .u8) true)] (f35_l10_g g_f34 g_f50 k)
noncomputable def f35_l10_lrc {R : Type} (_g_f34 : Nat → Int → Int → (Int → List Int → Option R) → Option R) (_g_f50 : Nat → Int → Int → (Int → List Int → Option R) → Option R) (_k : Nat) : Lrc D R := noLrc
theorem f35_l10_e {R : Type} (g_f34 : Nat → Int → Int → (Int → List Int → Option R) → Option R) (g_f50 : Nat → Int → Int → (Int → List Int → Option R) → Option R) (k : Nat) (x : (Int × List (List Int) × Unit × Int × Int × Unit)) (y : (List Int × Unit)) (K : Ex → List (PV D) → List (Option (Am.Obj D)) → Option R) : f35_l10_g g_f34 g_f50 (k + 1) x y K = round cx (f35_o g_f34 g_f50 k) (f35_l10_lrc g_f34 g_f50 k) f35_ann kp 68 0 f35_l10_a f35_l10_b (gives (D := D) [.int .i64, .list (.slice (.int .u8)), .own 68719517696, .int .i64, .int .i64] x) (giveGs (D := D) [some (.row (.int .u8) true)] y) (fun vs os => f35_l10_d g_f34 g_f50 k vs os K) K := by kernel_rfl
theorem f35_l10_d_ok {R : Type} : ∀ k, LoopOk Try.prog cx 68 0 f35_ann (f35_l10_d (R := R) (f34 (R := R)) (f50 (R := R)) k) f35_l10_b :=
  loop_ok (keep := kp) (lrc := f35_l10_lrc (R := R) (f34 (R := R)) (f50 (R := R))) cxOk mixed f35_o_ok (show f35_ann (Am.keyOf f35_l10_b) = some f35_l10_a by kernel_rfl) (L := []) (by kernel_rfl) (fun k => trivial) (fun k => LrcNat.no) (fun x y K => by kernel_rfl) (f35_l10_e (f34 (R := R)) (f50 (R := R)))
noncomputable def f35_l5_b : Code := loopAt f35_b 0
noncomputable def f35_l5_g {R : Type} (g_f34 : Nat → Int → Int → (Int → List Int → Option R) → Option R) (g_f50 : Nat → Int → Int → (Int → List Int → Option R) → Option R) (k : Nat) (x : (Int × List (List Int) × Unit × Int × Unit)) (y : (List Int × Unit)) (K : Ex → List (PV D) → List (Option (Am.Obj D)) → Option R) : Option R := f35_l5 g_f34 g_f50 k x.1 x.2.1 x.2.2.2.1 y.1 (fun z0 => K (.exit 0) [.own 68719497216] [some (.row (.int .u8) z0 true)])
noncomputable def f35_l5_d {R : Type} (g_f34 : Nat → Int → Int → (Int → List Int → Option R) → Option R) (g_f50 : Nat → Int → Int → (Int → List Int → Option R) → Option R) (k : Nat) : Lr D R := ldoor [.int .i64, .list (.slice (.int .u8)), .own 68719497216, .int .i64] [some (.row (.int .u8) true)] (f35_l5_g g_f34 g_f50 k)
noncomputable def f35_l5_lrc {R : Type} (g_f34 : Nat → Int → Int → (Int → List Int → Option R) → Option R) (g_f50 : Nat → Int → Int → (Int → List Int → Option R) → Option R) (k : Nat) : Lrc D R := (lrcAdd 10 (f35_l10_d g_f34 g_f50 k) noLrc)
theorem f35_l5_e {R : Type} (g_f34 : Nat → Int → Int → (Int → List Int → Option R) → Option R) (g_f50 : Nat → Int → Int → (Int → List Int → Option R) → Option R) (k : Nat) (x : (Int × List (List Int) × Unit × Int × Unit)) (y : (List Int × Unit)) (K : Ex → List (PV D) → List (Option (Am.Obj D)) → Option R) : f35_l5_g g_f34 g_f50 (k + 1) x y K = round cx (f35_o g_f34 g_f50 k) (f35_l5_lrc g_f34 g_f50 k) f35_ann kp 68 0 f35_l5_a f35_l5_b (gives (D := D) [.int .i64, .list (.slice (.int .u8)), .own 68719497216, .int .i64] x) (giveGs (D := D) [some (.row (.int .u8) true)] y) (fun vs os => f35_l5_d g_f34 g_f50 k vs os K) K := by kernel_rfl
theorem f35_l5_d_ok {R : Type} : ∀ k, LoopOk Try.prog cx 68 0 f35_ann (f35_l5_d (R := R) (f34 (R := R)) (f50 (R := R)) k) f35_l5_b :=
  loop_ok (keep := kp) (lrc := f35_l5_lrc (R := R) (f34 (R := R)) (f50 (R := R))) cxOk mixed f35_o_ok (show f35_ann (Am.keyOf f35_l5_b) = some f35_l5_a by kernel_rfl) (L := [f35_l10_b]) (by kernel_rfl) (fun k => ⟨(f35_l10_d_ok k).use (by kernel_rfl), trivial⟩) (fun k => (LrcNat.add (f35_l10_d_ok k).2 LrcNat.no)) (fun x y K => by kernel_rfl) (f35_l5_e (f34 (R := R)) (f50 (R := R)))
noncomputable def f35_lrc {R : Type} (g_f34 : Nat → Int → Int → (Int → List Int → Option R) → Option R) (g_f50 : Nat → Int → Int → (Int → List Int → Option R) → Option R) (k : Nat) : Lrc D R := (lrcAdd 10 (f35_l10_d g_f34 g_f50 k) (lrcAdd 5 (f35_l5_d g_f34 g_f50 k) noLrc))
noncomputable def f35_d {R : Type} (g : Int → List (List Int) → (List Int → Option R) → Option R) (e : Dr D R) : Dr D R := door [.int .i64, .list (.slice (.int .u8))] [] (fun (x : (Int × List (List Int) × Unit)) (_y : (Unit)) K => g x.1 x.2.1 (fun z0 => K ⟨.own 0, [some (.row (.int .u8) z0 true)]⟩)) e
theorem f35_e {R : Type} (g_f34 : Nat → Int → Int → (Int → List Int → Option R) → Option R) (g_f50 : Nat → Int → Int → (Int → List Int → Option R) → Option R) (k : Nat) (x : (Int × List (List Int) × Unit)) (y : (Unit)) (K : RV D → Option R) : f35_s g_f34 g_f50 k x.1 x.2.1 (fun z0 => K ⟨.own 0, [some (.row (.int .u8) z0 true)]⟩) = exec cx (f35_o g_f34 g_f50 k) (f35_lrc g_f34 g_f50 k) f35_ann kp 68 0 f35_b (entry (gives (D := D) [.int .i64, .list (.slice (.int .u8))] x) (giveOs (D := D) [] y)) (fin cx Try.f35.results.toList [(.tmp 4, .own 1099511627776 (.int .u8))] 0 K) := by kernel_rfl
theorem f35_ok {R : Type} (k : Nat) {e : Dr D R} (he : FnOk Try.prog cx 35 e) : FnOk Try.prog cx 35 (f35_d (f35 k) e) :=
  he.door fun x y => body_ok (keep := kp) (ann := f35_ann) (lrc := f35_lrc (R := R) (f34 (R := R)) (f50 (R := R)) k) (N := 68) (n0 := 0) (c := [(.tmp 4, .own 1099511627776 (.int .u8))]) cxOk mixed (f35_o_ok k) (body := f35_b) (by kernel_rfl : Try.prog.funcs[35]? = some Try.f35) (by kernel_rfl) (by kernel_rfl) (by kernel_rfl) (by kernel_rfl) (of_decide_eq_true (by kernel_rfl)) (L := [f35_l5_b, f35_l10_b]) (by kernel_rfl) ⟨(f35_l5_d_ok k).use (by kernel_rfl), (f35_l10_d_ok k).use (by kernel_rfl), trivial⟩ ((LrcNat.add (f35_l10_d_ok k).2 (LrcNat.add (f35_l5_d_ok k).2 LrcNat.no))) (fun K => f35_e (f34 (R := R)) (f50 (R := R)) k x y K)


end Go.Proofs.Ytnmoccdnkpkhhaa

/-! What the functions do, as plain functions; and that they do. -/
namespace Go.Proofs.Ytnmoccdnkpkhhaa
open Go Go.Am
/-! ## 11: diorama/dioramaref05.Write -/
noncomputable def f11_l14 {R : Type} (g_f13 : Nat → Int → Int → Bool → Int → List (List Int) → (Int → Option R) → Option R) (g_f34 : Nat → Int → Int → (Int → List Int → Option R) → Option R) (g_f35 : Nat → Int → List (List Int) → (List Int → Option R) → Option R) : Nat → Int → Int → Int → Bool → Int → List (List Int) → List Int → (List Int → Option R) → Option R
  | 0, _, _, _, _, _, _, _, _ => none
  | k + 1, v5, v6, v7, v8, v9, v10, v11, X0 =>
    bif decide (v5 < (v10.length : Int)) then
      bif inb v5 v10.length then
        bif room 1 (v11.length + (v10.getD v5.toNat []).length) then
          f11_l14 g_f13 g_f34 g_f35 k (IntKind.i64.wrap (v5 + 1)) v6 v7 v8 v9 v10 (v11 ++ (v10.getD v5.toNat [])) X0
        else
          none
      else
        none
    else
      X0 v11
noncomputable def f11_s {R : Type} (g_f13 : Nat → Int → Int → Bool → Int → List (List Int) → (Int → Option R) → Option R) (g_f34 : Nat → Int → Int → (Int → List Int → Option R) → Option R) (g_f35 : Nat → Int → List (List Int) → (List Int → Option R) → Option R) (k : Nat) (a0 : Int) (a1 : Int) (a2 : Bool) (a3 : Int) (a4 : List (List Int)) (K : Int → List Int → Option R) : Option R :=
  g_f13 k a0 a1 a2 a3 a4 (fun v1 =>
    bif (v1 != 0) then
      K v1 ([] : List Int)
    else
      g_f34 k a0 0 (fun _v2 v3 =>
        bif decide (a1 < 0) then
          bif a2 then
            bif room 1 (v3.length + ([(IntKind.u8.wrap ((IntKind.i64.wrap ((IntKind.i64.wrap (a1 + 65536)).tdiv 256)))), (IntKind.u8.wrap (((IntKind.i64.wrap (a1 + 65536)).tmod 256))), (IntKind.u8.wrap ((IntKind.i64.wrap ((IntKind.i64.wrap (2 * a3)) + 128))))]).length) then
              g_f35 k a3 a4 (fun v4 =>
                bif room 1 ((v3 ++ ([(IntKind.u8.wrap ((IntKind.i64.wrap ((IntKind.i64.wrap (a1 + 65536)).tdiv 256)))), (IntKind.u8.wrap (((IntKind.i64.wrap (a1 + 65536)).tmod 256))), (IntKind.u8.wrap ((IntKind.i64.wrap ((IntKind.i64.wrap (2 * a3)) + 128))))])).length + v4.length) then
                  f11_l14 g_f13 g_f34 g_f35 k 0 a0 a1 a2 a3 a4 ((v3 ++ ([(IntKind.u8.wrap ((IntKind.i64.wrap ((IntKind.i64.wrap (a1 + 65536)).tdiv 256)))), (IntKind.u8.wrap (((IntKind.i64.wrap (a1 + 65536)).tmod 256))), (IntKind.u8.wrap ((IntKind.i64.wrap ((IntKind.i64.wrap (2 * a3)) + 128))))])) ++ v4) (fun v12 =>
                    K 0 v12)
                else
                  none)
            else
              none
          else
            bif room 1 (v3.length + ([(IntKind.u8.wrap ((IntKind.i64.wrap ((IntKind.i64.wrap (a1 + 65536)).tdiv 256)))), (IntKind.u8.wrap (((IntKind.i64.wrap (a1 + 65536)).tmod 256))), (IntKind.u8.wrap ((IntKind.i64.wrap (2 * a3))))]).length) then
              g_f35 k a3 a4 (fun v13 =>
                bif room 1 ((v3 ++ ([(IntKind.u8.wrap ((IntKind.i64.wrap ((IntKind.i64.wrap (a1 + 65536)).tdiv 256)))), (IntKind.u8.wrap (((IntKind.i64.wrap (a1 + 65536)).tmod 256))), (IntKind.u8.wrap ((IntKind.i64.wrap (2 * a3))))])).length + v13.length) then
                  f11_l14 g_f13 g_f34 g_f35 k 0 a0 a1 a2 a3 a4 ((v3 ++ ([(IntKind.u8.wrap ((IntKind.i64.wrap ((IntKind.i64.wrap (a1 + 65536)).tdiv 256)))), (IntKind.u8.wrap (((IntKind.i64.wrap (a1 + 65536)).tmod 256))), (IntKind.u8.wrap ((IntKind.i64.wrap (2 * a3))))])) ++ v13) (fun v14 =>
                    K 0 v14)
                else
                  none)
            else
              none
        else
          bif a2 then
            bif room 1 (v3.length + ([(IntKind.u8.wrap ((IntKind.i64.wrap (a1.tdiv 256)))), (IntKind.u8.wrap ((a1.tmod 256))), (IntKind.u8.wrap ((IntKind.i64.wrap ((IntKind.i64.wrap (2 * a3)) + 128))))]).length) then
              g_f35 k a3 a4 (fun v15 =>
                bif room 1 ((v3 ++ ([(IntKind.u8.wrap ((IntKind.i64.wrap (a1.tdiv 256)))), (IntKind.u8.wrap ((a1.tmod 256))), (IntKind.u8.wrap ((IntKind.i64.wrap ((IntKind.i64.wrap (2 * a3)) + 128))))])).length + v15.length) then
                  f11_l14 g_f13 g_f34 g_f35 k 0 a0 a1 a2 a3 a4 ((v3 ++ ([(IntKind.u8.wrap ((IntKind.i64.wrap (a1.tdiv 256)))), (IntKind.u8.wrap ((a1.tmod 256))), (IntKind.u8.wrap ((IntKind.i64.wrap ((IntKind.i64.wrap (2 * a3)) + 128))))])) ++ v15) (fun v16 =>
                    K 0 v16)
                else
                  none)
            else
              none
          else
            bif room 1 (v3.length + ([(IntKind.u8.wrap ((IntKind.i64.wrap (a1.tdiv 256)))), (IntKind.u8.wrap ((a1.tmod 256))), (IntKind.u8.wrap ((IntKind.i64.wrap (2 * a3))))]).length) then
              g_f35 k a3 a4 (fun v17 =>
                bif room 1 ((v3 ++ ([(IntKind.u8.wrap ((IntKind.i64.wrap (a1.tdiv 256)))), (IntKind.u8.wrap ((a1.tmod 256))), (IntKind.u8.wrap ((IntKind.i64.wrap (2 * a3))))])).length + v17.length) then
                  f11_l14 g_f13 g_f34 g_f35 k 0 a0 a1 a2 a3 a4 ((v3 ++ ([(IntKind.u8.wrap ((IntKind.i64.wrap (a1.tdiv 256)))), (IntKind.u8.wrap ((a1.tmod 256))), (IntKind.u8.wrap ((IntKind.i64.wrap (2 * a3))))])) ++ v17) (fun v18 =>
                    K 0 v18)
                else
                  none)
            else
              none))
noncomputable def f11 {R : Type} (k : Nat) (a0 : Int) (a1 : Int) (a2 : Bool) (a3 : Int) (a4 : List (List Int)) (K : Int → List Int → Option R) : Option R := f11_s (f13 (R := R)) (f34 (R := R)) (f35 (R := R)) k a0 a1 a2 a3 a4 K
noncomputable def f11_o {R : Type} (g_f13 : Nat → Int → Int → Bool → Int → List (List Int) → (Int → Option R) → Option R) (g_f34 : Nat → Int → Int → (Int → List Int → Option R) → Option R) (g_f35 : Nat → Int → List (List Int) → (List Int → Option R) → Option R) (k : Nat) : Orc D R := (orcAdd 35 (f35_d (g_f35 k) noDr) (orcAdd 34 (f34_d (g_f34 k) noDr) (orcAdd 13 (f13_d (g_f13 k) noDr) noOrc)))
theorem f11_o_ok {R : Type} (k : Nat) : OrcOk Try.prog cx (f11_o (R := R) (f13 (R := R)) (f34 (R := R)) (f35 (R := R)) k) := (OrcOk.add (f35_ok k FnOk.no) (OrcOk.add (f34_ok k FnOk.no) (OrcOk.add (f13_ok k FnOk.no) OrcOk.no)))
noncomputable def f11_b : Code := bodyOf Try.f11
noncomputable def f11_l14_a : LAnn := ⟨⟨[(.tmp 5, .own 68719534080 (.int .u8))], [1, 5, 9], [65568, 68719534080]⟩, exOf (none) [(0, ⟨[], [5], [68719534080]⟩)]⟩
noncomputable def f11_ann : Nat → Option LAnn := fun key => bif Nat.beq key 14 then some f11_l14_a else none
noncomputable def f11_l14_b : Code := loopAt f11_b 0
noncomputable def f11_l14_g {R : Type} (g_f13 : Nat → Int → Int → Bool → Int → List (List Int) → (Int → Option R) → Option R) (g_f34 : Nat → Int → Int → (Int → List Int → Option R) → Option R) (g_f35 : Nat → Int → List (List Int) → (List Int → Option R) → Option R) (k : Nat) (x : (Unit × Unit × Int × Unit)) (y : ((Int × Int × Bool × Int × List (List Int) × Unit) × List Int × Unit)) (K : Ex → List (PV D) → List (Option (Am.Obj D)) → Option R) : Option R := f11_l14 g_f13 g_f34 g_f35 k x.2.2.1 y.1.1 y.1.2.1 y.1.2.2.1 y.1.2.2.2.1 y.1.2.2.2.2.1 y.2.1 (fun z0 => K (.exit 0) [.own 68719534080] [some (.row (.int .u8) z0 true)])
noncomputable def f11_l14_d {R : Type} (g_f13 : Nat → Int → Int → Bool → Int → List (List Int) → (Int → Option R) → Option R) (g_f34 : Nat → Int → Int → (Int → List Int → Option R) → Option R) (g_f35 : Nat → Int → List (List Int) → (List Int → Option R) → Option R) (k : Nat) : Lr D R := ldoor [.ptr 65568 0, .own 68719534080, .int .i64] [some (.box [.int .i64, .int .i64, .bool, .int .i64, .list (.slice (.int .u8))]), some (.row (.int .u8) true)] (f11_l14_g g_f13 g_f34 g_f35 k)
noncomputable def f11_l14_lrc {R : Type} (_g_f13 : Nat → Int → Int → Bool → Int → List (List Int) → (Int → Option R) → Option R) (_g_f34 : Nat → Int → Int → (Int → List Int → Option R) → Option R) (_g_f35 : Nat → Int → List (List Int) → (List Int → Option R) → Option R) (_k : Nat) : Lrc D R := noLrc
theorem f11_l14_e {R : Type} (g_f13 : Nat → Int → Int → Bool → Int → List (List Int) → (Int → Option R) → Option R) (g_f34 : Nat → Int → Int → (Int → List Int → Option R) → Option R) (g_f35 : Nat → Int → List (List Int) → (List Int → Option R) → Option R) (k : Nat) (x : (Unit × Unit × Int × Unit)) (y : ((Int × Int × Bool × Int × List (List Int) × Unit) × List Int × Unit)) (K : Ex → List (PV D) → List (Option (Am.Obj D)) → Option R) : f11_l14_g g_f13 g_f34 g_f35 (k + 1) x y K = round cx (f11_o g_f13 g_f34 g_f35 k) (f11_l14_lrc g_f13 g_f34 g_f35 k) f11_ann kp 67 0 f11_l14_a f11_l14_b (gives (D := D) [.ptr 65568 0, .own 68719534080, .int .i64] x) (giveGs (D := D) [some (.box [.int .i64, .int .i64, .bool, .int .i64, .list (.slice (.int .u8))]), some (.row (.int .u8) true)] y) (fun vs os => f11_l14_d g_f13 g_f34 g_f35 k vs os K) K := by kernel_rfl
theorem f11_l14_d_ok {R : Type} : ∀ k, LoopOk Try.prog cx 67 0 f11_ann (f11_l14_d (R := R) (f13 (R := R)) (f34 (R := R)) (f35 (R := R)) k) f11_l14_b :=
  loop_ok (keep := kp) (lrc := f11_l14_lrc (R := R) (f13 (R := R)) (f34 (R := R)) (f35 (R := R))) cxOk mixed f11_o_ok (show f11_ann (Am.keyOf f11_l14_b) = some f11_l14_a by kernel_rfl) (L := []) (by kernel_rfl) (fun k => trivial) (fun k => LrcNat.no) (fun x y K => by kernel_rfl) (f11_l14_e (f13 (R := R)) (f34 (R := R)) (f35 (R := R)))
noncomputable def f11_lrc {R : Type} (g_f13 : Nat → Int → Int → Bool → Int → List (List Int) → (Int → Option R) → Option R) (g_f34 : Nat → Int → Int → (Int → List Int → Option R) → Option R) (g_f35 : Nat → Int → List (List Int) → (List Int → Option R) → Option R) (k : Nat) : Lrc D R := (lrcAdd 14 (f11_l14_d g_f13 g_f34 g_f35 k) noLrc)
noncomputable def f11_d {R : Type} (g : Int → Int → Bool → Int → List (List Int) → (Int → List Int → Option R) → Option R) (e : Dr D R) : Dr D R := door [.agg [.int .i64, .int .i64, .bool, .int .i64, .list (.slice (.int .u8))]] [] (fun (x : ((Int × Int × Bool × Int × List (List Int) × Unit) × Unit)) (_y : (Unit)) K => g x.1.1 x.1.2.1 x.1.2.2.1 x.1.2.2.2.1 x.1.2.2.2.2.1 (fun z0 z1 => K ⟨.tup [.own 0, .int .i64 z0], [some (.row (.int .u8) z1 true)]⟩)) e
theorem f11_e {R : Type} (g_f13 : Nat → Int → Int → Bool → Int → List (List Int) → (Int → Option R) → Option R) (g_f34 : Nat → Int → Int → (Int → List Int → Option R) → Option R) (g_f35 : Nat → Int → List (List Int) → (List Int → Option R) → Option R) (k : Nat) (x : ((Int × Int × Bool × Int × List (List Int) × Unit) × Unit)) (y : (Unit)) (K : RV D → Option R) : f11_s g_f13 g_f34 g_f35 k x.1.1 x.1.2.1 x.1.2.2.1 x.1.2.2.2.1 x.1.2.2.2.2.1 (fun z0 z1 => K ⟨.tup [.own 0, .int .i64 z0], [some (.row (.int .u8) z1 true)]⟩) = exec cx (f11_o g_f13 g_f34 g_f35 k) (f11_lrc g_f13 g_f34 g_f35 k) f11_ann kp 67 0 f11_b (entry (gives (D := D) [.agg [.int .i64, .int .i64, .bool, .int .i64, .list (.slice (.int .u8))]] x) (giveOs (D := D) [] y)) (fin cx Try.f11.results.toList [(.tmp 2, .own 1099511627776 (.int .u8))] 0 K) := by kernel_rfl
theorem f11_ok {R : Type} (k : Nat) {e : Dr D R} (he : FnOk Try.prog cx 11 e) : FnOk Try.prog cx 11 (f11_d (f11 k) e) :=
  he.door fun x y => body_ok (keep := kp) (ann := f11_ann) (lrc := f11_lrc (R := R) (f13 (R := R)) (f34 (R := R)) (f35 (R := R)) k) (N := 67) (n0 := 0) (c := [(.tmp 2, .own 1099511627776 (.int .u8))]) cxOk mixed (f11_o_ok k) (body := f11_b) (by kernel_rfl : Try.prog.funcs[11]? = some Try.f11) (by kernel_rfl) (by kernel_rfl) (by kernel_rfl) (by kernel_rfl) (of_decide_eq_true (by kernel_rfl)) (L := [f11_l14_b]) (by kernel_rfl) ⟨(f11_l14_d_ok k).use (by kernel_rfl), trivial⟩ ((LrcNat.add (f11_l14_d_ok k).2 LrcNat.no)) (fun K => f11_e (f13 (R := R)) (f34 (R := R)) (f35 (R := R)) k x y K)

/-! ## 14: diorama/dioramaref00.EqBytes -/
noncomputable def f14_l4 {R : Type} : Nat → List Int → List Int → Int → Option R → (Bool → Option R) → Option R
  | 0, _, _, _, _, _ => none
  | k + 1, v1, v2, v3, X0, X1 =>
    bif decide (v3 < (v1.length : Int)) then
      bif inb v3 v1.length then
        bif inb v3 v2.length then
          bif ((v1.getD v3.toNat 0) != (v2.getD v3.toNat 0)) then
            X1 false
          else
            f14_l4 k v1 v2 (IntKind.i64.wrap (v3 + 1)) X0 X1
        else
          none
      else
        none
    else
      X0
noncomputable def f14_s {R : Type} (k : Nat) (a0 : List Int) (a1 : List Int) (K : Bool → Option R) : Option R :=
  bif ((a0.length : Int) != (a1.length : Int)) then
    K false
  else
    f14_l4 k a0 a1 0 (
      K true) (fun v4 =>
      K v4)
noncomputable def f14 {R : Type} (k : Nat) (a0 : List Int) (a1 : List Int) (K : Bool → Option R) : Option R := f14_s k a0 a1 K
noncomputable def f14_o {R : Type} (_k : Nat) : Orc D R := noOrc
theorem f14_o_ok {R : Type} (k : Nat) : OrcOk Try.prog cx (f14_o (R := R) k) := OrcOk.no
noncomputable def f14_b : Code := bodyOf Try.f14
noncomputable def f14_l4_a : LAnn := ⟨⟨[], [0, 1, 5], []⟩, exOf (some ⟨[], [4], []⟩) [(0, ⟨[], [], []⟩)]⟩
noncomputable def f14_ann : Nat → Option LAnn := fun key => bif Nat.beq key 4 then some f14_l4_a else none
noncomputable def f14_l4_b : Code := loopAt f14_b 0
noncomputable def f14_l4_g {R : Type} (k : Nat) (x : (List Int × List Int × Int × Unit)) (_y : (Unit)) (K : Ex → List (PV D) → List (Option (Am.Obj D)) → Option R) : Option R := f14_l4 k x.1 x.2.1 x.2.2.1 (K (.exit 0) [] []) (fun z0 => K (.ret) [.bool z0] [])
noncomputable def f14_l4_d {R : Type} (k : Nat) : Lr D R := ldoor [.list (.int .u8), .list (.int .u8), .int .i64] [] (f14_l4_g k)
noncomputable def f14_l4_lrc {R : Type} (_k : Nat) : Lrc D R := noLrc
theorem f14_l4_e {R : Type} (k : Nat) (x : (List Int × List Int × Int × Unit)) (y : (Unit)) (K : Ex → List (PV D) → List (Option (Am.Obj D)) → Option R) : f14_l4_g (k + 1) x y K = round cx (f14_o k) (f14_l4_lrc k) f14_ann kp 26 0 f14_l4_a f14_l4_b (gives (D := D) [.list (.int .u8), .list (.int .u8), .int .i64] x) (giveGs (D := D) [] y) (fun vs os => f14_l4_d k vs os K) K := by kernel_rfl
theorem f14_l4_d_ok {R : Type} : ∀ k, LoopOk Try.prog cx 26 0 f14_ann (f14_l4_d (R := R) k) f14_l4_b :=
  loop_ok (keep := kp) (lrc := f14_l4_lrc (R := R)) cxOk mixed f14_o_ok (show f14_ann (Am.keyOf f14_l4_b) = some f14_l4_a by kernel_rfl) (L := []) (by kernel_rfl) (fun k => trivial) (fun k => LrcNat.no) (fun x y K => by kernel_rfl) (f14_l4_e)
noncomputable def f14_lrc {R : Type} (k : Nat) : Lrc D R := (lrcAdd 4 (f14_l4_d k) noLrc)
noncomputable def f14_d {R : Type} (g : List Int → List Int → (Bool → Option R) → Option R) (e : Dr D R) : Dr D R := door [.list (.int .u8), .list (.int .u8)] [] (fun (x : (List Int × List Int × Unit)) (_y : (Unit)) K => g x.1 x.2.1 (fun z0 => K ⟨.bool z0, []⟩)) e
theorem f14_e {R : Type} (k : Nat) (x : (List Int × List Int × Unit)) (y : (Unit)) (K : RV D → Option R) : f14_s k x.1 x.2.1 (fun z0 => K ⟨.bool z0, []⟩) = exec cx (f14_o k) (f14_lrc k) f14_ann kp 26 0 f14_b (entry (gives (D := D) [.list (.int .u8), .list (.int .u8)] x) (giveOs (D := D) [] y)) (fin cx Try.f14.results.toList [] 0 K) := by kernel_rfl
theorem f14_ok {R : Type} (k : Nat) {e : Dr D R} (he : FnOk Try.prog cx 14 e) : FnOk Try.prog cx 14 (f14_d (f14 k) e) :=
  he.door fun x y => body_ok (keep := kp) (ann := f14_ann) (lrc := f14_lrc (R := R) k) (N := 26) (n0 := 0) (c := []) cxOk mixed (f14_o_ok k) (body := f14_b) (by kernel_rfl : Try.prog.funcs[14]? = some Try.f14) (by kernel_rfl) (by kernel_rfl) (by kernel_rfl) (by kernel_rfl) (of_decide_eq_true (by kernel_rfl)) (L := [f14_l4_b]) (by kernel_rfl) ⟨(f14_l4_d_ok k).use (by kernel_rfl), trivial⟩ ((LrcNat.add (f14_l4_d_ok k).2 LrcNat.no)) (fun K => f14_e k x y K)

/-! ## 72: math/bits.Len8 -/
noncomputable def f72_s {R : Type} (_k : Nat) (a0 : Int) (K : Int → Option R) : Option R :=
  bif inb a0 lit0.size then
    K (IntKind.i64.wrap (((lit0.data.toList.getD a0.toNat 0).toNat : Int)))
  else
    none
noncomputable def f72 {R : Type} (k : Nat) (a0 : Int) (K : Int → Option R) : Option R := f72_s k a0 K
noncomputable def f72_o {R : Type} (_k : Nat) : Orc D R := noOrc
theorem f72_o_ok {R : Type} (k : Nat) : OrcOk Try.prog cx (f72_o (R := R) k) := OrcOk.no
noncomputable def f72_b : Code := bodyOf Try.f72
noncomputable def f72_ann : Nat → Option LAnn := fun _key => none
noncomputable def f72_lrc {R : Type} (_k : Nat) : Lrc D R := noLrc
noncomputable def f72_d {R : Type} (g : Int → (Int → Option R) → Option R) (e : Dr D R) : Dr D R := door [.int .u8] [] (fun (x : (Int × Unit)) (_y : (Unit)) K => g x.1 (fun z0 => K ⟨.int .i64 z0, []⟩)) e
theorem f72_e {R : Type} (k : Nat) (x : (Int × Unit)) (y : (Unit)) (K : RV D → Option R) : f72_s k x.1 (fun z0 => K ⟨.int .i64 z0, []⟩) = exec cx (f72_o k) (f72_lrc k) f72_ann kp 6 0 f72_b (entry (gives (D := D) [.int .u8] x) (giveOs (D := D) [] y)) (fin cx Try.f72.results.toList [] 0 K) := by kernel_rfl
theorem f72_ok {R : Type} (k : Nat) {e : Dr D R} (he : FnOk Try.prog cx 72 e) : FnOk Try.prog cx 72 (f72_d (f72 k) e) :=
  he.door fun x y => body_ok (keep := kp) (ann := f72_ann) (lrc := f72_lrc (R := R) k) (N := 6) (n0 := 0) (c := []) cxOk mixed (f72_o_ok k) (body := f72_b) (by kernel_rfl : Try.prog.funcs[72]? = some Try.f72) (by kernel_rfl) (by kernel_rfl) (by kernel_rfl) (by kernel_rfl) (of_decide_eq_true (by kernel_rfl)) (L := []) (by kernel_rfl) trivial (LrcNat.no) (fun K => f72_e k x y K)

/-! ## 65: math/bits.LeadingZeros8 -/
noncomputable def f65_s {R : Type} (g_f72 : Nat → Int → (Int → Option R) → Option R) (k : Nat) (a0 : Int) (K : Int → Option R) : Option R :=
  g_f72 k a0 (fun v1 =>
    K (IntKind.i64.wrap (8 - v1)))
noncomputable def f65 {R : Type} (k : Nat) (a0 : Int) (K : Int → Option R) : Option R := f65_s (f72 (R := R)) k a0 K
noncomputable def f65_o {R : Type} (g_f72 : Nat → Int → (Int → Option R) → Option R) (k : Nat) : Orc D R := (orcAdd 72 (f72_d (g_f72 k) noDr) noOrc)
theorem f65_o_ok {R : Type} (k : Nat) : OrcOk Try.prog cx (f65_o (R := R) (f72 (R := R)) k) := (OrcOk.add (f72_ok k FnOk.no) OrcOk.no)
noncomputable def f65_b : Code := bodyOf Try.f65
noncomputable def f65_ann : Nat → Option LAnn := fun _key => none
noncomputable def f65_lrc {R : Type} (_g_f72 : Nat → Int → (Int → Option R) → Option R) (_k : Nat) : Lrc D R := noLrc
noncomputable def f65_d {R : Type} (g : Int → (Int → Option R) → Option R) (e : Dr D R) : Dr D R := door [.int .u8] [] (fun (x : (Int × Unit)) (_y : (Unit)) K => g x.1 (fun z0 => K ⟨.int .i64 z0, []⟩)) e
theorem f65_e {R : Type} (g_f72 : Nat → Int → (Int → Option R) → Option R) (k : Nat) (x : (Int × Unit)) (y : (Unit)) (K : RV D → Option R) : f65_s g_f72 k x.1 (fun z0 => K ⟨.int .i64 z0, []⟩) = exec cx (f65_o g_f72 k) (f65_lrc g_f72 k) f65_ann kp 6 0 f65_b (entry (gives (D := D) [.int .u8] x) (giveOs (D := D) [] y)) (fin cx Try.f65.results.toList [] 0 K) := by kernel_rfl
theorem f65_ok {R : Type} (k : Nat) {e : Dr D R} (he : FnOk Try.prog cx 65 e) : FnOk Try.prog cx 65 (f65_d (f65 k) e) :=
  he.door fun x y => body_ok (keep := kp) (ann := f65_ann) (lrc := f65_lrc (R := R) (f72 (R := R)) k) (N := 6) (n0 := 0) (c := []) cxOk mixed (f65_o_ok k) (body := f65_b) (by kernel_rfl : Try.prog.funcs[65]? = some Try.f65) (by kernel_rfl) (by kernel_rfl) (by kernel_rfl) (by kernel_rfl) (of_decide_eq_true (by kernel_rfl)) (L := []) (by kernel_rfl) trivial (LrcNat.no) (fun K => f65_e (f72 (R := R)) k x y K)

/-! ## 54: diorama/bits.Vint -/
noncomputable def f54_l12 {R : Type} (g_f45 : Nat → Int → (Int → Option R) → Option R) (g_f65 : Nat → Int → (Int → Option R) → Option R) : Nat → Int → Int → List Int → Int → Int → (Int → Int → Option R) → Option R
  | 0, _, _, _, _, _, _ => none
  | k + 1, v2, v3, v4, v5, v6, X0 =>
    bif decide (v6 < v5) then
      bif inb v6 v4.length then
        f54_l12 g_f45 g_f65 k (orI .i64 (shlI .i64 v2 8) (IntKind.i64.wrap ((v4.getD v6.toNat 0)))) v3 v4 v5 (IntKind.i64.wrap (v6 + 1)) X0
      else
        none
    else
      X0 v2 v3
noncomputable def f54_s {R : Type} (g_f45 : Nat → Int → (Int → Option R) → Option R) (g_f65 : Nat → Int → (Int → Option R) → Option R) (k : Nat) (a0 : List Int) (a1 : Int) (K : Int → Int → Bool → Int → Option R) : Option R :=
  bif decide (a1 < 0) then
    K 0 0 false 1
  else
    bif decide (a1 ≥ (a0.length : Int)) then
      K 0 0 false 3
    else
      bif inb a1 a0.length then
        bif ((a0.getD a1.toNat 0) == 0) then
          K 0 0 false 4
        else
          bif inb a1 a0.length then
            g_f65 k (a0.getD a1.toNat 0) (fun v1 =>
              bif decide ((IntKind.i64.wrap ((a0.length : Int) - a1)) < (IntKind.i64.wrap (v1 + 1))) then
                K 0 0 false 3
              else
                bif inb a1 a0.length then
                  bif decide ((IntKind.i64.wrap (v1 + 1)) < 0) then
                    none
                  else
                    bif upto (IntKind.i64.wrap (a1 + (IntKind.i64.wrap (v1 + 1)))) a0.length then
                      bif (decide (0 ≤ (IntKind.i64.wrap (a1 + 1)))) && (decide ((IntKind.i64.wrap (a1 + 1)) ≤ (IntKind.i64.wrap (a1 + (IntKind.i64.wrap (v1 + 1)))))) then
                        f54_l12 g_f45 g_f65 k (andI .i64 (IntKind.i64.wrap ((a0.getD a1.toNat 0))) (shrI .i64 255 (IntKind.i64.wrap (v1 + 1)))) (IntKind.i64.wrap (v1 + 1)) ((a0.take ((IntKind.i64.wrap (a1 + (IntKind.i64.wrap (v1 + 1)))).toNat)).drop ((IntKind.i64.wrap (a1 + 1)).toNat)) (((a0.take ((IntKind.i64.wrap (a1 + (IntKind.i64.wrap (v1 + 1)))).toNat)).drop ((IntKind.i64.wrap (a1 + 1)).toNat)).length : Int) 0 (fun v7 v8 =>
                          g_f45 k v8 (fun v9 =>
                            bif (v7 == v9) then
                              K 0 v8 true 0
                            else
                              K v7 v8 false 0))
                      else
                        none
                    else
                      none
                else
                  none)
          else
            none
      else
        none
noncomputable def f54 {R : Type} (k : Nat) (a0 : List Int) (a1 : Int) (K : Int → Int → Bool → Int → Option R) : Option R := f54_s (f45 (R := R)) (f65 (R := R)) k a0 a1 K
noncomputable def f54_o {R : Type} (g_f45 : Nat → Int → (Int → Option R) → Option R) (g_f65 : Nat → Int → (Int → Option R) → Option R) (k : Nat) : Orc D R := (orcAdd 65 (f65_d (g_f65 k) noDr) (orcAdd 45 (f45_d (g_f45 k) noDr) noOrc))
theorem f54_o_ok {R : Type} (k : Nat) : OrcOk Try.prog cx (f54_o (R := R) (f45 (R := R)) (f65 (R := R)) k) := (OrcOk.add (f65_ok k FnOk.no) (OrcOk.add (f45_ok k FnOk.no) OrcOk.no))
noncomputable def f54_b : Code := bodyOf Try.f54
noncomputable def f54_l12_a : LAnn := ⟨⟨[], [4, 5, 47, 48, 49], []⟩, exOf (none) [(0, ⟨[], [4, 5], []⟩)]⟩
noncomputable def f54_ann : Nat → Option LAnn := fun key => bif Nat.beq key 12 then some f54_l12_a else none
noncomputable def f54_l12_b : Code := loopAt f54_b 0
noncomputable def f54_l12_g {R : Type} (g_f45 : Nat → Int → (Int → Option R) → Option R) (g_f65 : Nat → Int → (Int → Option R) → Option R) (k : Nat) (x : (Int × Int × List Int × Int × Int × Unit)) (_y : (Unit)) (K : Ex → List (PV D) → List (Option (Am.Obj D)) → Option R) : Option R := f54_l12 g_f45 g_f65 k x.1 x.2.1 x.2.2.1 x.2.2.2.1 x.2.2.2.2.1 (fun z0 z1 => K (.exit 0) [.int .i64 z0, .int .i64 z1] [])
noncomputable def f54_l12_d {R : Type} (g_f45 : Nat → Int → (Int → Option R) → Option R) (g_f65 : Nat → Int → (Int → Option R) → Option R) (k : Nat) : Lr D R := ldoor [.int .i64, .int .i64, .list (.int .u8), .int .i64, .int .i64] [] (f54_l12_g g_f45 g_f65 k)
noncomputable def f54_l12_lrc {R : Type} (_g_f45 : Nat → Int → (Int → Option R) → Option R) (_g_f65 : Nat → Int → (Int → Option R) → Option R) (_k : Nat) : Lrc D R := noLrc
theorem f54_l12_e {R : Type} (g_f45 : Nat → Int → (Int → Option R) → Option R) (g_f65 : Nat → Int → (Int → Option R) → Option R) (k : Nat) (x : (Int × Int × List Int × Int × Int × Unit)) (y : (Unit)) (K : Ex → List (PV D) → List (Option (Am.Obj D)) → Option R) : f54_l12_g g_f45 g_f65 (k + 1) x y K = round cx (f54_o g_f45 g_f65 k) (f54_l12_lrc g_f45 g_f65 k) f54_ann kp 66 0 f54_l12_a f54_l12_b (gives (D := D) [.int .i64, .int .i64, .list (.int .u8), .int .i64, .int .i64] x) (giveGs (D := D) [] y) (fun vs os => f54_l12_d g_f45 g_f65 k vs os K) K := by kernel_rfl
theorem f54_l12_d_ok {R : Type} : ∀ k, LoopOk Try.prog cx 66 0 f54_ann (f54_l12_d (R := R) (f45 (R := R)) (f65 (R := R)) k) f54_l12_b :=
  loop_ok (keep := kp) (lrc := f54_l12_lrc (R := R) (f45 (R := R)) (f65 (R := R))) cxOk mixed f54_o_ok (show f54_ann (Am.keyOf f54_l12_b) = some f54_l12_a by kernel_rfl) (L := []) (by kernel_rfl) (fun k => trivial) (fun k => LrcNat.no) (fun x y K => by kernel_rfl) (f54_l12_e (f45 (R := R)) (f65 (R := R)))
noncomputable def f54_lrc {R : Type} (g_f45 : Nat → Int → (Int → Option R) → Option R) (g_f65 : Nat → Int → (Int → Option R) → Option R) (k : Nat) : Lrc D R := (lrcAdd 12 (f54_l12_d g_f45 g_f65 k) noLrc)
noncomputable def f54_d {R : Type} (g : List Int → Int → (Int → Int → Bool → Int → Option R) → Option R) (e : Dr D R) : Dr D R := door [.list (.int .u8), .int .i64] [] (fun (x : (List Int × Int × Unit)) (_y : (Unit)) K => g x.1 x.2.1 (fun z0 z1 z2 z3 => K ⟨.tup [.int .i64 z0, .int .i64 z1, .bool z2, .int .i64 z3], []⟩)) e
theorem f54_e {R : Type} (g_f45 : Nat → Int → (Int → Option R) → Option R) (g_f65 : Nat → Int → (Int → Option R) → Option R) (k : Nat) (x : (List Int × Int × Unit)) (y : (Unit)) (K : RV D → Option R) : f54_s g_f45 g_f65 k x.1 x.2.1 (fun z0 z1 z2 z3 => K ⟨.tup [.int .i64 z0, .int .i64 z1, .bool z2, .int .i64 z3], []⟩) = exec cx (f54_o g_f45 g_f65 k) (f54_lrc g_f45 g_f65 k) f54_ann kp 66 0 f54_b (entry (gives (D := D) [.list (.int .u8), .int .i64] x) (giveOs (D := D) [] y)) (fin cx Try.f54.results.toList [] 0 K) := by kernel_rfl
theorem f54_ok {R : Type} (k : Nat) {e : Dr D R} (he : FnOk Try.prog cx 54 e) : FnOk Try.prog cx 54 (f54_d (f54 k) e) :=
  he.door fun x y => body_ok (keep := kp) (ann := f54_ann) (lrc := f54_lrc (R := R) (f45 (R := R)) (f65 (R := R)) k) (N := 66) (n0 := 0) (c := []) cxOk mixed (f54_o_ok k) (body := f54_b) (by kernel_rfl : Try.prog.funcs[54]? = some Try.f54) (by kernel_rfl) (by kernel_rfl) (by kernel_rfl) (by kernel_rfl) (of_decide_eq_true (by kernel_rfl)) (L := [f54_l12_b]) (by kernel_rfl) ⟨(f54_l12_d_ok k).use (by kernel_rfl), trivial⟩ ((LrcNat.add (f54_l12_d_ok k).2 LrcNat.no)) (fun K => f54_e (f45 (R := R)) (f65 (R := R)) k x y K)

/-! ## 68: slices.Clone[[]int,int] -/
noncomputable def f68_s {R : Type} (_k : Nat) (K : List Int → Option R) : Option R :=
  K ([] : List Int)
noncomputable def f68 {R : Type} (k : Nat) (K : List Int → Option R) : Option R := f68_s k K
noncomputable def f68_o {R : Type} (_k : Nat) : Orc D R := noOrc
theorem f68_o_ok {R : Type} (k : Nat) : OrcOk Try.prog cx (f68_o (R := R) k) := OrcOk.no
noncomputable def f68_b : Code := bodyOf Try.f68
noncomputable def f68_ann : Nat → Option LAnn := fun _key => none
noncomputable def f68_lrc {R : Type} (_k : Nat) : Lrc D R := noLrc
noncomputable def f68_d {R : Type} (g : (List Int → Option R) → Option R) (e : Dr D R) : Dr D R := door [.nil] [] (fun (_x : (Unit × Unit)) (_y : (Unit)) K => g (fun z0 => K ⟨.own 0, [some (.row (.int .i64) z0 true)]⟩)) e
theorem f68_e {R : Type} (k : Nat) (x : (Unit × Unit)) (y : (Unit)) (K : RV D → Option R) : f68_s k  (fun z0 => K ⟨.own 0, [some (.row (.int .i64) z0 true)]⟩) = exec cx (f68_o k) (f68_lrc k) f68_ann kp 8 0 f68_b (entry (gives (D := D) [.nil] x) (giveOs (D := D) [] y)) (fin cx Try.f68.results.toList [(.tmp 2, .own 1099511627776 (.int .i64))] 0 K) := by kernel_rfl
theorem f68_ok {R : Type} (k : Nat) {e : Dr D R} (he : FnOk Try.prog cx 68 e) : FnOk Try.prog cx 68 (f68_d (f68 k) e) :=
  he.door fun x y => body_ok (keep := kp) (ann := f68_ann) (lrc := f68_lrc (R := R) k) (N := 8) (n0 := 0) (c := [(.tmp 2, .own 1099511627776 (.int .i64))]) cxOk mixed (f68_o_ok k) (body := f68_b) (by kernel_rfl : Try.prog.funcs[68]? = some Try.f68) (by kernel_rfl) (by kernel_rfl) (by kernel_rfl) (by kernel_rfl) (of_decide_eq_true (by kernel_rfl)) (L := []) (by kernel_rfl) trivial (LrcNat.no) (fun K => f68_e k x y K)

/-! ## 68: slices.Clone[[]int,int] -/
noncomputable def f68_2_s {R : Type} (_k : Nat) (a0 : List Int) (K : List Int → Option R) : Option R :=
  bif room 8 (([] : List Int).length + a0.length) then
    K a0
  else
    none
noncomputable def f68_2 {R : Type} (k : Nat) (a0 : List Int) (K : List Int → Option R) : Option R := f68_2_s k a0 K
noncomputable def f68_2_o {R : Type} (_k : Nat) : Orc D R := noOrc
theorem f68_2_o_ok {R : Type} (k : Nat) : OrcOk Try.prog cx (f68_2_o (R := R) k) := OrcOk.no
noncomputable def f68_2_b : Code := bodyOf Try.f68
noncomputable def f68_2_ann : Nat → Option LAnn := fun _key => none
noncomputable def f68_2_lrc {R : Type} (_k : Nat) : Lrc D R := noLrc
noncomputable def f68_2_d {R : Type} (g : List Int → (List Int → Option R) → Option R) (e : Dr D R) : Dr D R := door [.full (.int .i64)] [] (fun (x : (List Int × Unit)) (_y : (Unit)) K => g x.1 (fun z0 => K ⟨.own 0, [some (.row (.int .i64) z0 true)]⟩)) e
theorem f68_2_e {R : Type} (k : Nat) (x : (List Int × Unit)) (y : (Unit)) (K : RV D → Option R) : f68_2_s k x.1 (fun z0 => K ⟨.own 0, [some (.row (.int .i64) z0 true)]⟩) = exec cx (f68_2_o k) (f68_2_lrc k) f68_2_ann kp 8 0 f68_2_b (entry (gives (D := D) [.full (.int .i64)] x) (giveOs (D := D) [] y)) (fin cx Try.f68.results.toList [(.tmp 2, .own 1099511627776 (.int .i64))] 0 K) := by kernel_rfl
theorem f68_2_ok {R : Type} (k : Nat) {e : Dr D R} (he : FnOk Try.prog cx 68 e) : FnOk Try.prog cx 68 (f68_2_d (f68_2 k) e) :=
  he.door fun x y => body_ok (keep := kp) (ann := f68_2_ann) (lrc := f68_2_lrc (R := R) k) (N := 8) (n0 := 0) (c := [(.tmp 2, .own 1099511627776 (.int .i64))]) cxOk mixed (f68_2_o_ok k) (body := f68_2_b) (by kernel_rfl : Try.prog.funcs[68]? = some Try.f68) (by kernel_rfl) (by kernel_rfl) (by kernel_rfl) (by kernel_rfl) (of_decide_eq_true (by kernel_rfl)) (L := []) (by kernel_rfl) trivial (LrcNat.no) (fun K => f68_2_e k x y K)
noncomputable def f68_2L_d {R : Type} (g : List Int → (List Int → Option R) → Option R) (e : Dr D R) : Dr D R := door [.list (.int .i64)] [] (fun (x : (List Int × Unit)) (_y : Unit) K => g x.1 (fun z0 => K ⟨.own 0, [some (.row (.int .i64) z0 true)]⟩)) e
theorem f68_2L_ok {R : Type} (k : Nat) {e : Dr D R} (he : FnOk Try.prog cx 68 e) : FnOk Try.prog cx 68 (f68_2L_d (f68_2 k) e) :=
  he.door fun x y => split_ok (fun K r h => (f68_2_ok k FnOk.no).1 [.full (.int .i64) x.1] [] K r h) (fun hx K r h => (f68_ok k FnOk.no).1 [.nil] [] K r (by have hx : x.1 = [] := hx; rw [hx] at h; exact h)) ((f68_2_ok k FnOk.no).2 [.full (.int .i64) x.1] [])

/-! ## 67: diorama/lace.sum -/
noncomputable def f67_s {R : Type} (_k : Nat) (a0 : Int) (a1 : Int) (K : Int → Option R) : Option R :=
  K (if (-1152921504606846976) < (if (IntKind.i64.wrap (a0 + a1)) < 1152921504606846976 then (IntKind.i64.wrap (a0 + a1)) else 1152921504606846976) then (if (IntKind.i64.wrap (a0 + a1)) < 1152921504606846976 then (IntKind.i64.wrap (a0 + a1)) else 1152921504606846976) else (-1152921504606846976))
noncomputable def f67 {R : Type} (k : Nat) (a0 : Int) (a1 : Int) (K : Int → Option R) : Option R := f67_s k a0 a1 K
noncomputable def f67_o {R : Type} (_k : Nat) : Orc D R := noOrc
theorem f67_o_ok {R : Type} (k : Nat) : OrcOk Try.prog cx (f67_o (R := R) k) := OrcOk.no
noncomputable def f67_b : Code := bodyOf Try.f67
noncomputable def f67_ann : Nat → Option LAnn := fun _key => none
noncomputable def f67_lrc {R : Type} (_k : Nat) : Lrc D R := noLrc
noncomputable def f67_d {R : Type} (g : Int → Int → (Int → Option R) → Option R) (e : Dr D R) : Dr D R := door [.int .i64, .int .i64] [] (fun (x : (Int × Int × Unit)) (_y : (Unit)) K => g x.1 x.2.1 (fun z0 => K ⟨.int .i64 z0, []⟩)) e
theorem f67_e {R : Type} (k : Nat) (x : (Int × Int × Unit)) (y : (Unit)) (K : RV D → Option R) : f67_s k x.1 x.2.1 (fun z0 => K ⟨.int .i64 z0, []⟩) = exec cx (f67_o k) (f67_lrc k) f67_ann kp 10 0 f67_b (entry (gives (D := D) [.int .i64, .int .i64] x) (giveOs (D := D) [] y)) (fin cx Try.f67.results.toList [] 0 K) := by kernel_rfl
theorem f67_ok {R : Type} (k : Nat) {e : Dr D R} (he : FnOk Try.prog cx 67 e) : FnOk Try.prog cx 67 (f67_d (f67 k) e) :=
  he.door fun x y => body_ok (keep := kp) (ann := f67_ann) (lrc := f67_lrc (R := R) k) (N := 10) (n0 := 0) (c := []) cxOk mixed (f67_o_ok k) (body := f67_b) (by kernel_rfl : Try.prog.funcs[67]? = some Try.f67) (by kernel_rfl) (by kernel_rfl) (by kernel_rfl) (by kernel_rfl) (of_decide_eq_true (by kernel_rfl)) (L := []) (by kernel_rfl) trivial (LrcNat.no) (fun K => f67_e k x y K)

/-! ## 66: diorama/bits.Signed -/
noncomputable def f66_s {R : Type} (g_f62 : Nat → Int → (Int → Option R) → Option R) (g_f54 : Nat → List Int → Int → (Int → Int → Bool → Int → Option R) → Option R) (k : Nat) (a0 : List Int) (a1 : Int) (K : Int → Int → Int → Option R) : Option R :=
  g_f54 k a0 a1 (fun v1 v2 v3 v4 =>
    bif (v4 != 0) then
      K 0 0 v4
    else
      bif v3 then
        K 0 0 4
      else
        g_f62 k v2 (fun v5 =>
          K (IntKind.i64.wrap (v1 - v5)) v2 0))
noncomputable def f66 {R : Type} (k : Nat) (a0 : List Int) (a1 : Int) (K : Int → Int → Int → Option R) : Option R := f66_s (f62 (R := R)) (f54 (R := R)) k a0 a1 K
noncomputable def f66_o {R : Type} (g_f62 : Nat → Int → (Int → Option R) → Option R) (g_f54 : Nat → List Int → Int → (Int → Int → Bool → Int → Option R) → Option R) (k : Nat) : Orc D R := (orcAdd 54 (f54_d (g_f54 k) noDr) (orcAdd 62 (f62_d (g_f62 k) noDr) noOrc))
theorem f66_o_ok {R : Type} (k : Nat) : OrcOk Try.prog cx (f66_o (R := R) (f62 (R := R)) (f54 (R := R)) k) := (OrcOk.add (f54_ok k FnOk.no) (OrcOk.add (f62_ok k FnOk.no) OrcOk.no))
noncomputable def f66_b : Code := bodyOf Try.f66
noncomputable def f66_ann : Nat → Option LAnn := fun _key => none
noncomputable def f66_lrc {R : Type} (_g_f62 : Nat → Int → (Int → Option R) → Option R) (_g_f54 : Nat → List Int → Int → (Int → Int → Bool → Int → Option R) → Option R) (_k : Nat) : Lrc D R := noLrc
noncomputable def f66_d {R : Type} (g : List Int → Int → (Int → Int → Int → Option R) → Option R) (e : Dr D R) : Dr D R := door [.list (.int .u8), .int .i64] [] (fun (x : (List Int × Int × Unit)) (_y : (Unit)) K => g x.1 x.2.1 (fun z0 z1 z2 => K ⟨.tup [.int .i64 z0, .int .i64 z1, .int .i64 z2], []⟩)) e
theorem f66_e {R : Type} (g_f62 : Nat → Int → (Int → Option R) → Option R) (g_f54 : Nat → List Int → Int → (Int → Int → Bool → Int → Option R) → Option R) (k : Nat) (x : (List Int × Int × Unit)) (y : (Unit)) (K : RV D → Option R) : f66_s g_f62 g_f54 k x.1 x.2.1 (fun z0 z1 z2 => K ⟨.tup [.int .i64 z0, .int .i64 z1, .int .i64 z2], []⟩) = exec cx (f66_o g_f62 g_f54 k) (f66_lrc g_f62 g_f54 k) f66_ann kp 26 0 f66_b (entry (gives (D := D) [.list (.int .u8), .int .i64] x) (giveOs (D := D) [] y)) (fin cx Try.f66.results.toList [] 0 K) := by kernel_rfl
theorem f66_ok {R : Type} (k : Nat) {e : Dr D R} (he : FnOk Try.prog cx 66 e) : FnOk Try.prog cx 66 (f66_d (f66 k) e) :=
  he.door fun x y => body_ok (keep := kp) (ann := f66_ann) (lrc := f66_lrc (R := R) (f62 (R := R)) (f54 (R := R)) k) (N := 26) (n0 := 0) (c := []) cxOk mixed (f66_o_ok k) (body := f66_b) (by kernel_rfl : Try.prog.funcs[66]? = some Try.f66) (by kernel_rfl) (by kernel_rfl) (by kernel_rfl) (by kernel_rfl) (of_decide_eq_true (by kernel_rfl)) (L := []) (by kernel_rfl) trivial (LrcNat.no) (fun K => f66_e (f62 (R := R)) (f54 (R := R)) k x y K)


end Go.Proofs.Ytnmoccdnkpkhhaa

/-! What the functions do, as plain functions; and that they do. -/
namespace Go.Proofs.Ytnmoccdnkpkhhaa
open Go Go.Am
/-! ## 55: (*diorama/lace.head).readSizes -/
noncomputable def f55_l17 {R : Type} (g_f54 : Nat → List Int → Int → (Int → Int → Bool → Int → Option R) → Option R) (g_f68_2 : Nat → List Int → (List Int → Option R) → Option R) (g_f67 : Nat → Int → Int → (Int → Option R) → Option R) (g_f66 : Nat → List Int → Int → (Int → Int → Int → Option R) → Option R) : Nat → List Int → Int → Int → Int → Int → Int → Bool → Int → Int → Int → List Int → (Int → Int → Bool → Int → Int → Int → List Int → Option R) → (Int → Int → Int → Bool → Int → Int → Int → Option R) → Option R
  | 0, _, _, _, _, _, _, _, _, _, _, _, _, _ => none
  | k + 1, v54, v55, v56, v57, v58, v59, v60, v61, v62, v63, v64, X0, X1 =>
    bif decide (v57 < v56) then
      bif (v57 == 0) then
        g_f54 k v54 v63 (fun v65 v66 v67 v68 =>
          bif v67 then
            X1 4 v58 v59 v60 v61 v62 v63
          else
            bif (v68 != 0) then
              X1 v68 v58 v59 v60 v61 v62 v63
            else
              g_f67 k v55 v65 (fun v69 =>
                bif (inb v57 32) && (inb v57 v64.length) then
                  f55_l17 g_f54 g_f68_2 g_f67 g_f66 k v54 v69 v56 (IntKind.i64.wrap (v57 + 1)) v58 v59 v60 v61 v62 (IntKind.i64.wrap (v63 + v66)) (v64.set v57.toNat v69) X0 X1
                else
                  none))
      else
        g_f66 k v54 v63 (fun v70 v71 v72 =>
          bif (v72 != 0) then
            X1 v72 v58 v59 v60 v61 v62 v63
          else
            g_f67 k v55 v70 (fun v73 =>
              bif (inb v57 32) && (inb v57 v64.length) then
                f55_l17 g_f54 g_f68_2 g_f67 g_f66 k v54 v73 v56 (IntKind.i64.wrap (v57 + 1)) v58 v59 v60 v61 v62 (IntKind.i64.wrap (v63 + v71)) (v64.set v57.toNat v73) X0 X1
              else
                none))
    else
      X0 v58 v59 v60 v61 v62 v63 v64
noncomputable def f55_l8 {R : Type} (g_f54 : Nat → List Int → Int → (Int → Int → Bool → Int → Option R) → Option R) (g_f68_2 : Nat → List Int → (List Int → Option R) → Option R) (g_f67 : Nat → Int → Int → (Int → Option R) → Option R) (g_f66 : Nat → List Int → Int → (Int → Int → Int → Option R) → Option R) : Nat → List Int → Int → Int → Int → Int → Int → Bool → Int → Int → Int → List Int → (List Int → Int → Int → Int → Int → Bool → Int → Int → Int → List Int → Option R) → (Int → Int → Int → Bool → Int → Int → Int → Option R) → Option R
  | 0, _, _, _, _, _, _, _, _, _, _, _, _, _ => none
  | k + 1, v11, v12, v13, v14, v15, v16, v17, v18, v19, v20, v21, X0, X1 =>
    bif (v20 == (v11.length : Int)) then
      X1 3 v15 v16 v17 v18 v19 v20
    else
      bif inb v20 v11.length then
        bif (inb v12 32) && (inb v12 v21.length) then
          bif (inb v12 32) && (inb v12 v21.length) then
            bif decide ((IntKind.i64.wrap ((v11.getD v20.toNat 0))) < 255) then
              X0 v11 v13 v14 v15 v16 v17 v18 v19 (IntKind.i64.wrap (v20 + 1)) (v21.set v12.toNat (IntKind.i64.wrap ((v21.getD v12.toNat 0) + (IntKind.i64.wrap ((v11.getD v20.toNat 0))))))
            else
              f55_l8 g_f54 g_f68_2 g_f67 g_f66 k v11 v12 v13 v14 v15 v16 v17 v18 v19 (IntKind.i64.wrap (v20 + 1)) (v21.set v12.toNat (IntKind.i64.wrap ((v21.getD v12.toNat 0) + (IntKind.i64.wrap ((v11.getD v20.toNat 0)))))) X0 X1
          else
            none
        else
          none
      else
        none
noncomputable def f55_l6 {R : Type} (g_f54 : Nat → List Int → Int → (Int → Int → Bool → Int → Option R) → Option R) (g_f68_2 : Nat → List Int → (List Int → Option R) → Option R) (g_f67 : Nat → Int → Int → (Int → Option R) → Option R) (g_f66 : Nat → List Int → Int → (Int → Int → Int → Option R) → Option R) : Nat → List Int → Int → Int → Int → Int → Bool → Int → Int → Int → List Int → (Int → Int → Bool → Int → Int → Int → List Int → Option R) → (Int → Int → Int → Bool → Int → Int → Int → Option R) → Option R
  | 0, _, _, _, _, _, _, _, _, _, _, _, _ => none
  | k + 1, v1, v2, v3, v4, v5, v6, v7, v8, v9, v10, X0, X1 =>
    bif decide (v3 < v2) then
      f55_l8 g_f54 g_f68_2 g_f67 g_f66 k v1 v3 v2 v3 v4 v5 v6 v7 v8 v9 v10 (fun v22 v23 v24 v25 v26 v27 v28 v29 v30 v31 =>
        f55_l6 g_f54 g_f68_2 g_f67 g_f66 k v22 v23 (IntKind.i64.wrap (v24 + 1)) v25 v26 v27 v28 v29 v30 v31 X0 X1) (fun v32 v33 v34 v35 v36 v37 v38 =>
        X1 v32 v33 v34 v35 v36 v37 v38)
    else
      X0 v4 v5 v6 v7 v8 v9 v10
noncomputable def f55_s {R : Type} (g_f54 : Nat → List Int → Int → (Int → Int → Bool → Int → Option R) → Option R) (g_f68_2 : Nat → List Int → (List Int → Option R) → Option R) (g_f67 : Nat → Int → Int → (Int → Option R) → Option R) (g_f66 : Nat → List Int → Int → (Int → Int → Int → Option R) → Option R) (k : Nat) (a0 : List Int) (a1 : Int) (a2 : Int) (a3 : Bool) (a4 : Int) (a5 : Int) (a6 : Int) (K : Int → Int → Int → Bool → Int → Int → Int → List Int → Option R) : Option R :=
  bif (a4 == 1) then
    f55_l6 g_f54 g_f68_2 g_f67 g_f66 k a0 (IntKind.i64.wrap (a5 - 1)) 0 a1 a2 a3 a4 a5 a6 (List.replicate 32 (0 : Int)) (fun v39 v40 v41 v42 v43 v44 v45 =>
      bif Nat.beq 32 v45.length then
        bif upto (IntKind.i64.wrap (v43 - 1)) 32 then
          g_f68_2 k (v45.take ((IntKind.i64.wrap (v43 - 1)).toNat)) (fun v46 =>
            K 0 v39 v40 v41 v42 v43 v44 v46)
        else
          none
      else
        none) (fun v47 v48 v49 v50 v51 v52 v53 =>
      K v47 v48 v49 v50 v51 v52 v53 ([] : List Int))
  else
    bif (a4 == 3) then
      f55_l17 g_f54 g_f68_2 g_f67 g_f66 k a0 0 (IntKind.i64.wrap (a5 - 1)) 0 a1 a2 a3 a4 a5 a6 (List.replicate 32 (0 : Int)) (fun v74 v75 v76 v77 v78 v79 v80 =>
        bif Nat.beq 32 v80.length then
          bif upto (IntKind.i64.wrap (v78 - 1)) 32 then
            g_f68_2 k (v80.take ((IntKind.i64.wrap (v78 - 1)).toNat)) (fun v81 =>
              K 0 v74 v75 v76 v77 v78 v79 v81)
          else
            none
        else
          none) (fun v82 v83 v84 v85 v86 v87 v88 =>
        K v82 v83 v84 v85 v86 v87 v88 ([] : List Int))
    else
      bif (a4 == 2) then
        K 0 a1 a2 a3 a4 a5 a6 ([] : List Int)
      else
        bif Nat.beq 32 (List.replicate 32 (0 : Int)).length then
          bif upto (IntKind.i64.wrap (a5 - 1)) 32 then
            g_f68_2 k ((List.replicate 32 (0 : Int)).take ((IntKind.i64.wrap (a5 - 1)).toNat)) (fun v89 =>
              K 0 a1 a2 a3 a4 a5 a6 v89)
          else
            none
        else
          none
noncomputable def f55 {R : Type} (k : Nat) (a0 : List Int) (a1 : Int) (a2 : Int) (a3 : Bool) (a4 : Int) (a5 : Int) (a6 : Int) (K : Int → Int → Int → Bool → Int → Int → Int → List Int → Option R) : Option R := f55_s (f54 (R := R)) (f68_2 (R := R)) (f67 (R := R)) (f66 (R := R)) k a0 a1 a2 a3 a4 a5 a6 K
noncomputable def f55_o {R : Type} (g_f54 : Nat → List Int → Int → (Int → Int → Bool → Int → Option R) → Option R) (g_f68_2 : Nat → List Int → (List Int → Option R) → Option R) (g_f67 : Nat → Int → Int → (Int → Option R) → Option R) (g_f66 : Nat → List Int → Int → (Int → Int → Int → Option R) → Option R) (k : Nat) : Orc D R := (orcAdd 66 (f66_d (g_f66 k) noDr) (orcAdd 67 (f67_d (g_f67 k) noDr) (orcAdd 68 (f68_2L_d (g_f68_2 k) noDr) (orcAdd 54 (f54_d (g_f54 k) noDr) noOrc))))
theorem f55_o_ok {R : Type} (k : Nat) : OrcOk Try.prog cx (f55_o (R := R) (f54 (R := R)) (f68_2 (R := R)) (f67 (R := R)) (f66 (R := R)) k) := (OrcOk.add (f66_ok k FnOk.no) (OrcOk.add (f67_ok k FnOk.no) (OrcOk.add (f68_2L_ok k FnOk.no) (OrcOk.add (f54_ok k FnOk.no) OrcOk.no))))
noncomputable def f55_b : Code := bodyOf Try.f55
noncomputable def f55_l6_a : LAnn := ⟨⟨[], [0, 1, 5, 25, 26], [0, 131168]⟩, exOf (some ⟨[], [4], [0]⟩) [(1, ⟨[], [0, 5], [0, 131168]⟩)]⟩
noncomputable def f55_l8_a : LAnn := ⟨⟨[], [0, 1, 5, 7, 25, 26], [0, 131168]⟩, exOf (some ⟨[], [4], [0]⟩) [(2, ⟨[], [0, 1, 5, 25, 26], [0, 131168]⟩)]⟩
noncomputable def f55_l17_a : LAnn := ⟨⟨[], [0, 1, 5, 6, 66, 67], [0, 131168]⟩, exOf (some ⟨[], [4], [0]⟩) [(5, ⟨[], [0, 5], [0, 131168]⟩)]⟩
noncomputable def f55_ann : Nat → Option LAnn := fun key => bif Nat.beq key 17 then some f55_l17_a else bif Nat.beq key 8 then some f55_l8_a else bif Nat.beq key 6 then some f55_l6_a else none
noncomputable def f55_l17_b : Code := loopAt f55_b 2
noncomputable def f55_l17_g {R : Type} (g_f54 : Nat → List Int → Int → (Int → Int → Bool → Int → Option R) → Option R) (g_f68_2 : Nat → List Int → (List Int → Option R) → Option R) (g_f67 : Nat → Int → Int → (Int → Option R) → Option R) (g_f66 : Nat → List Int → Int → (Int → Int → Int → Option R) → Option R) (k : Nat) (x : (Unit × List Int × Unit × Int × Int × Int × Unit)) (y : ((Int × Int × Bool × Int × Unit × Int × Unit × Int × Unit) × List Int × Unit)) (K : Ex → List (PV D) → List (Option (Am.Obj D)) → Option R) : Option R := f55_l17 g_f54 g_f68_2 g_f67 g_f66 k x.2.1 x.2.2.2.1 x.2.2.2.2.1 x.2.2.2.2.2.1 y.1.1 y.1.2.1 y.1.2.2.1 y.1.2.2.2.1 y.1.2.2.2.2.2.1 y.1.2.2.2.2.2.2.2.1 y.2.1 (fun z0 z1 z2 z3 z4 z5 z6 => K (.exit 5) [.ptr 0 0, .ptr 131168 0] [some (.box [.int .i64 z0, .int .i64 z1, .bool z2, .int .i64 z3, .nil, .int .i64 z4, .nil, .int .i64 z5]), some (.row (.int .i64) z6 true)]) (fun z0 z1 z2 z3 z4 z5 z6 => K (.ret) [.int .i64 z0] [some (.box [.int .i64 z1, .int .i64 z2, .bool z3, .int .i64 z4, .nil, .int .i64 z5, .nil, .int .i64 z6])])
noncomputable def f55_l17_d {R : Type} (g_f54 : Nat → List Int → Int → (Int → Int → Bool → Int → Option R) → Option R) (g_f68_2 : Nat → List Int → (List Int → Option R) → Option R) (g_f67 : Nat → Int → Int → (Int → Option R) → Option R) (g_f66 : Nat → List Int → Int → (Int → Int → Int → Option R) → Option R) (k : Nat) : Lr D R := ldoor [.ptr 0 0, .list (.int .u8), .ptr 131168 0, .int .i64, .int .i64, .int .i64] [some (.box [.int .i64, .int .i64, .bool, .int .i64, .nil, .int .i64, .nil, .int .i64]), some (.row (.int .i64) true)] (f55_l17_g g_f54 g_f68_2 g_f67 g_f66 k)
noncomputable def f55_l17_lrc {R : Type} (_g_f54 : Nat → List Int → Int → (Int → Int → Bool → Int → Option R) → Option R) (_g_f68_2 : Nat → List Int → (List Int → Option R) → Option R) (_g_f67 : Nat → Int → Int → (Int → Option R) → Option R) (_g_f66 : Nat → List Int → Int → (Int → Int → Int → Option R) → Option R) (_k : Nat) : Lrc D R := noLrc
theorem f55_l17_e {R : Type} (g_f54 : Nat → List Int → Int → (Int → Int → Bool → Int → Option R) → Option R) (g_f68_2 : Nat → List Int → (List Int → Option R) → Option R) (g_f67 : Nat → Int → Int → (Int → Option R) → Option R) (g_f66 : Nat → List Int → Int → (Int → Int → Int → Option R) → Option R) (k : Nat) (x : (Unit × List Int × Unit × Int × Int × Int × Unit)) (y : ((Int × Int × Bool × Int × Unit × Int × Unit × Int × Unit) × List Int × Unit)) (K : Ex → List (PV D) → List (Option (Am.Obj D)) → Option R) : f55_l17_g g_f54 g_f68_2 g_f67 g_f66 (k + 1) x y K = round cx (f55_o g_f54 g_f68_2 g_f67 g_f66 k) (f55_l17_lrc g_f54 g_f68_2 g_f67 g_f66 k) f55_ann kp 124 1 f55_l17_a f55_l17_b (gives (D := D) [.ptr 0 0, .list (.int .u8), .ptr 131168 0, .int .i64, .int .i64, .int .i64] x) (giveGs (D := D) [some (.box [.int .i64, .int .i64, .bool, .int .i64, .nil, .int .i64, .nil, .int .i64]), some (.row (.int .i64) true)] y) (fun vs os => f55_l17_d g_f54 g_f68_2 g_f67 g_f66 k vs os K) K := by kernel_rfl
theorem f55_l17_d_ok {R : Type} : ∀ k, LoopOk Try.prog cx 124 1 f55_ann (f55_l17_d (R := R) (f54 (R := R)) (f68_2 (R := R)) (f67 (R := R)) (f66 (R := R)) k) f55_l17_b :=
  loop_ok (keep := kp) (lrc := f55_l17_lrc (R := R) (f54 (R := R)) (f68_2 (R := R)) (f67 (R := R)) (f66 (R := R))) cxOk mixed f55_o_ok (show f55_ann (Am.keyOf f55_l17_b) = some f55_l17_a by kernel_rfl) (L := []) (by kernel_rfl) (fun k => trivial) (fun k => LrcNat.no) (fun x y K => by kernel_rfl) (f55_l17_e (f54 (R := R)) (f68_2 (R := R)) (f67 (R := R)) (f66 (R := R)))
noncomputable def f55_l8_b : Code := loopAt f55_b 1
noncomputable def f55_l8_g {R : Type} (g_f54 : Nat → List Int → Int → (Int → Int → Bool → Int → Option R) → Option R) (g_f68_2 : Nat → List Int → (List Int → Option R) → Option R) (g_f67 : Nat → Int → Int → (Int → Option R) → Option R) (g_f66 : Nat → List Int → Int → (Int → Int → Int → Option R) → Option R) (k : Nat) (x : (Unit × List Int × Unit × Int × Int × Int × Unit)) (y : ((Int × Int × Bool × Int × Unit × Int × Unit × Int × Unit) × List Int × Unit)) (K : Ex → List (PV D) → List (Option (Am.Obj D)) → Option R) : Option R := f55_l8 g_f54 g_f68_2 g_f67 g_f66 k x.2.1 x.2.2.2.1 x.2.2.2.2.1 x.2.2.2.2.2.1 y.1.1 y.1.2.1 y.1.2.2.1 y.1.2.2.2.1 y.1.2.2.2.2.2.1 y.1.2.2.2.2.2.2.2.1 y.2.1 (fun z0 z1 z2 z3 z4 z5 z6 z7 z8 z9 => K (.exit 2) [.ptr 0 0, .list (.int .u8) z0, .ptr 131168 0, .int .i64 z1, .int .i64 z2] [some (.box [.int .i64 z3, .int .i64 z4, .bool z5, .int .i64 z6, .nil, .int .i64 z7, .nil, .int .i64 z8]), some (.row (.int .i64) z9 true)]) (fun z0 z1 z2 z3 z4 z5 z6 => K (.ret) [.int .i64 z0] [some (.box [.int .i64 z1, .int .i64 z2, .bool z3, .int .i64 z4, .nil, .int .i64 z5, .nil, .int .i64 z6])])
noncomputable def f55_l8_d {R : Type} (g_f54 : Nat → List Int → Int → (Int → Int → Bool → Int → Option R) → Option R) (g_f68_2 : Nat → List Int → (List Int → Option R) → Option R) (g_f67 : Nat → Int → Int → (Int → Option R) → Option R) (g_f66 : Nat → List Int → Int → (Int → Int → Int → Option R) → Option R) (k : Nat) : Lr D R := ldoor [.ptr 0 0, .list (.int .u8), .ptr 131168 0, .int .i64, .int .i64, .int .i64] [some (.box [.int .i64, .int .i64, .bool, .int .i64, .nil, .int .i64, .nil, .int .i64]), some (.row (.int .i64) true)] (f55_l8_g g_f54 g_f68_2 g_f67 g_f66 k)
noncomputable def f55_l8_lrc {R : Type} (_g_f54 : Nat → List Int → Int → (Int → Int → Bool → Int → Option R) → Option R) (_g_f68_2 : Nat → List Int → (List Int → Option R) → Option R) (_g_f67 : Nat → Int → Int → (Int → Option R) → Option R) (_g_f66 : Nat → List Int → Int → (Int → Int → Int → Option R) → Option R) (_k : Nat) : Lrc D R := noLrc
theorem f55_l8_e {R : Type} (g_f54 : Nat → List Int → Int → (Int → Int → Bool → Int → Option R) → Option R) (g_f68_2 : Nat → List Int → (List Int → Option R) → Option R) (g_f67 : Nat → Int → Int → (Int → Option R) → Option R) (g_f66 : Nat → List Int → Int → (Int → Int → Int → Option R) → Option R) (k : Nat) (x : (Unit × List Int × Unit × Int × Int × Int × Unit)) (y : ((Int × Int × Bool × Int × Unit × Int × Unit × Int × Unit) × List Int × Unit)) (K : Ex → List (PV D) → List (Option (Am.Obj D)) → Option R) : f55_l8_g g_f54 g_f68_2 g_f67 g_f66 (k + 1) x y K = round cx (f55_o g_f54 g_f68_2 g_f67 g_f66 k) (f55_l8_lrc g_f54 g_f68_2 g_f67 g_f66 k) f55_ann kp 124 1 f55_l8_a f55_l8_b (gives (D := D) [.ptr 0 0, .list (.int .u8), .ptr 131168 0, .int .i64, .int .i64, .int .i64] x) (giveGs (D := D) [some (.box [.int .i64, .int .i64, .bool, .int .i64, .nil, .int .i64, .nil, .int .i64]), some (.row (.int .i64) true)] y) (fun vs os => f55_l8_d g_f54 g_f68_2 g_f67 g_f66 k vs os K) K := by kernel_rfl
theorem f55_l8_d_ok {R : Type} : ∀ k, LoopOk Try.prog cx 124 1 f55_ann (f55_l8_d (R := R) (f54 (R := R)) (f68_2 (R := R)) (f67 (R := R)) (f66 (R := R)) k) f55_l8_b :=
  loop_ok (keep := kp) (lrc := f55_l8_lrc (R := R) (f54 (R := R)) (f68_2 (R := R)) (f67 (R := R)) (f66 (R := R))) cxOk mixed f55_o_ok (show f55_ann (Am.keyOf f55_l8_b) = some f55_l8_a by kernel_rfl) (L := []) (by kernel_rfl) (fun k => trivial) (fun k => LrcNat.no) (fun x y K => by kernel_rfl) (f55_l8_e (f54 (R := R)) (f68_2 (R := R)) (f67 (R := R)) (f66 (R := R)))
noncomputable def f55_l6_b : Code := loopAt f55_b 0
noncomputable def f55_l6_g {R : Type} (g_f54 : Nat → List Int → Int → (Int → Int → Bool → Int → Option R) → Option R) (g_f68_2 : Nat → List Int → (List Int → Option R) → Option R) (g_f67 : Nat → Int → Int → (Int → Option R) → Option R) (g_f66 : Nat → List Int → Int → (Int → Int → Int → Option R) → Option R) (k : Nat) (x : (Unit × List Int × Unit × Int × Int × Unit)) (y : ((Int × Int × Bool × Int × Unit × Int × Unit × Int × Unit) × List Int × Unit)) (K : Ex → List (PV D) → List (Option (Am.Obj D)) → Option R) : Option R := f55_l6 g_f54 g_f68_2 g_f67 g_f66 k x.2.1 x.2.2.2.1 x.2.2.2.2.1 y.1.1 y.1.2.1 y.1.2.2.1 y.1.2.2.2.1 y.1.2.2.2.2.2.1 y.1.2.2.2.2.2.2.2.1 y.2.1 (fun z0 z1 z2 z3 z4 z5 z6 => K (.exit 1) [.ptr 0 0, .ptr 131168 0] [some (.box [.int .i64 z0, .int .i64 z1, .bool z2, .int .i64 z3, .nil, .int .i64 z4, .nil, .int .i64 z5]), some (.row (.int .i64) z6 true)]) (fun z0 z1 z2 z3 z4 z5 z6 => K (.ret) [.int .i64 z0] [some (.box [.int .i64 z1, .int .i64 z2, .bool z3, .int .i64 z4, .nil, .int .i64 z5, .nil, .int .i64 z6])])
noncomputable def f55_l6_d {R : Type} (g_f54 : Nat → List Int → Int → (Int → Int → Bool → Int → Option R) → Option R) (g_f68_2 : Nat → List Int → (List Int → Option R) → Option R) (g_f67 : Nat → Int → Int → (Int → Option R) → Option R) (g_f66 : Nat → List Int → Int → (Int → Int → Int → Option R) → Option R) (k : Nat) : Lr D R := ldoor [.ptr 0 0, .list (.int .u8), .ptr 131168 0, .int .i64, .int .i64] [some (.box [.int .i64, .int .i64, .bool, .int .i64, .nil, .int .i64, .nil, .int .i64]), some (.row (.int .i64) true)] (f55_l6_g g_f54 g_f68_2 g_f67 g_f66 k)
noncomputable def f55_l6_lrc {R : Type} (g_f54 : Nat → List Int → Int → (Int → Int → Bool → Int → Option R) → Option R) (g_f68_2 : Nat → List Int → (List Int → Option R) → Option R) (g_f67 : Nat → Int → Int → (Int → Option R) → Option R) (g_f66 : Nat → List Int → Int → (Int → Int → Int → Option R) → Option R) (k : Nat) : Lrc D R := (lrcAdd 8 (f55_l8_d g_f54 g_f68_2 g_f67 g_f66 k) noLrc)
theorem f55_l6_e {R : Type} (g_f54 : Nat → List Int → Int → (Int → Int → Bool → Int → Option R) → Option R) (g_f68_2 : Nat → List Int → (List Int → Option R) → Option R) (g_f67 : Nat → Int → Int → (Int → Option R) → Option R) (g_f66 : Nat → List Int → Int → (Int → Int → Int → Option R) → Option R) (k : Nat) (x : (Unit × List Int × Unit × Int × Int × Unit)) (y : ((Int × Int × Bool × Int × Unit × Int × Unit × Int × Unit) × List Int × Unit)) (K : Ex → List (PV D) → List (Option (Am.Obj D)) → Option R) : f55_l6_g g_f54 g_f68_2 g_f67 g_f66 (k + 1) x y K = round cx (f55_o g_f54 g_f68_2 g_f67 g_f66 k) (f55_l6_lrc g_f54 g_f68_2 g_f67 g_f66 k) f55_ann kp 124 1 f55_l6_a f55_l6_b (gives (D := D) [.ptr 0 0, .list (.int .u8), .ptr 131168 0, .int .i64, .int .i64] x) (giveGs (D := D) [some (.box [.int .i64, .int .i64, .bool, .int .i64, .nil, .int .i64, .nil, .int .i64]), some (.row (.int .i64) true)] y) (fun vs os => f55_l6_d g_f54 g_f68_2 g_f67 g_f66 k vs os K) K := by kernel_rfl
theorem f55_l6_d_ok {R : Type} : ∀ k, LoopOk Try.prog cx 124 1 f55_ann (f55_l6_d (R := R) (f54 (R := R)) (f68_2 (R := R)) (f67 (R := R)) (f66 (R := R)) k) f55_l6_b :=
  loop_ok (keep := kp) (lrc := f55_l6_lrc (R := R) (f54 (R := R)) (f68_2 (R := R)) (f67 (R := R)) (f66 (R := R))) cxOk mixed f55_o_ok (show f55_ann (Am.keyOf f55_l6_b) = some f55_l6_a by kernel_rfl) (L := [f55_l8_b]) (by kernel_rfl) (fun k => ⟨(f55_l8_d_ok k).use (by kernel_rfl), trivial⟩) (fun k => (LrcNat.add (f55_l8_d_ok k).2 LrcNat.no)) (fun x y K => by kernel_rfl) (f55_l6_e (f54 (R := R)) (f68_2 (R := R)) (f67 (R := R)) (f66 (R := R)))
noncomputable def f55_lrc {R : Type} (g_f54 : Nat → List Int → Int → (Int → Int → Bool → Int → Option R) → Option R) (g_f68_2 : Nat → List Int → (List Int → Option R) → Option R) (g_f67 : Nat → Int → Int → (Int → Option R) → Option R) (g_f66 : Nat → List Int → Int → (Int → Int → Int → Option R) → Option R) (k : Nat) : Lrc D R := (lrcAdd 17 (f55_l17_d g_f54 g_f68_2 g_f67 g_f66 k) (lrcAdd 8 (f55_l8_d g_f54 g_f68_2 g_f67 g_f66 k) (lrcAdd 6 (f55_l6_d g_f54 g_f68_2 g_f67 g_f66 k) noLrc)))
noncomputable def f55_d {R : Type} (g : List Int → Int → Int → Bool → Int → Int → Int → (Int → Int → Int → Bool → Int → Int → Int → List Int → Option R) → Option R) (e : Dr D R) : Dr D R := door [.ptr 0 0, .list (.int .u8)] [.box [.int .i64, .int .i64, .bool, .int .i64, .nil, .int .i64, .nil, .int .i64]] (fun (x : (Unit × List Int × Unit)) (y : ((Int × Int × Bool × Int × Unit × Int × Unit × Int × Unit) × Unit)) K => g x.2.1 y.1.1 y.1.2.1 y.1.2.2.1 y.1.2.2.2.1 y.1.2.2.2.2.2.1 y.1.2.2.2.2.2.2.2.1 (fun z0 z1 z2 z3 z4 z5 z6 z7 => K ⟨.int .i64 z0, [some (.box [.int .i64 z1, .int .i64 z2, .bool z3, .int .i64 z4, .nil, .int .i64 z5, .own 1, .int .i64 z6]), some (.row (.int .i64) z7 true)]⟩)) e
theorem f55_e {R : Type} (g_f54 : Nat → List Int → Int → (Int → Int → Bool → Int → Option R) → Option R) (g_f68_2 : Nat → List Int → (List Int → Option R) → Option R) (g_f67 : Nat → Int → Int → (Int → Option R) → Option R) (g_f66 : Nat → List Int → Int → (Int → Int → Int → Option R) → Option R) (k : Nat) (x : (Unit × List Int × Unit)) (y : ((Int × Int × Bool × Int × Unit × Int × Unit × Int × Unit) × Unit)) (K : RV D → Option R) : f55_s g_f54 g_f68_2 g_f67 g_f66 k x.2.1 y.1.1 y.1.2.1 y.1.2.2.1 y.1.2.2.2.1 y.1.2.2.2.2.2.1 y.1.2.2.2.2.2.2.2.1 (fun z0 z1 z2 z3 z4 z5 z6 z7 => K ⟨.int .i64 z0, [some (.box [.int .i64 z1, .int .i64 z2, .bool z3, .int .i64 z4, .nil, .int .i64 z5, .own 1, .int .i64 z6]), some (.row (.int .i64) z7 true)]⟩) = exec cx (f55_o g_f54 g_f68_2 g_f67 g_f66 k) (f55_lrc g_f54 g_f68_2 g_f67 g_f66 k) f55_ann kp 124 1 f55_b (entry (gives (D := D) [.ptr 0 0, .list (.int .u8)] x) (giveOs (D := D) [.box [.int .i64, .int .i64, .bool, .int .i64, .nil, .int .i64, .nil, .int .i64]] y)) (fin cx Try.f55.results.toList [(.cell 0 6, .own 1099511627776 (.int .i64))] 1 K) := by kernel_rfl
theorem f55_ok {R : Type} (k : Nat) {e : Dr D R} (he : FnOk Try.prog cx 55 e) : FnOk Try.prog cx 55 (f55_d (f55 k) e) :=
  he.door fun x y => body_ok (keep := kp) (ann := f55_ann) (lrc := f55_lrc (R := R) (f54 (R := R)) (f68_2 (R := R)) (f67 (R := R)) (f66 (R := R)) k) (N := 124) (n0 := 1) (c := [(.cell 0 6, .own 1099511627776 (.int .i64))]) cxOk mixed (f55_o_ok k) (body := f55_b) (by kernel_rfl : Try.prog.funcs[55]? = some Try.f55) (by kernel_rfl) (by kernel_rfl) (by kernel_rfl) (by kernel_rfl) (of_decide_eq_true (by kernel_rfl)) (L := [f55_l6_b, f55_l8_b, f55_l17_b]) (by kernel_rfl) ⟨(f55_l6_d_ok k).use (by kernel_rfl), (f55_l8_d_ok k).use (by kernel_rfl), (f55_l17_d_ok k).use (by kernel_rfl), trivial⟩ ((LrcNat.add (f55_l17_d_ok k).2 (LrcNat.add (f55_l8_d_ok k).2 (LrcNat.add (f55_l6_d_ok k).2 LrcNat.no)))) (fun K => f55_e (f54 (R := R)) (f68_2 (R := R)) (f67 (R := R)) (f66 (R := R)) k x y K)

/-! ## 38: diorama/lace.readHead -/
noncomputable def f38_s {R : Type} (g_f54 : Nat → List Int → Int → (Int → Int → Bool → Int → Option R) → Option R) (g_f55 : Nat → List Int → Int → Int → Bool → Int → Int → Int → (Int → Int → Int → Bool → Int → Int → Int → List Int → Option R) → Option R) (k : Nat) (a0 : List Int) (K : Int → Int → Bool → Int → Int → Int → Int → List Int → Option R) : Option R :=
  g_f54 k a0 0 (fun v1 v2 v3 v4 =>
    bif (v4 != 0) then
      K 0 0 false 0 0 0 v4 ([] : List Int)
    else
      bif v3 then
        K 0 0 false 0 0 0 4 ([] : List Int)
      else
        bif decide (v1 < 1) then
          K 0 0 false 0 0 0 1 ([] : List Int)
        else
          bif decide (v1 > 1000) then
            K 0 0 false 0 0 0 1 ([] : List Int)
          else
            bif decide ((a0.length : Int) < (IntKind.i64.wrap (v2 + 3))) then
              K 0 0 false 0 0 0 3 ([] : List Int)
            else
              bif inb (IntKind.i64.wrap (v2 + 2)) a0.length then
                bif ((andNotI .u8 (a0.getD ((IntKind.i64.wrap (v2 + 2)).toNat) 0) 134) != 0) then
                  K 0 0 false 0 0 0 4 ([] : List Int)
                else
                  bif inb v2 a0.length then
                    bif inb (IntKind.i64.wrap (v2 + 1)) a0.length then
                      bif ((IntKind.i64.wrap ((andI .u8 (shrI .u8 (a0.getD ((IntKind.i64.wrap (v2 + 2)).toNat) 0) 1) 3))) == 0) then
                        K v1 (IntKind.i64.wrap ((IntKind.i16.wrap ((orI .u16 (shlI .u16 (IntKind.u16.wrap ((a0.getD v2.toNat 0))) 8) (IntKind.u16.wrap ((a0.getD ((IntKind.i64.wrap (v2 + 1)).toNat) 0)))))))) ((andI .u8 (a0.getD ((IntKind.i64.wrap (v2 + 2)).toNat) 0) 128) != 0) (IntKind.i64.wrap ((andI .u8 (shrI .u8 (a0.getD ((IntKind.i64.wrap (v2 + 2)).toNat) 0) 1) 3))) 1 (IntKind.i64.wrap (v2 + 3)) 0 ([] : List Int)
                      else
                        bif ((IntKind.i64.wrap (v2 + 3)) == (a0.length : Int)) then
                          K v1 (IntKind.i64.wrap ((IntKind.i16.wrap ((orI .u16 (shlI .u16 (IntKind.u16.wrap ((a0.getD v2.toNat 0))) 8) (IntKind.u16.wrap ((a0.getD ((IntKind.i64.wrap (v2 + 1)).toNat) 0)))))))) ((andI .u8 (a0.getD ((IntKind.i64.wrap (v2 + 2)).toNat) 0) 128) != 0) (IntKind.i64.wrap ((andI .u8 (shrI .u8 (a0.getD ((IntKind.i64.wrap (v2 + 2)).toNat) 0) 1) 3))) 1 (IntKind.i64.wrap (v2 + 3)) 3 ([] : List Int)
                        else
                          bif inb (IntKind.i64.wrap (v2 + 3)) a0.length then
                            bif decide ((IntKind.i64.wrap ((IntKind.i64.wrap ((a0.getD ((IntKind.i64.wrap (v2 + 3)).toNat) 0))) + 1)) > 32) then
                              K v1 (IntKind.i64.wrap ((IntKind.i16.wrap ((orI .u16 (shlI .u16 (IntKind.u16.wrap ((a0.getD v2.toNat 0))) 8) (IntKind.u16.wrap ((a0.getD ((IntKind.i64.wrap (v2 + 1)).toNat) 0)))))))) ((andI .u8 (a0.getD ((IntKind.i64.wrap (v2 + 2)).toNat) 0) 128) != 0) (IntKind.i64.wrap ((andI .u8 (shrI .u8 (a0.getD ((IntKind.i64.wrap (v2 + 2)).toNat) 0) 1) 3))) (IntKind.i64.wrap ((IntKind.i64.wrap ((a0.getD ((IntKind.i64.wrap (v2 + 3)).toNat) 0))) + 1)) (IntKind.i64.wrap ((IntKind.i64.wrap (v2 + 3)) + 1)) 2 ([] : List Int)
                            else
                              g_f55 k a0 v1 (IntKind.i64.wrap ((IntKind.i16.wrap ((orI .u16 (shlI .u16 (IntKind.u16.wrap ((a0.getD v2.toNat 0))) 8) (IntKind.u16.wrap ((a0.getD ((IntKind.i64.wrap (v2 + 1)).toNat) 0)))))))) ((andI .u8 (a0.getD ((IntKind.i64.wrap (v2 + 2)).toNat) 0) 128) != 0) (IntKind.i64.wrap ((andI .u8 (shrI .u8 (a0.getD ((IntKind.i64.wrap (v2 + 2)).toNat) 0) 1) 3))) (IntKind.i64.wrap ((IntKind.i64.wrap ((a0.getD ((IntKind.i64.wrap (v2 + 3)).toNat) 0))) + 1)) (IntKind.i64.wrap ((IntKind.i64.wrap (v2 + 3)) + 1)) (fun v5 v6 v7 v8 v9 v10 v11 v12 =>
                                K v6 v7 v8 v9 v10 v11 v5 v12)
                          else
                            none
                    else
                      none
                  else
                    none
              else
                none)
noncomputable def f38 {R : Type} (k : Nat) (a0 : List Int) (K : Int → Int → Bool → Int → Int → Int → Int → List Int → Option R) : Option R := f38_s (f54 (R := R)) (f55 (R := R)) k a0 K
noncomputable def f38_o {R : Type} (g_f54 : Nat → List Int → Int → (Int → Int → Bool → Int → Option R) → Option R) (g_f55 : Nat → List Int → Int → Int → Bool → Int → Int → Int → (Int → Int → Int → Bool → Int → Int → Int → List Int → Option R) → Option R) (k : Nat) : Orc D R := (orcAdd 55 (f55_d (g_f55 k) noDr) (orcAdd 54 (f54_d (g_f54 k) noDr) noOrc))
theorem f38_o_ok {R : Type} (k : Nat) : OrcOk Try.prog cx (f38_o (R := R) (f54 (R := R)) (f55 (R := R)) k) := (OrcOk.add (f55_ok k FnOk.no) (OrcOk.add (f54_ok k FnOk.no) OrcOk.no))
noncomputable def f38_b : Code := bodyOf Try.f38
noncomputable def f38_ann : Nat → Option LAnn := fun _key => none
noncomputable def f38_lrc {R : Type} (_g_f54 : Nat → List Int → Int → (Int → Int → Bool → Int → Option R) → Option R) (_g_f55 : Nat → List Int → Int → Int → Bool → Int → Int → Int → (Int → Int → Int → Bool → Int → Int → Int → List Int → Option R) → Option R) (_k : Nat) : Lrc D R := noLrc
noncomputable def f38_d {R : Type} (g : List Int → (Int → Int → Bool → Int → Int → Int → Int → List Int → Option R) → Option R) (e : Dr D R) : Dr D R := door [.list (.int .u8)] [] (fun (x : (List Int × Unit)) (_y : (Unit)) K => g x.1 (fun z0 z1 z2 z3 z4 z5 z6 z7 => K ⟨.tup [.agg [.int .i64 z0, .int .i64 z1, .bool z2, .int .i64 z3, .nil, .int .i64 z4, .own 0, .int .i64 z5], .int .i64 z6], [some (.row (.int .i64) z7 true)]⟩)) e
theorem f38_e {R : Type} (g_f54 : Nat → List Int → Int → (Int → Int → Bool → Int → Option R) → Option R) (g_f55 : Nat → List Int → Int → Int → Bool → Int → Int → Int → (Int → Int → Int → Bool → Int → Int → Int → List Int → Option R) → Option R) (k : Nat) (x : (List Int × Unit)) (y : (Unit)) (K : RV D → Option R) : f38_s g_f54 g_f55 k x.1 (fun z0 z1 z2 z3 z4 z5 z6 z7 => K ⟨.tup [.agg [.int .i64 z0, .int .i64 z1, .bool z2, .int .i64 z3, .nil, .int .i64 z4, .own 0, .int .i64 z5], .int .i64 z6], [some (.row (.int .i64) z7 true)]⟩) = exec cx (f38_o g_f54 g_f55 k) (f38_lrc g_f54 g_f55 k) f38_ann kp 109 0 f38_b (entry (gives (D := D) [.list (.int .u8)] x) (giveOs (D := D) [] y)) (fin cx Try.f38.results.toList [(.cell 65584 6, .own 1099511627776 (.int .i64))] 0 K) := by kernel_rfl
theorem f38_ok {R : Type} (k : Nat) {e : Dr D R} (he : FnOk Try.prog cx 38 e) : FnOk Try.prog cx 38 (f38_d (f38 k) e) :=
  he.door fun x y => body_ok (keep := kp) (ann := f38_ann) (lrc := f38_lrc (R := R) (f54 (R := R)) (f55 (R := R)) k) (N := 109) (n0 := 0) (c := [(.cell 65584 6, .own 1099511627776 (.int .i64))]) cxOk mixed (f38_o_ok k) (body := f38_b) (by kernel_rfl : Try.prog.funcs[38]? = some Try.f38) (by kernel_rfl) (by kernel_rfl) (by kernel_rfl) (by kernel_rfl) (of_decide_eq_true (by kernel_rfl)) (L := []) (by kernel_rfl) trivial (LrcNat.no) (fun K => f38_e (f54 (R := R)) (f55 (R := R)) k x y K)

/-! ## 74: math/bits.Mul64 -/
noncomputable def f74_s {R : Type} (_k : Nat) (a0 : Int) (a1 : Int) (K : Int → Int → Option R) : Option R :=
  K (IntKind.u64.wrap ((IntKind.u64.wrap ((IntKind.u64.wrap ((shrI .u64 a0 32) * (shrI .u64 a1 32))) + (shrI .u64 (IntKind.u64.wrap ((IntKind.u64.wrap ((shrI .u64 a0 32) * (andI .u64 a1 4294967295))) + (shrI .u64 (IntKind.u64.wrap ((andI .u64 a0 4294967295) * (andI .u64 a1 4294967295))) 32))) 32))) + (shrI .u64 (IntKind.u64.wrap ((andI .u64 (IntKind.u64.wrap ((IntKind.u64.wrap ((shrI .u64 a0 32) * (andI .u64 a1 4294967295))) + (shrI .u64 (IntKind.u64.wrap ((andI .u64 a0 4294967295) * (andI .u64 a1 4294967295))) 32))) 4294967295) + (IntKind.u64.wrap ((andI .u64 a0 4294967295) * (shrI .u64 a1 32))))) 32))) (IntKind.u64.wrap (a0 * a1))
noncomputable def f74 {R : Type} (k : Nat) (a0 : Int) (a1 : Int) (K : Int → Int → Option R) : Option R := f74_s k a0 a1 K
noncomputable def f74_o {R : Type} (_k : Nat) : Orc D R := noOrc
theorem f74_o_ok {R : Type} (k : Nat) : OrcOk Try.prog cx (f74_o (R := R) k) := OrcOk.no
noncomputable def f74_b : Code := bodyOf Try.f74
noncomputable def f74_ann : Nat → Option LAnn := fun _key => none
noncomputable def f74_lrc {R : Type} (_k : Nat) : Lrc D R := noLrc
noncomputable def f74_d {R : Type} (g : Int → Int → (Int → Int → Option R) → Option R) (e : Dr D R) : Dr D R := door [.int .u64, .int .u64] [] (fun (x : (Int × Int × Unit)) (_y : (Unit)) K => g x.1 x.2.1 (fun z0 z1 => K ⟨.tup [.int .u64 z0, .int .u64 z1], []⟩)) e
theorem f74_e {R : Type} (k : Nat) (x : (Int × Int × Unit)) (y : (Unit)) (K : RV D → Option R) : f74_s k x.1 x.2.1 (fun z0 z1 => K ⟨.tup [.int .u64 z0, .int .u64 z1], []⟩) = exec cx (f74_o k) (f74_lrc k) f74_ann kp 51 0 f74_b (entry (gives (D := D) [.int .u64, .int .u64] x) (giveOs (D := D) [] y)) (fin cx Try.f74.results.toList [] 0 K) := by kernel_rfl
theorem f74_ok {R : Type} (k : Nat) {e : Dr D R} (he : FnOk Try.prog cx 74 e) : FnOk Try.prog cx 74 (f74_d (f74 k) e) :=
  he.door fun x y => body_ok (keep := kp) (ann := f74_ann) (lrc := f74_lrc (R := R) k) (N := 51) (n0 := 0) (c := []) cxOk mixed (f74_o_ok k) (body := f74_b) (by kernel_rfl : Try.prog.funcs[74]? = some Try.f74) (by kernel_rfl) (by kernel_rfl) (by kernel_rfl) (by kernel_rfl) (of_decide_eq_true (by kernel_rfl)) (L := []) (by kernel_rfl) trivial (LrcNat.no) (fun K => f74_e k x y K)

/-! ## 69: math/bits.Mul -/
noncomputable def f69_s {R : Type} (g_f74 : Nat → Int → Int → (Int → Int → Option R) → Option R) (k : Nat) (a0 : Int) (a1 : Int) (K : Int → Int → Option R) : Option R :=
  g_f74 k a0 a1 (fun v1 v2 =>
    K v1 v2)
noncomputable def f69 {R : Type} (k : Nat) (a0 : Int) (a1 : Int) (K : Int → Int → Option R) : Option R := f69_s (f74 (R := R)) k a0 a1 K
noncomputable def f69_o {R : Type} (g_f74 : Nat → Int → Int → (Int → Int → Option R) → Option R) (k : Nat) : Orc D R := (orcAdd 74 (f74_d (g_f74 k) noDr) noOrc)
theorem f69_o_ok {R : Type} (k : Nat) : OrcOk Try.prog cx (f69_o (R := R) (f74 (R := R)) k) := (OrcOk.add (f74_ok k FnOk.no) OrcOk.no)
noncomputable def f69_b : Code := bodyOf Try.f69
noncomputable def f69_ann : Nat → Option LAnn := fun _key => none
noncomputable def f69_lrc {R : Type} (_g_f74 : Nat → Int → Int → (Int → Int → Option R) → Option R) (_k : Nat) : Lrc D R := noLrc
noncomputable def f69_d {R : Type} (g : Int → Int → (Int → Int → Option R) → Option R) (e : Dr D R) : Dr D R := door [.int .u64, .int .u64] [] (fun (x : (Int × Int × Unit)) (_y : (Unit)) K => g x.1 x.2.1 (fun z0 z1 => K ⟨.tup [.int .u64 z0, .int .u64 z1], []⟩)) e
theorem f69_e {R : Type} (g_f74 : Nat → Int → Int → (Int → Int → Option R) → Option R) (k : Nat) (x : (Int × Int × Unit)) (y : (Unit)) (K : RV D → Option R) : f69_s g_f74 k x.1 x.2.1 (fun z0 z1 => K ⟨.tup [.int .u64 z0, .int .u64 z1], []⟩) = exec cx (f69_o g_f74 k) (f69_lrc g_f74 k) f69_ann kp 30 0 f69_b (entry (gives (D := D) [.int .u64, .int .u64] x) (giveOs (D := D) [] y)) (fin cx Try.f69.results.toList [] 0 K) := by kernel_rfl
theorem f69_ok {R : Type} (k : Nat) {e : Dr D R} (he : FnOk Try.prog cx 69 e) : FnOk Try.prog cx 69 (f69_d (f69 k) e) :=
  he.door fun x y => body_ok (keep := kp) (ann := f69_ann) (lrc := f69_lrc (R := R) (f74 (R := R)) k) (N := 30) (n0 := 0) (c := []) cxOk mixed (f69_o_ok k) (body := f69_b) (by kernel_rfl : Try.prog.funcs[69]? = some Try.f69) (by kernel_rfl) (by kernel_rfl) (by kernel_rfl) (by kernel_rfl) (of_decide_eq_true (by kernel_rfl)) (L := []) (by kernel_rfl) trivial (LrcNat.no) (fun K => f69_e (f74 (R := R)) k x y K)

/-! ## 56: slices.Repeat[[]int,int] -/
noncomputable def f56_l8 {R : Type} (g_f69 : Nat → Int → Int → (Int → Int → Option R) → Option R) : Nat → Int → List Int → (List Int → Option R) → Option R
  | 0, _, _, _ => none
  | k + 1, v3, v4, X0 =>
    bif decide (v3 < (v4.length : Int)) then
      bif upto v3 v4.length then
        bif upto v3 v4.length then
          f56_l8 g_f69 k (IntKind.i64.wrap (v3 + ((min (v4.take v3.toNat).length (v4.length - v3.toNat)) : Nat))) (v4.take v3.toNat ++ (v4.take v3.toNat).take (min (v4.take v3.toNat).length (v4.length - v3.toNat)) ++ v4.drop (v3.toNat + (min (v4.take v3.toNat).length (v4.length - v3.toNat)))) X0
        else
          none
      else
        none
    else
      X0 v4
noncomputable def f56_s {R : Type} (g_f69 : Nat → Int → Int → (Int → Int → Option R) → Option R) (k : Nat) (a0 : List Int) (a1 : Int) (K : List Int → Option R) : Option R :=
  bif decide (a1 < 0) then
    none
  else
    g_f69 k (IntKind.u64.wrap ((a0.length : Int))) (IntKind.u64.wrap (a1)) (fun v1 v2 =>
      bif decide (v1 > 0) then
        none
      else
        bif decide (v2 > 9223372036854775807) then
          none
        else
          bif (decide ((0 : Int) ≤ (IntKind.i64.wrap (v2)))) && (decide ((IntKind.i64.wrap (v2)) ≤ (IntKind.i64.wrap (v2)))) && (decide ((IntKind.i64.wrap (v2)) * ((8 : Nat) : Int) ≤ 140737488355328)) then
            f56_l8 g_f69 k ((min a0.length (List.replicate ((IntKind.i64.wrap (v2)).toNat) (0 : Int)).length) : Nat) (a0.take (min a0.length (List.replicate ((IntKind.i64.wrap (v2)).toNat) (0 : Int)).length) ++ (List.replicate ((IntKind.i64.wrap (v2)).toNat) (0 : Int)).drop (min a0.length (List.replicate ((IntKind.i64.wrap (v2)).toNat) (0 : Int)).length)) (fun v5 =>
              K v5)
          else
            none)
noncomputable def f56 {R : Type} (k : Nat) (a0 : List Int) (a1 : Int) (K : List Int → Option R) : Option R := f56_s (f69 (R := R)) k a0 a1 K
noncomputable def f56_o {R : Type} (g_f69 : Nat → Int → Int → (Int → Int → Option R) → Option R) (k : Nat) : Orc D R := (orcAdd 69 (f69_d (g_f69 k) noDr) noOrc)
theorem f56_o_ok {R : Type} (k : Nat) : OrcOk Try.prog cx (f56_o (R := R) (f69 (R := R)) k) := (OrcOk.add (f69_ok k FnOk.no) OrcOk.no)
noncomputable def f56_b : Code := bodyOf Try.f56
noncomputable def f56_l8_a : LAnn := ⟨⟨[], [7, 8], [459248]⟩, exOf (none) [(0, ⟨[], [7], [459248]⟩)]⟩
noncomputable def f56_ann : Nat → Option LAnn := fun key => bif Nat.beq key 8 then some f56_l8_a else none
noncomputable def f56_l8_b : Code := loopAt f56_b 0
noncomputable def f56_l8_g {R : Type} (g_f69 : Nat → Int → Int → (Int → Int → Option R) → Option R) (k : Nat) (x : (Unit × Int × Unit)) (y : (List Int × Unit)) (K : Ex → List (PV D) → List (Option (Am.Obj D)) → Option R) : Option R := f56_l8 g_f69 k x.2.1 y.1 (fun z0 => K (.exit 0) [.own 459248] [some (.row (.int .i64) z0 true)])
noncomputable def f56_l8_d {R : Type} (g_f69 : Nat → Int → Int → (Int → Int → Option R) → Option R) (k : Nat) : Lr D R := ldoor [.own 459248, .int .i64] [some (.row (.int .i64) true)] (f56_l8_g g_f69 k)
noncomputable def f56_l8_lrc {R : Type} (_g_f69 : Nat → Int → Int → (Int → Int → Option R) → Option R) (_k : Nat) : Lrc D R := noLrc
theorem f56_l8_e {R : Type} (g_f69 : Nat → Int → Int → (Int → Int → Option R) → Option R) (k : Nat) (x : (Unit × Int × Unit)) (y : (List Int × Unit)) (K : Ex → List (PV D) → List (Option (Am.Obj D)) → Option R) : f56_l8_g g_f69 (k + 1) x y K = round cx (f56_o g_f69 k) (f56_l8_lrc g_f69 k) f56_ann kp 48 0 f56_l8_a f56_l8_b (gives (D := D) [.own 459248, .int .i64] x) (giveGs (D := D) [some (.row (.int .i64) true)] y) (fun vs os => f56_l8_d g_f69 k vs os K) K := by kernel_rfl
theorem f56_l8_d_ok {R : Type} : ∀ k, LoopOk Try.prog cx 48 0 f56_ann (f56_l8_d (R := R) (f69 (R := R)) k) f56_l8_b :=
  loop_ok (keep := kp) (lrc := f56_l8_lrc (R := R) (f69 (R := R))) cxOk mixed f56_o_ok (show f56_ann (Am.keyOf f56_l8_b) = some f56_l8_a by kernel_rfl) (L := []) (by kernel_rfl) (fun k => trivial) (fun k => LrcNat.no) (fun x y K => by kernel_rfl) (f56_l8_e (f69 (R := R)))
noncomputable def f56_lrc {R : Type} (g_f69 : Nat → Int → Int → (Int → Int → Option R) → Option R) (k : Nat) : Lrc D R := (lrcAdd 8 (f56_l8_d g_f69 k) noLrc)
noncomputable def f56_d {R : Type} (g : List Int → Int → (List Int → Option R) → Option R) (e : Dr D R) : Dr D R := door [.list (.int .i64), .int .i64] [] (fun (x : (List Int × Int × Unit)) (_y : (Unit)) K => g x.1 x.2.1 (fun z0 => K ⟨.own 0, [some (.row (.int .i64) z0 true)]⟩)) e
theorem f56_e {R : Type} (g_f69 : Nat → Int → Int → (Int → Int → Option R) → Option R) (k : Nat) (x : (List Int × Int × Unit)) (y : (Unit)) (K : RV D → Option R) : f56_s g_f69 k x.1 x.2.1 (fun z0 => K ⟨.own 0, [some (.row (.int .i64) z0 true)]⟩) = exec cx (f56_o g_f69 k) (f56_lrc g_f69 k) f56_ann kp 48 0 f56_b (entry (gives (D := D) [.list (.int .i64), .int .i64] x) (giveOs (D := D) [] y)) (fin cx Try.f56.results.toList [] 0 K) := by kernel_rfl
theorem f56_ok {R : Type} (k : Nat) {e : Dr D R} (he : FnOk Try.prog cx 56 e) : FnOk Try.prog cx 56 (f56_d (f56 k) e) :=
  he.door fun x y => body_ok (keep := kp) (ann := f56_ann) (lrc := f56_lrc (R := R) (f69 (R := R)) k) (N := 48) (n0 := 0) (c := []) cxOk mixed (f56_o_ok k) (body := f56_b) (by kernel_rfl : Try.prog.funcs[56]? = some Try.f56) (by kernel_rfl) (by kernel_rfl) (by kernel_rfl) (by kernel_rfl) (of_decide_eq_true (by kernel_rfl)) (L := [f56_l8_b]) (by kernel_rfl) ⟨(f56_l8_d_ok k).use (by kernel_rfl), trivial⟩ ((LrcNat.add (f56_l8_d_ok k).2 LrcNat.no)) (fun K => f56_e (f69 (R := R)) k x y K)


end Go.Proofs.Ytnmoccdnkpkhhaa

/-! What the functions do, as plain functions; and that they do. -/
namespace Go.Proofs.Ytnmoccdnkpkhhaa
open Go Go.Am
/-! ## 39: (diorama/lace.head).all -/
noncomputable def f39_l7 {R : Type} (g_f56 : Nat → List Int → Int → (List Int → Option R) → Option R) : Nat → Int → Int → Int → Int → Int → Bool → Int → Int → Int → List Int → (Int → Int → Int → Bool → Int → Int → Int → List Int → Option R) → (Int → Option R) → Option R
  | 0, _, _, _, _, _, _, _, _, _, _, _, _ => none
  | k + 1, v2, v3, v4, v5, v6, v7, v8, v9, v10, v11, X0, X1 =>
    bif decide (v4 < v3) then
      bif inb v4 v11.length then
        bif decide ((v11.getD v4.toNat 0) < 0) then
          X1 50
        else
          bif decide ((v11.getD v4.toNat 0) > v2) then
            X1 3
          else
            bif decide ((v11.getD v4.toNat 0) > 65536) then
              X1 2
            else
              f39_l7 g_f56 k (IntKind.i64.wrap (v2 - (v11.getD v4.toNat 0))) v3 (IntKind.i64.wrap (v4 + 1)) v5 v6 v7 v8 v9 v10 v11 X0 X1
      else
        none
    else
      X0 v2 v5 v6 v7 v8 v9 v10 v11
noncomputable def f39_s {R : Type} (g_f56 : Nat → List Int → Int → (List Int → Option R) → Option R) (k : Nat) (a0 : Int) (a1 : Int) (a2 : Bool) (a3 : Int) (a4 : Int) (a5 : Int) (a6 : List Int) (a7 : List Int) (K : Int → List Int → Option R) : Option R :=
  bif (a3 == 2) then
    bif decide (a4 = 0) then
      none
    else
      bif (((IntKind.i64.wrap ((a6.length : Int) - a5)).tmod a4) != 0) then
        K 50 ([] : List Int)
      else
        bif decide (a4 = 0) then
          none
        else
          g_f56 k ([(IntKind.i64.wrap ((IntKind.i64.wrap ((a6.length : Int) - a5)).tdiv a4))]) (IntKind.i64.wrap (a4 - 1)) (fun v1 =>
            f39_l7 g_f56 k (IntKind.i64.wrap ((a6.length : Int) - a5)) (v1.length : Int) 0 a0 a1 a2 a3 a4 a5 v1 (fun v12 _v13 _v14 _v15 _v16 _v17 _v18 v19 =>
              bif decide (v12 > 65536) then
                K 2 ([] : List Int)
              else
                bif room 8 (v19.length + ([v12]).length) then
                  K 0 (v19 ++ ([v12]))
                else
                  none) (fun v20 =>
              K v20 ([] : List Int)))
  else
    f39_l7 g_f56 k (IntKind.i64.wrap ((a6.length : Int) - a5)) (a7.length : Int) 0 a0 a1 a2 a3 a4 a5 a7 (fun v21 _v22 _v23 _v24 _v25 _v26 _v27 v28 =>
      bif decide (v21 > 65536) then
        K 2 ([] : List Int)
      else
        bif room 8 (v28.length + ([v21]).length) then
          K 0 (v28 ++ ([v21]))
        else
          none) (fun v29 =>
      K v29 ([] : List Int))
noncomputable def f39 {R : Type} (k : Nat) (a0 : Int) (a1 : Int) (a2 : Bool) (a3 : Int) (a4 : Int) (a5 : Int) (a6 : List Int) (a7 : List Int) (K : Int → List Int → Option R) : Option R := f39_s (f56 (R := R)) k a0 a1 a2 a3 a4 a5 a6 a7 K
noncomputable def f39_o {R : Type} (g_f56 : Nat → List Int → Int → (List Int → Option R) → Option R) (k : Nat) : Orc D R := (orcAdd 56 (f56_d (g_f56 k) noDr) noOrc)
theorem f39_o_ok {R : Type} (k : Nat) : OrcOk Try.prog cx (f39_o (R := R) (f56 (R := R)) k) := (OrcOk.add (f56_ok k FnOk.no) OrcOk.no)
noncomputable def f39_b : Code := bodyOf Try.f39
noncomputable def f39_l7_a : LAnn := ⟨⟨[(.tmp 34, .own 68719505408 (.int .i64)), (.cell 0 0, .drop)], [2, 6, 34, 35, 36], [65584, 68719505408]⟩, exOf (some ⟨[(.cell 0 0, .drop)], [4, 5], []⟩) [(0, ⟨[(.cell 65584 6, .own 68719507456 (.int .i64)), (.cell 0 0, .drop)], [2, 6], [65584, 68719507456]⟩)]⟩
noncomputable def f39_ann : Nat → Option LAnn := fun key => bif Nat.beq key 7 then some f39_l7_a else none
noncomputable def f39_l7_b : Code := loopAt f39_b 0
noncomputable def f39_l7_g {R : Type} (g_f56 : Nat → List Int → Int → (List Int → Option R) → Option R) (k : Nat) (x : (Unit × Int × Unit × Int × Int × Unit)) (y : ((Int × Int × Bool × Int × Unit × Int × Unit × Int × Unit) × List Int × Unit)) (K : Ex → List (PV D) → List (Option (Am.Obj D)) → Option R) : Option R := f39_l7 g_f56 k x.2.1 x.2.2.2.1 x.2.2.2.2.1 y.1.1 y.1.2.1 y.1.2.2.1 y.1.2.2.2.1 y.1.2.2.2.2.2.1 y.1.2.2.2.2.2.2.2.1 y.2.1 (fun z0 z1 z2 z3 z4 z5 z6 z7 => K (.exit 0) [.ptr 65584 0, .int .i64 z0] [some (.box [.int .i64 z1, .int .i64 z2, .bool z3, .int .i64 z4, .nil, .int .i64 z5, .own 68719507456, .int .i64 z6]), some (.row (.int .i64) z7 true)]) (fun z0 => K (.ret) [.nil, .int .i64 z0] [])
noncomputable def f39_l7_d {R : Type} (g_f56 : Nat → List Int → Int → (List Int → Option R) → Option R) (k : Nat) : Lr D R := ldoor [.ptr 65584 0, .int .i64, .own 68719505408, .int .i64, .int .i64] [some (.box [.int .i64, .int .i64, .bool, .int .i64, .nil, .int .i64, .own 68719505408, .int .i64]), some (.row (.int .i64) true)] (f39_l7_g g_f56 k)
noncomputable def f39_l7_lrc {R : Type} (_g_f56 : Nat → List Int → Int → (List Int → Option R) → Option R) (_k : Nat) : Lrc D R := noLrc
theorem f39_l7_e {R : Type} (g_f56 : Nat → List Int → Int → (List Int → Option R) → Option R) (k : Nat) (x : (Unit × Int × Unit × Int × Int × Unit)) (y : ((Int × Int × Bool × Int × Unit × Int × Unit × Int × Unit) × List Int × Unit)) (K : Ex → List (PV D) → List (Option (Am.Obj D)) → Option R) : f39_l7_g g_f56 (k + 1) x y K = round cx (f39_o g_f56 k) (f39_l7_lrc g_f56 k) f39_ann kp 61 1 f39_l7_a f39_l7_b (gives (D := D) [.ptr 65584 0, .int .i64, .own 68719505408, .int .i64, .int .i64] x) (giveGs (D := D) [some (.box [.int .i64, .int .i64, .bool, .int .i64, .nil, .int .i64, .own 68719505408, .int .i64]), some (.row (.int .i64) true)] y) (fun vs os => f39_l7_d g_f56 k vs os K) K := by kernel_rfl
theorem f39_l7_d_ok {R : Type} : ∀ k, LoopOk Try.prog cx 61 1 f39_ann (f39_l7_d (R := R) (f56 (R := R)) k) f39_l7_b :=
  loop_ok (keep := kp) (lrc := f39_l7_lrc (R := R) (f56 (R := R))) cxOk mixed f39_o_ok (show f39_ann (Am.keyOf f39_l7_b) = some f39_l7_a by kernel_rfl) (L := []) (by kernel_rfl) (fun k => trivial) (fun k => LrcNat.no) (fun x y K => by kernel_rfl) (f39_l7_e (f56 (R := R)))
noncomputable def f39_lrc {R : Type} (g_f56 : Nat → List Int → Int → (List Int → Option R) → Option R) (k : Nat) : Lrc D R := (lrcAdd 7 (f39_l7_d g_f56 k) noLrc)
noncomputable def f39_d {R : Type} (g : Int → Int → Bool → Int → Int → Int → List Int → List Int → (Int → List Int → Option R) → Option R) (e : Dr D R) : Dr D R := door [.agg [.int .i64, .int .i64, .bool, .int .i64, .nil, .int .i64, .own 0, .int .i64], .list (.int .u8)] [.row (.int .i64) true] (fun (x : ((Int × Int × Bool × Int × Unit × Int × Unit × Int × Unit) × List Int × Unit)) (y : (List Int × Unit)) K => g x.1.1 x.1.2.1 x.1.2.2.1 x.1.2.2.2.1 x.1.2.2.2.2.2.1 x.1.2.2.2.2.2.2.2.1 x.2.1 y.1 (fun z0 z1 => K ⟨.tup [.own 1, .int .i64 z0], [none, some (.row (.int .i64) z1 true)]⟩)) e
theorem f39_e {R : Type} (g_f56 : Nat → List Int → Int → (List Int → Option R) → Option R) (k : Nat) (x : ((Int × Int × Bool × Int × Unit × Int × Unit × Int × Unit) × List Int × Unit)) (y : (List Int × Unit)) (K : RV D → Option R) : f39_s g_f56 k x.1.1 x.1.2.1 x.1.2.2.1 x.1.2.2.2.1 x.1.2.2.2.2.2.1 x.1.2.2.2.2.2.2.2.1 x.2.1 y.1 (fun z0 z1 => K ⟨.tup [.own 1, .int .i64 z0], [none, some (.row (.int .i64) z1 true)]⟩) = exec cx (f39_o g_f56 k) (f39_lrc g_f56 k) f39_ann kp 61 1 f39_b (entry (gives (D := D) [.agg [.int .i64, .int .i64, .bool, .int .i64, .nil, .int .i64, .own 0, .int .i64], .list (.int .u8)] x) (giveOs (D := D) [.row (.int .i64) true] y)) (fin cx Try.f39.results.toList [(.tmp 4, .own 1099511627776 (.int .i64)), (.cell 0 0, .drop)] 1 K) := by kernel_rfl
theorem f39_ok {R : Type} (k : Nat) {e : Dr D R} (he : FnOk Try.prog cx 39 e) : FnOk Try.prog cx 39 (f39_d (f39 k) e) :=
  he.door fun x y => body_ok (keep := kp) (ann := f39_ann) (lrc := f39_lrc (R := R) (f56 (R := R)) k) (N := 61) (n0 := 1) (c := [(.tmp 4, .own 1099511627776 (.int .i64)), (.cell 0 0, .drop)]) cxOk mixed (f39_o_ok k) (body := f39_b) (by kernel_rfl : Try.prog.funcs[39]? = some Try.f39) (by kernel_rfl) (by kernel_rfl) (by kernel_rfl) (by kernel_rfl) (of_decide_eq_true (by kernel_rfl)) (L := [f39_l7_b]) (by kernel_rfl) ⟨(f39_l7_d_ok k).use (by kernel_rfl), trivial⟩ ((LrcNat.add (f39_l7_d_ok k).2 LrcNat.no)) (fun K => f39_e (f56 (R := R)) k x y K)

/-! ## 40: slices.Clone[[]byte,byte] -/
noncomputable def f40_s {R : Type} (_k : Nat) (K : List Int → Option R) : Option R :=
  K ([] : List Int)
noncomputable def f40 {R : Type} (k : Nat) (K : List Int → Option R) : Option R := f40_s k K
noncomputable def f40_o {R : Type} (_k : Nat) : Orc D R := noOrc
theorem f40_o_ok {R : Type} (k : Nat) : OrcOk Try.prog cx (f40_o (R := R) k) := OrcOk.no
noncomputable def f40_b : Code := bodyOf Try.f40
noncomputable def f40_ann : Nat → Option LAnn := fun _key => none
noncomputable def f40_lrc {R : Type} (_k : Nat) : Lrc D R := noLrc
noncomputable def f40_d {R : Type} (g : (List Int → Option R) → Option R) (e : Dr D R) : Dr D R := door [.nil] [] (fun (_x : (Unit × Unit)) (_y : (Unit)) K => g (fun z0 => K ⟨.own 0, [some (.row (.int .u8) z0 true)]⟩)) e
theorem f40_e {R : Type} (k : Nat) (x : (Unit × Unit)) (y : (Unit)) (K : RV D → Option R) : f40_s k  (fun z0 => K ⟨.own 0, [some (.row (.int .u8) z0 true)]⟩) = exec cx (f40_o k) (f40_lrc k) f40_ann kp 8 0 f40_b (entry (gives (D := D) [.nil] x) (giveOs (D := D) [] y)) (fin cx Try.f40.results.toList [(.tmp 2, .own 1099511627776 (.int .u8))] 0 K) := by kernel_rfl
theorem f40_ok {R : Type} (k : Nat) {e : Dr D R} (he : FnOk Try.prog cx 40 e) : FnOk Try.prog cx 40 (f40_d (f40 k) e) :=
  he.door fun x y => body_ok (keep := kp) (ann := f40_ann) (lrc := f40_lrc (R := R) k) (N := 8) (n0 := 0) (c := [(.tmp 2, .own 1099511627776 (.int .u8))]) cxOk mixed (f40_o_ok k) (body := f40_b) (by kernel_rfl : Try.prog.funcs[40]? = some Try.f40) (by kernel_rfl) (by kernel_rfl) (by kernel_rfl) (by kernel_rfl) (of_decide_eq_true (by kernel_rfl)) (L := []) (by kernel_rfl) trivial (LrcNat.no) (fun K => f40_e k x y K)

/-! ## 40: slices.Clone[[]byte,byte] -/
noncomputable def f40_2_s {R : Type} (_k : Nat) (a0 : List Int) (K : List Int → Option R) : Option R :=
  bif room 1 (([] : List Int).length + a0.length) then
    K a0
  else
    none
noncomputable def f40_2 {R : Type} (k : Nat) (a0 : List Int) (K : List Int → Option R) : Option R := f40_2_s k a0 K
noncomputable def f40_2_o {R : Type} (_k : Nat) : Orc D R := noOrc
theorem f40_2_o_ok {R : Type} (k : Nat) : OrcOk Try.prog cx (f40_2_o (R := R) k) := OrcOk.no
noncomputable def f40_2_b : Code := bodyOf Try.f40
noncomputable def f40_2_ann : Nat → Option LAnn := fun _key => none
noncomputable def f40_2_lrc {R : Type} (_k : Nat) : Lrc D R := noLrc
noncomputable def f40_2_d {R : Type} (g : List Int → (List Int → Option R) → Option R) (e : Dr D R) : Dr D R := door [.full (.int .u8)] [] (fun (x : (List Int × Unit)) (_y : (Unit)) K => g x.1 (fun z0 => K ⟨.own 0, [some (.row (.int .u8) z0 true)]⟩)) e
theorem f40_2_e {R : Type} (k : Nat) (x : (List Int × Unit)) (y : (Unit)) (K : RV D → Option R) : f40_2_s k x.1 (fun z0 => K ⟨.own 0, [some (.row (.int .u8) z0 true)]⟩) = exec cx (f40_2_o k) (f40_2_lrc k) f40_2_ann kp 8 0 f40_2_b (entry (gives (D := D) [.full (.int .u8)] x) (giveOs (D := D) [] y)) (fin cx Try.f40.results.toList [(.tmp 2, .own 1099511627776 (.int .u8))] 0 K) := by kernel_rfl
theorem f40_2_ok {R : Type} (k : Nat) {e : Dr D R} (he : FnOk Try.prog cx 40 e) : FnOk Try.prog cx 40 (f40_2_d (f40_2 k) e) :=
  he.door fun x y => body_ok (keep := kp) (ann := f40_2_ann) (lrc := f40_2_lrc (R := R) k) (N := 8) (n0 := 0) (c := [(.tmp 2, .own 1099511627776 (.int .u8))]) cxOk mixed (f40_2_o_ok k) (body := f40_2_b) (by kernel_rfl : Try.prog.funcs[40]? = some Try.f40) (by kernel_rfl) (by kernel_rfl) (by kernel_rfl) (by kernel_rfl) (of_decide_eq_true (by kernel_rfl)) (L := []) (by kernel_rfl) trivial (LrcNat.no) (fun K => f40_2_e k x y K)
noncomputable def f40_2L_d {R : Type} (g : List Int → (List Int → Option R) → Option R) (e : Dr D R) : Dr D R := door [.list (.int .u8)] [] (fun (x : (List Int × Unit)) (_y : Unit) K => g x.1 (fun z0 => K ⟨.own 0, [some (.row (.int .u8) z0 true)]⟩)) e
theorem f40_2L_ok {R : Type} (k : Nat) {e : Dr D R} (he : FnOk Try.prog cx 40 e) : FnOk Try.prog cx 40 (f40_2L_d (f40_2 k) e) :=
  he.door fun x y => split_ok (fun K r h => (f40_2_ok k FnOk.no).1 [.full (.int .u8) x.1] [] K r h) (fun hx K r h => (f40_ok k FnOk.no).1 [.nil] [] K r (by have hx : x.1 = [] := hx; rw [hx] at h; exact h)) ((f40_2_ok k FnOk.no).2 [.full (.int .u8) x.1] [])

/-! ## 16: diorama/lace.Read -/
noncomputable def f16_l9 {R : Type} (g_f38 : Nat → List Int → (Int → Int → Bool → Int → Int → Int → Int → List Int → Option R) → Option R) (g_f39 : Nat → Int → Int → Bool → Int → Int → Int → List Int → List Int → (Int → List Int → Option R) → Option R) (g_f40_2 : Nat → List Int → (List Int → Option R) → Option R) : Nat → List Int → Int → Int → Int → Int → Int → Bool → Int → Int → Int → Bool → Int → List (List Int) → List Int → (Int → Int → Bool → Int → Int → Int → Bool → Int → List (List Int) → Option R) → Option R
  | 0, _, _, _, _, _, _, _, _, _, _, _, _, _, _, _ => none
  | k + 1, v11, v12, v13, v14, v15, v16, v17, v18, v19, v20, v21, v22, v23, v24, X0 =>
    bif decide (v14 < v13) then
      bif inb v14 v24.length then
        bif upto (IntKind.i64.wrap (v12 + (v24.getD v14.toNat 0))) v11.length then
          bif (decide (0 ≤ v12)) && (decide (v12 ≤ (IntKind.i64.wrap (v12 + (v24.getD v14.toNat 0))))) then
            g_f40_2 k ((v11.take ((IntKind.i64.wrap (v12 + (v24.getD v14.toNat 0))).toNat)).drop v12.toNat) (fun v25 =>
              bif room 24 (v23.length + ([v25]).length) then
                f16_l9 g_f38 g_f39 g_f40_2 k v11 (IntKind.i64.wrap (v12 + (v24.getD v14.toNat 0))) v13 (IntKind.i64.wrap (v14 + 1)) v15 v16 v17 v18 v19 v20 v21 v22 (v23 ++ ([v25])) v24 X0
              else
                none)
          else
            none
        else
          none
      else
        none
    else
      X0 v15 v16 v17 v18 v19 v20 v21 v22 v23
noncomputable def f16_s {R : Type} (g_f38 : Nat → List Int → (Int → Int → Bool → Int → Int → Int → Int → List Int → Option R) → Option R) (g_f39 : Nat → Int → Int → Bool → Int → Int → Int → List Int → List Int → (Int → List Int → Option R) → Option R) (g_f40_2 : Nat → List Int → (List Int → Option R) → Option R) (k : Nat) (a0 : List Int) (K : Int → Int → Bool → Int → Int → List (List Int) → Option R) : Option R :=
  g_f38 k a0 (fun v1 v2 v3 v4 v5 v6 v7 v8 =>
    bif (v7 != 0) then
      K 0 0 false 0 v7 ([] : List (List Int))
    else
      g_f39 k v1 v2 v3 v4 v5 v6 a0 v8 (fun v9 v10 =>
        bif (v9 != 0) then
          K 0 0 false 0 v9 ([] : List (List Int))
        else
          f16_l9 g_f38 g_f39 g_f40_2 k a0 v6 (v10.length : Int) 0 0 0 false 0 v1 v2 v3 v4 ([] : List (List Int)) v10 (fun _v26 _v27 _v28 _v29 v30 v31 v32 v33 v34 =>
            K v30 v31 v32 v33 0 v34)))
noncomputable def f16 {R : Type} (k : Nat) (a0 : List Int) (K : Int → Int → Bool → Int → Int → List (List Int) → Option R) : Option R := f16_s (f38 (R := R)) (f39 (R := R)) (f40_2 (R := R)) k a0 K
noncomputable def f16_o {R : Type} (g_f38 : Nat → List Int → (Int → Int → Bool → Int → Int → Int → Int → List Int → Option R) → Option R) (g_f39 : Nat → Int → Int → Bool → Int → Int → Int → List Int → List Int → (Int → List Int → Option R) → Option R) (g_f40_2 : Nat → List Int → (List Int → Option R) → Option R) (k : Nat) : Orc D R := (orcAdd 40 (f40_2L_d (g_f40_2 k) noDr) (orcAdd 39 (f39_d (g_f39 k) noDr) (orcAdd 38 (f38_d (g_f38 k) noDr) noOrc)))
theorem f16_o_ok {R : Type} (k : Nat) : OrcOk Try.prog cx (f16_o (R := R) (f38 (R := R)) (f39 (R := R)) (f40_2 (R := R)) k) := (OrcOk.add (f40_2L_ok k FnOk.no) (OrcOk.add (f39_ok k FnOk.no) (OrcOk.add (f38_ok k FnOk.no) OrcOk.no)))
noncomputable def f16_b : Code := bodyOf Try.f16
noncomputable def f16_l9_a : LAnn := ⟨⟨[(.cell 524416 4, .own 68719513600 (.slice (.int .u8)))], [0, 2, 7, 8, 34, 35, 36], [65584, 524416, 68719513600, 328064]⟩, exOf (none) [(0, ⟨[], [2, 7], [65584, 524416, 68719513600]⟩)]⟩
noncomputable def f16_ann : Nat → Option LAnn := fun key => bif Nat.beq key 9 then some f16_l9_a else none
noncomputable def f16_l9_b : Code := loopAt f16_b 0
noncomputable def f16_l9_g {R : Type} (g_f38 : Nat → List Int → (Int → Int → Bool → Int → Int → Int → Int → List Int → Option R) → Option R) (g_f39 : Nat → Int → Int → Bool → Int → Int → Int → List Int → List Int → (Int → List Int → Option R) → Option R) (g_f40_2 : Nat → List Int → (List Int → Option R) → Option R) (k : Nat) (x : (List Int × Unit × Unit × Int × Unit × Int × Int × Unit)) (y : ((Int × Int × Bool × Int × Unit × Unit) × (Int × Int × Bool × Int × Unit × Unit) × List (List Int) × List Int × Unit)) (K : Ex → List (PV D) → List (Option (Am.Obj D)) → Option R) : Option R := f16_l9 g_f38 g_f39 g_f40_2 k x.1 x.2.2.2.1 x.2.2.2.2.2.1 x.2.2.2.2.2.2.1 y.1.1 y.1.2.1 y.1.2.2.1 y.1.2.2.2.1 y.2.1.1 y.2.1.2.1 y.2.1.2.2.1 y.2.1.2.2.2.1 y.2.2.1 y.2.2.2.1 (fun z0 z1 z2 z3 z4 z5 z6 z7 z8 => K (.exit 0) [.ptr 65584 0, .ptr 524416 0] [some (.box [.int .i64 z0, .int .i64 z1, .bool z2, .int .i64 z3, .nil]), some (.box [.int .i64 z4, .int .i64 z5, .bool z6, .int .i64 z7, .own 68719513600]), some (.row (.slice (.int .u8)) z8 true)])
noncomputable def f16_l9_d {R : Type} (g_f38 : Nat → List Int → (Int → Int → Bool → Int → Int → Int → Int → List Int → Option R) → Option R) (g_f39 : Nat → Int → Int → Bool → Int → Int → Int → List Int → List Int → (Int → List Int → Option R) → Option R) (g_f40_2 : Nat → List Int → (List Int → Option R) → Option R) (k : Nat) : Lr D R := ldoor [.list (.int .u8), .ptr 65584 0, .ptr 524416 0, .int .i64, .own 328064, .int .i64, .int .i64] [some (.box [.int .i64, .int .i64, .bool, .int .i64, .nil]), some (.box [.int .i64, .int .i64, .bool, .int .i64, .own 68719513600]), some (.row (.slice (.int .u8)) true), some (.row (.int .i64) true)] (f16_l9_g g_f38 g_f39 g_f40_2 k)
noncomputable def f16_l9_lrc {R : Type} (_g_f38 : Nat → List Int → (Int → Int → Bool → Int → Int → Int → Int → List Int → Option R) → Option R) (_g_f39 : Nat → Int → Int → Bool → Int → Int → Int → List Int → List Int → (Int → List Int → Option R) → Option R) (_g_f40_2 : Nat → List Int → (List Int → Option R) → Option R) (_k : Nat) : Lrc D R := noLrc
theorem f16_l9_e {R : Type} (g_f38 : Nat → List Int → (Int → Int → Bool → Int → Int → Int → Int → List Int → Option R) → Option R) (g_f39 : Nat → Int → Int → Bool → Int → Int → Int → List Int → List Int → (Int → List Int → Option R) → Option R) (g_f40_2 : Nat → List Int → (List Int → Option R) → Option R) (k : Nat) (x : (List Int × Unit × Unit × Int × Unit × Int × Int × Unit)) (y : ((Int × Int × Bool × Int × Unit × Unit) × (Int × Int × Bool × Int × Unit × Unit) × List (List Int) × List Int × Unit)) (K : Ex → List (PV D) → List (Option (Am.Obj D)) → Option R) : f16_l9_g g_f38 g_f39 g_f40_2 (k + 1) x y K = round cx (f16_o g_f38 g_f39 g_f40_2 k) (f16_l9_lrc g_f38 g_f39 g_f40_2 k) f16_ann kp 57 0 f16_l9_a f16_l9_b (gives (D := D) [.list (.int .u8), .ptr 65584 0, .ptr 524416 0, .int .i64, .own 328064, .int .i64, .int .i64] x) (giveGs (D := D) [some (.box [.int .i64, .int .i64, .bool, .int .i64, .nil]), some (.box [.int .i64, .int .i64, .bool, .int .i64, .own 68719513600]), some (.row (.slice (.int .u8)) true), some (.row (.int .i64) true)] y) (fun vs os => f16_l9_d g_f38 g_f39 g_f40_2 k vs os K) K := by kernel_rfl
theorem f16_l9_d_ok {R : Type} : ∀ k, LoopOk Try.prog cx 57 0 f16_ann (f16_l9_d (R := R) (f38 (R := R)) (f39 (R := R)) (f40_2 (R := R)) k) f16_l9_b :=
  loop_ok (keep := kp) (lrc := f16_l9_lrc (R := R) (f38 (R := R)) (f39 (R := R)) (f40_2 (R := R))) cxOk mixed f16_o_ok (show f16_ann (Am.keyOf f16_l9_b) = some f16_l9_a by kernel_rfl) (L := []) (by kernel_rfl) (fun k => trivial) (fun k => LrcNat.no) (fun x y K => by kernel_rfl) (f16_l9_e (f38 (R := R)) (f39 (R := R)) (f40_2 (R := R)))
noncomputable def f16_lrc {R : Type} (g_f38 : Nat → List Int → (Int → Int → Bool → Int → Int → Int → Int → List Int → Option R) → Option R) (g_f39 : Nat → Int → Int → Bool → Int → Int → Int → List Int → List Int → (Int → List Int → Option R) → Option R) (g_f40_2 : Nat → List Int → (List Int → Option R) → Option R) (k : Nat) : Lrc D R := (lrcAdd 9 (f16_l9_d g_f38 g_f39 g_f40_2 k) noLrc)
noncomputable def f16_d {R : Type} (g : List Int → (Int → Int → Bool → Int → Int → List (List Int) → Option R) → Option R) (e : Dr D R) : Dr D R := door [.list (.int .u8)] [] (fun (x : (List Int × Unit)) (_y : (Unit)) K => g x.1 (fun z0 z1 z2 z3 z4 z5 => K ⟨.tup [.agg [.int .i64 z0, .int .i64 z1, .bool z2, .int .i64 z3, .own 0], .int .i64 z4], [some (.row (.slice (.int .u8)) z5 true)]⟩)) e
theorem f16_e {R : Type} (g_f38 : Nat → List Int → (Int → Int → Bool → Int → Int → Int → Int → List Int → Option R) → Option R) (g_f39 : Nat → Int → Int → Bool → Int → Int → Int → List Int → List Int → (Int → List Int → Option R) → Option R) (g_f40_2 : Nat → List Int → (List Int → Option R) → Option R) (k : Nat) (x : (List Int × Unit)) (y : (Unit)) (K : RV D → Option R) : f16_s g_f38 g_f39 g_f40_2 k x.1 (fun z0 z1 z2 z3 z4 z5 => K ⟨.tup [.agg [.int .i64 z0, .int .i64 z1, .bool z2, .int .i64 z3, .own 0], .int .i64 z4], [some (.row (.slice (.int .u8)) z5 true)]⟩) = exec cx (f16_o g_f38 g_f39 g_f40_2 k) (f16_lrc g_f38 g_f39 g_f40_2 k) f16_ann kp 57 0 f16_b (entry (gives (D := D) [.list (.int .u8)] x) (giveOs (D := D) [] y)) (fin cx Try.f16.results.toList [(.cell 65584 4, .own 1099511627776 (.slice (.int .u8)))] 0 K) := by kernel_rfl
theorem f16_ok {R : Type} (k : Nat) {e : Dr D R} (he : FnOk Try.prog cx 16 e) : FnOk Try.prog cx 16 (f16_d (f16 k) e) :=
  he.door fun x y => body_ok (keep := kp) (ann := f16_ann) (lrc := f16_lrc (R := R) (f38 (R := R)) (f39 (R := R)) (f40_2 (R := R)) k) (N := 57) (n0 := 0) (c := [(.cell 65584 4, .own 1099511627776 (.slice (.int .u8)))]) cxOk mixed (f16_o_ok k) (body := f16_b) (by kernel_rfl : Try.prog.funcs[16]? = some Try.f16) (by kernel_rfl) (by kernel_rfl) (by kernel_rfl) (by kernel_rfl) (of_decide_eq_true (by kernel_rfl)) (L := [f16_l9_b]) (by kernel_rfl) ⟨(f16_l9_d_ok k).use (by kernel_rfl), trivial⟩ ((LrcNat.add (f16_l9_d_ok k).2 LrcNat.no)) (fun K => f16_e (f38 (R := R)) (f39 (R := R)) (f40_2 (R := R)) k x y K)

/-! ## 19: diorama/dioramaref00.EqLists -/
noncomputable def f19_l4 {R : Type} (g_f14 : Nat → List Int → List Int → (Bool → Option R) → Option R) : Nat → List (List Int) → List (List Int) → Int → Option R → (Bool → Option R) → Option R
  | 0, _, _, _, _, _ => none
  | k + 1, v1, v2, v3, X0, X1 =>
    bif decide (v3 < (v1.length : Int)) then
      bif inb v3 v1.length then
        bif inb v3 v2.length then
          g_f14 k (v1.getD v3.toNat []) (v2.getD v3.toNat []) (fun v4 =>
            bif (!v4) then
              X1 false
            else
              f19_l4 g_f14 k v1 v2 (IntKind.i64.wrap (v3 + 1)) X0 X1)
        else
          none
      else
        none
    else
      X0
noncomputable def f19_s {R : Type} (g_f14 : Nat → List Int → List Int → (Bool → Option R) → Option R) (k : Nat) (a0 : List (List Int)) (a1 : List (List Int)) (K : Bool → Option R) : Option R :=
  bif ((a0.length : Int) != (a1.length : Int)) then
    K false
  else
    f19_l4 g_f14 k a0 a1 0 (
      K true) (fun v5 =>
      K v5)
noncomputable def f19 {R : Type} (k : Nat) (a0 : List (List Int)) (a1 : List (List Int)) (K : Bool → Option R) : Option R := f19_s (f14 (R := R)) k a0 a1 K
noncomputable def f19_o {R : Type} (g_f14 : Nat → List Int → List Int → (Bool → Option R) → Option R) (k : Nat) : Orc D R := (orcAdd 14 (f14_d (g_f14 k) noDr) noOrc)
theorem f19_o_ok {R : Type} (k : Nat) : OrcOk Try.prog cx (f19_o (R := R) (f14 (R := R)) k) := (OrcOk.add (f14_ok k FnOk.no) OrcOk.no)
noncomputable def f19_b : Code := bodyOf Try.f19
noncomputable def f19_l4_a : LAnn := ⟨⟨[], [0, 1, 5], []⟩, exOf (some ⟨[], [4], []⟩) [(0, ⟨[], [], []⟩)]⟩
noncomputable def f19_ann : Nat → Option LAnn := fun key => bif Nat.beq key 4 then some f19_l4_a else none
noncomputable def f19_l4_b : Code := loopAt f19_b 0
noncomputable def f19_l4_g {R : Type} (g_f14 : Nat → List Int → List Int → (Bool → Option R) → Option R) (k : Nat) (x : (List (List Int) × List (List Int) × Int × Unit)) (_y : (Unit)) (K : Ex → List (PV D) → List (Option (Am.Obj D)) → Option R) : Option R := f19_l4 g_f14 k x.1 x.2.1 x.2.2.1 (K (.exit 0) [] []) (fun z0 => K (.ret) [.bool z0] [])
noncomputable def f19_l4_d {R : Type} (g_f14 : Nat → List Int → List Int → (Bool → Option R) → Option R) (k : Nat) : Lr D R := ldoor [.list (.slice (.int .u8)), .list (.slice (.int .u8)), .int .i64] [] (f19_l4_g g_f14 k)
noncomputable def f19_l4_lrc {R : Type} (_g_f14 : Nat → List Int → List Int → (Bool → Option R) → Option R) (_k : Nat) : Lrc D R := noLrc
theorem f19_l4_e {R : Type} (g_f14 : Nat → List Int → List Int → (Bool → Option R) → Option R) (k : Nat) (x : (List (List Int) × List (List Int) × Int × Unit)) (y : (Unit)) (K : Ex → List (PV D) → List (Option (Am.Obj D)) → Option R) : f19_l4_g g_f14 (k + 1) x y K = round cx (f19_o g_f14 k) (f19_l4_lrc g_f14 k) f19_ann kp 27 0 f19_l4_a f19_l4_b (gives (D := D) [.list (.slice (.int .u8)), .list (.slice (.int .u8)), .int .i64] x) (giveGs (D := D) [] y) (fun vs os => f19_l4_d g_f14 k vs os K) K := by kernel_rfl
theorem f19_l4_d_ok {R : Type} : ∀ k, LoopOk Try.prog cx 27 0 f19_ann (f19_l4_d (R := R) (f14 (R := R)) k) f19_l4_b :=
  loop_ok (keep := kp) (lrc := f19_l4_lrc (R := R) (f14 (R := R))) cxOk mixed f19_o_ok (show f19_ann (Am.keyOf f19_l4_b) = some f19_l4_a by kernel_rfl) (L := []) (by kernel_rfl) (fun k => trivial) (fun k => LrcNat.no) (fun x y K => by kernel_rfl) (f19_l4_e (f14 (R := R)))
noncomputable def f19_lrc {R : Type} (g_f14 : Nat → List Int → List Int → (Bool → Option R) → Option R) (k : Nat) : Lrc D R := (lrcAdd 4 (f19_l4_d g_f14 k) noLrc)
noncomputable def f19_d {R : Type} (g : List (List Int) → List (List Int) → (Bool → Option R) → Option R) (e : Dr D R) : Dr D R := door [.list (.slice (.int .u8)), .list (.slice (.int .u8))] [] (fun (x : (List (List Int) × List (List Int) × Unit)) (_y : (Unit)) K => g x.1 x.2.1 (fun z0 => K ⟨.bool z0, []⟩)) e
theorem f19_e {R : Type} (g_f14 : Nat → List Int → List Int → (Bool → Option R) → Option R) (k : Nat) (x : (List (List Int) × List (List Int) × Unit)) (y : (Unit)) (K : RV D → Option R) : f19_s g_f14 k x.1 x.2.1 (fun z0 => K ⟨.bool z0, []⟩) = exec cx (f19_o g_f14 k) (f19_lrc g_f14 k) f19_ann kp 27 0 f19_b (entry (gives (D := D) [.list (.slice (.int .u8)), .list (.slice (.int .u8))] x) (giveOs (D := D) [] y)) (fin cx Try.f19.results.toList [] 0 K) := by kernel_rfl
theorem f19_ok {R : Type} (k : Nat) {e : Dr D R} (he : FnOk Try.prog cx 19 e) : FnOk Try.prog cx 19 (f19_d (f19 k) e) :=
  he.door fun x y => body_ok (keep := kp) (ann := f19_ann) (lrc := f19_lrc (R := R) (f14 (R := R)) k) (N := 27) (n0 := 0) (c := []) cxOk mixed (f19_o_ok k) (body := f19_b) (by kernel_rfl : Try.prog.funcs[19]? = some Try.f19) (by kernel_rfl) (by kernel_rfl) (by kernel_rfl) (by kernel_rfl) (of_decide_eq_true (by kernel_rfl)) (L := [f19_l4_b]) (by kernel_rfl) ⟨(f19_l4_d_ok k).use (by kernel_rfl), trivial⟩ ((LrcNat.add (f19_l4_d_ok k).2 LrcNat.no)) (fun K => f19_e (f14 (R := R)) k x y K)

/-! ## 17: diorama/dioramaref00.EqBlock -/
noncomputable def f17_s {R : Type} (g_f19 : Nat → List (List Int) → List (List Int) → (Bool → Option R) → Option R) (k : Nat) (a0 : Int) (a1 : Int) (a2 : Bool) (a3 : Int) (a4 : List (List Int)) (a5 : Int) (a6 : Int) (a7 : Bool) (a8 : Int) (a9 : List (List Int)) (K : Bool → Option R) : Option R :=
  bif (a0 == a5) then
    bif (a1 == a6) then
      bif (a2 == a7) then
        bif (a3 == a8) then
          g_f19 k a4 a9 (fun v1 =>
            K v1)
        else
          K false
      else
        K false
    else
      K false
  else
    K false
noncomputable def f17 {R : Type} (k : Nat) (a0 : Int) (a1 : Int) (a2 : Bool) (a3 : Int) (a4 : List (List Int)) (a5 : Int) (a6 : Int) (a7 : Bool) (a8 : Int) (a9 : List (List Int)) (K : Bool → Option R) : Option R := f17_s (f19 (R := R)) k a0 a1 a2 a3 a4 a5 a6 a7 a8 a9 K
noncomputable def f17_o {R : Type} (g_f19 : Nat → List (List Int) → List (List Int) → (Bool → Option R) → Option R) (k : Nat) : Orc D R := (orcAdd 19 (f19_d (g_f19 k) noDr) noOrc)
theorem f17_o_ok {R : Type} (k : Nat) : OrcOk Try.prog cx (f17_o (R := R) (f19 (R := R)) k) := (OrcOk.add (f19_ok k FnOk.no) OrcOk.no)
noncomputable def f17_b : Code := bodyOf Try.f17
noncomputable def f17_ann : Nat → Option LAnn := fun _key => none
noncomputable def f17_lrc {R : Type} (_g_f19 : Nat → List (List Int) → List (List Int) → (Bool → Option R) → Option R) (_k : Nat) : Lrc D R := noLrc
noncomputable def f17_d {R : Type} (g : Int → Int → Bool → Int → List (List Int) → Int → Int → Bool → Int → List (List Int) → (Bool → Option R) → Option R) (e : Dr D R) : Dr D R := door [.agg [.int .i64, .int .i64, .bool, .int .i64, .list (.slice (.int .u8))], .agg [.int .i64, .int .i64, .bool, .int .i64, .list (.slice (.int .u8))]] [] (fun (x : ((Int × Int × Bool × Int × List (List Int) × Unit) × (Int × Int × Bool × Int × List (List Int) × Unit) × Unit)) (_y : (Unit)) K => g x.1.1 x.1.2.1 x.1.2.2.1 x.1.2.2.2.1 x.1.2.2.2.2.1 x.2.1.1 x.2.1.2.1 x.2.1.2.2.1 x.2.1.2.2.2.1 x.2.1.2.2.2.2.1 (fun z0 => K ⟨.bool z0, []⟩)) e
theorem f17_e {R : Type} (g_f19 : Nat → List (List Int) → List (List Int) → (Bool → Option R) → Option R) (k : Nat) (x : ((Int × Int × Bool × Int × List (List Int) × Unit) × (Int × Int × Bool × Int × List (List Int) × Unit) × Unit)) (y : (Unit)) (K : RV D → Option R) : f17_s g_f19 k x.1.1 x.1.2.1 x.1.2.2.1 x.1.2.2.2.1 x.1.2.2.2.2.1 x.2.1.1 x.2.1.2.1 x.2.1.2.2.1 x.2.1.2.2.2.1 x.2.1.2.2.2.2.1 (fun z0 => K ⟨.bool z0, []⟩) = exec cx (f17_o g_f19 k) (f17_lrc g_f19 k) f17_ann kp 38 0 f17_b (entry (gives (D := D) [.agg [.int .i64, .int .i64, .bool, .int .i64, .list (.slice (.int .u8))], .agg [.int .i64, .int .i64, .bool, .int .i64, .list (.slice (.int .u8))]] x) (giveOs (D := D) [] y)) (fin cx Try.f17.results.toList [] 0 K) := by kernel_rfl
theorem f17_ok {R : Type} (k : Nat) {e : Dr D R} (he : FnOk Try.prog cx 17 e) : FnOk Try.prog cx 17 (f17_d (f17 k) e) :=
  he.door fun x y => body_ok (keep := kp) (ann := f17_ann) (lrc := f17_lrc (R := R) (f19 (R := R)) k) (N := 38) (n0 := 0) (c := []) cxOk mixed (f17_o_ok k) (body := f17_b) (by kernel_rfl : Try.prog.funcs[17]? = some Try.f17) (by kernel_rfl) (by kernel_rfl) (by kernel_rfl) (by kernel_rfl) (of_decide_eq_true (by kernel_rfl)) (L := []) (by kernel_rfl) trivial (LrcNat.no) (fun K => f17_e (f19 (R := R)) k x y K)

/-! ## 15: diorama/dioramalaw05.awake -/
noncomputable def f15_s {R : Type} (g_f10 : Nat → Int → Int → Bool → Int → List (List Int) → (Int → List Int → Option R) → Option R) (g_f16 : Nat → List Int → (Int → Int → Bool → Int → Int → List (List Int) → Option R) → Option R) (g_f17 : Nat → Int → Int → Bool → Int → List (List Int) → Int → Int → Bool → Int → List (List Int) → (Bool → Option R) → Option R) (k : Nat) (K : Bool → Option R) : Option R :=
  g_f10 k 3 (-2) true 2 ([[1, 2], [3, 4]]) (fun v1 v2 =>
    bif (v1 != 0) then
      K false
    else
      bif ((v2.length : Int) != 9) then
        K false
      else
        g_f16 k v2 (fun v3 v4 v5 v6 v7 v8 =>
          bif (v7 == 0) then
            g_f17 k 3 (-2) true 2 ([[1, 2], [3, 4]]) v3 v4 v5 v6 v8 (fun v9 =>
              K v9)
          else
            K false))
noncomputable def f15 {R : Type} (k : Nat) (K : Bool → Option R) : Option R := f15_s (f10 (R := R)) (f16 (R := R)) (f17 (R := R)) k K
noncomputable def f15_o {R : Type} (g_f10 : Nat → Int → Int → Bool → Int → List (List Int) → (Int → List Int → Option R) → Option R) (g_f16 : Nat → List Int → (Int → Int → Bool → Int → Int → List (List Int) → Option R) → Option R) (g_f17 : Nat → Int → Int → Bool → Int → List (List Int) → Int → Int → Bool → Int → List (List Int) → (Bool → Option R) → Option R) (k : Nat) : Orc D R := (orcAdd 17 (f17_d (g_f17 k) noDr) (orcAdd 16 (f16_d (g_f16 k) noDr) (orcAdd 10 (f10_d (g_f10 k) noDr) noOrc)))
theorem f15_o_ok {R : Type} (k : Nat) : OrcOk Try.prog cx (f15_o (R := R) (f10 (R := R)) (f16 (R := R)) (f17 (R := R)) k) := (OrcOk.add (f17_ok k FnOk.no) (OrcOk.add (f16_ok k FnOk.no) (OrcOk.add (f10_ok k FnOk.no) OrcOk.no)))
noncomputable def f15_b : Code := bodyOf Try.f15
noncomputable def f15_ann : Nat → Option LAnn := fun _key => none
noncomputable def f15_lrc {R : Type} (_g_f10 : Nat → Int → Int → Bool → Int → List (List Int) → (Int → List Int → Option R) → Option R) (_g_f16 : Nat → List Int → (Int → Int → Bool → Int → Int → List (List Int) → Option R) → Option R) (_g_f17 : Nat → Int → Int → Bool → Int → List (List Int) → Int → Int → Bool → Int → List (List Int) → (Bool → Option R) → Option R) (_k : Nat) : Lrc D R := noLrc
noncomputable def f15_d {R : Type} (g : (Bool → Option R) → Option R) (e : Dr D R) : Dr D R := door [] [] (fun (_x : (Unit)) (_y : (Unit)) K => g (fun z0 => K ⟨.bool z0, []⟩)) e
theorem f15_e {R : Type} (g_f10 : Nat → Int → Int → Bool → Int → List (List Int) → (Int → List Int → Option R) → Option R) (g_f16 : Nat → List Int → (Int → Int → Bool → Int → Int → List (List Int) → Option R) → Option R) (g_f17 : Nat → Int → Int → Bool → Int → List (List Int) → Int → Int → Bool → Int → List (List Int) → (Bool → Option R) → Option R) (k : Nat) (x : (Unit)) (y : (Unit)) (K : RV D → Option R) : f15_s g_f10 g_f16 g_f17 k  (fun z0 => K ⟨.bool z0, []⟩) = exec cx (f15_o g_f10 g_f16 g_f17 k) (f15_lrc g_f10 g_f16 g_f17 k) f15_ann kp 34 0 f15_b (entry (gives (D := D) [] x) (giveOs (D := D) [] y)) (fin cx Try.f15.results.toList [] 0 K) := by kernel_rfl
theorem f15_ok {R : Type} (k : Nat) {e : Dr D R} (he : FnOk Try.prog cx 15 e) : FnOk Try.prog cx 15 (f15_d (f15 k) e) :=
  he.door fun x y => body_ok (keep := kp) (ann := f15_ann) (lrc := f15_lrc (R := R) (f10 (R := R)) (f16 (R := R)) (f17 (R := R)) k) (N := 34) (n0 := 0) (c := []) cxOk mixed (f15_o_ok k) (body := f15_b) (by kernel_rfl : Try.prog.funcs[15]? = some Try.f15) (by kernel_rfl) (by kernel_rfl) (by kernel_rfl) (by kernel_rfl) (of_decide_eq_true (by kernel_rfl)) (L := []) (by kernel_rfl) trivial (LrcNat.no) (fun K => f15_e (f10 (R := R)) (f16 (R := R)) (f17 (R := R)) k x y K)

/-! ## 3: diorama/dioramalaw05.LaceWrites -/
noncomputable def f3_s {R : Type} (g_f9 : Nat → List (List Int) → (Bool → Option R) → Option R) (g_f12 : Nat → Int → Int → Bool → Int → List (List Int) → (Int → Option R) → Option R) (g_f10 : Nat → Int → Int → Bool → Int → List (List Int) → (Int → List Int → Option R) → Option R) (g_f13 : Nat → Int → Int → Bool → Int → List (List Int) → (Int → Option R) → Option R) (g_f11 : Nat → Int → Int → Bool → Int → List (List Int) → (Int → List Int → Option R) → Option R) (g_f14 : Nat → List Int → List Int → (Bool → Option R) → Option R) (g_f15 : Nat → (Bool → Option R) → Option R) (k : Nat) (a0 : Int) (a1 : Int) (a2 : Bool) (a3 : Int) (a4 : List (List Int)) (K : Bool → Option R) : Option R :=
  g_f9 k a4 (fun v1 =>
    bif (!v1) then
      K true
    else
      g_f10 k a0 a1 a2 a3 a4 (fun v2 v3 =>
        g_f11 k a0 a1 a2 a3 a4 (fun v4 v5 =>
          g_f12 k a0 a1 a2 a3 a4 (fun v6 =>
            g_f13 k a0 a1 a2 a3 a4 (fun v7 =>
              bif (v6 == v7) then
                g_f14 k v3 v5 (fun v8 =>
                  bif v8 then
                    bif (v2 == v4) then
                      g_f15 k (fun v9 =>
                        K v9)
                    else
                      K false
                  else
                    K false)
              else
                K false)))))
noncomputable def f3 {R : Type} (k : Nat) (a0 : Int) (a1 : Int) (a2 : Bool) (a3 : Int) (a4 : List (List Int)) (K : Bool → Option R) : Option R := f3_s (f9 (R := R)) (f12 (R := R)) (f10 (R := R)) (f13 (R := R)) (f11 (R := R)) (f14 (R := R)) (f15 (R := R)) k a0 a1 a2 a3 a4 K
noncomputable def f3_o {R : Type} (g_f9 : Nat → List (List Int) → (Bool → Option R) → Option R) (g_f12 : Nat → Int → Int → Bool → Int → List (List Int) → (Int → Option R) → Option R) (g_f10 : Nat → Int → Int → Bool → Int → List (List Int) → (Int → List Int → Option R) → Option R) (g_f13 : Nat → Int → Int → Bool → Int → List (List Int) → (Int → Option R) → Option R) (g_f11 : Nat → Int → Int → Bool → Int → List (List Int) → (Int → List Int → Option R) → Option R) (g_f14 : Nat → List Int → List Int → (Bool → Option R) → Option R) (g_f15 : Nat → (Bool → Option R) → Option R) (k : Nat) : Orc D R := (orcAdd 15 (f15_d (g_f15 k) noDr) (orcAdd 14 (f14_d (g_f14 k) noDr) (orcAdd 11 (f11_d (g_f11 k) noDr) (orcAdd 13 (f13_d (g_f13 k) noDr) (orcAdd 10 (f10_d (g_f10 k) noDr) (orcAdd 12 (f12_d (g_f12 k) noDr) (orcAdd 9 (f9_d (g_f9 k) noDr) noOrc)))))))
theorem f3_o_ok {R : Type} (k : Nat) : OrcOk Try.prog cx (f3_o (R := R) (f9 (R := R)) (f12 (R := R)) (f10 (R := R)) (f13 (R := R)) (f11 (R := R)) (f14 (R := R)) (f15 (R := R)) k) := (OrcOk.add (f15_ok k FnOk.no) (OrcOk.add (f14_ok k FnOk.no) (OrcOk.add (f11_ok k FnOk.no) (OrcOk.add (f13_ok k FnOk.no) (OrcOk.add (f10_ok k FnOk.no) (OrcOk.add (f12_ok k FnOk.no) (OrcOk.add (f9_ok k FnOk.no) OrcOk.no)))))))
noncomputable def f3_b : Code := bodyOf Try.f3
noncomputable def f3_ann : Nat → Option LAnn := fun _key => none
noncomputable def f3_lrc {R : Type} (_g_f9 : Nat → List (List Int) → (Bool → Option R) → Option R) (_g_f12 : Nat → Int → Int → Bool → Int → List (List Int) → (Int → Option R) → Option R) (_g_f10 : Nat → Int → Int → Bool → Int → List (List Int) → (Int → List Int → Option R) → Option R) (_g_f13 : Nat → Int → Int → Bool → Int → List (List Int) → (Int → Option R) → Option R) (_g_f11 : Nat → Int → Int → Bool → Int → List (List Int) → (Int → List Int → Option R) → Option R) (_g_f14 : Nat → List Int → List Int → (Bool → Option R) → Option R) (_g_f15 : Nat → (Bool → Option R) → Option R) (_k : Nat) : Lrc D R := noLrc
noncomputable def f3_d {R : Type} (g : Int → Int → Bool → Int → List (List Int) → (Bool → Option R) → Option R) (e : Dr D R) : Dr D R := door [.agg [.int .i64, .int .i64, .bool, .int .i64, .list (.slice (.int .u8))]] [] (fun (x : ((Int × Int × Bool × Int × List (List Int) × Unit) × Unit)) (_y : (Unit)) K => g x.1.1 x.1.2.1 x.1.2.2.1 x.1.2.2.2.1 x.1.2.2.2.2.1 (fun z0 => K ⟨.bool z0, []⟩)) e
theorem f3_e {R : Type} (g_f9 : Nat → List (List Int) → (Bool → Option R) → Option R) (g_f12 : Nat → Int → Int → Bool → Int → List (List Int) → (Int → Option R) → Option R) (g_f10 : Nat → Int → Int → Bool → Int → List (List Int) → (Int → List Int → Option R) → Option R) (g_f13 : Nat → Int → Int → Bool → Int → List (List Int) → (Int → Option R) → Option R) (g_f11 : Nat → Int → Int → Bool → Int → List (List Int) → (Int → List Int → Option R) → Option R) (g_f14 : Nat → List Int → List Int → (Bool → Option R) → Option R) (g_f15 : Nat → (Bool → Option R) → Option R) (k : Nat) (x : ((Int × Int × Bool × Int × List (List Int) × Unit) × Unit)) (y : (Unit)) (K : RV D → Option R) : f3_s g_f9 g_f12 g_f10 g_f13 g_f11 g_f14 g_f15 k x.1.1 x.1.2.1 x.1.2.2.1 x.1.2.2.2.1 x.1.2.2.2.2.1 (fun z0 => K ⟨.bool z0, []⟩) = exec cx (f3_o g_f9 g_f12 g_f10 g_f13 g_f11 g_f14 g_f15 k) (f3_lrc g_f9 g_f12 g_f10 g_f13 g_f11 g_f14 g_f15 k) f3_ann kp 39 0 f3_b (entry (gives (D := D) [.agg [.int .i64, .int .i64, .bool, .int .i64, .list (.slice (.int .u8))]] x) (giveOs (D := D) [] y)) (fin cx Try.f3.results.toList [] 0 K) := by kernel_rfl
theorem f3_ok {R : Type} (k : Nat) {e : Dr D R} (he : FnOk Try.prog cx 3 e) : FnOk Try.prog cx 3 (f3_d (f3 k) e) :=
  he.door fun x y => body_ok (keep := kp) (ann := f3_ann) (lrc := f3_lrc (R := R) (f9 (R := R)) (f12 (R := R)) (f10 (R := R)) (f13 (R := R)) (f11 (R := R)) (f14 (R := R)) (f15 (R := R)) k) (N := 39) (n0 := 0) (c := []) cxOk mixed (f3_o_ok k) (body := f3_b) (by kernel_rfl : Try.prog.funcs[3]? = some Try.f3) (by kernel_rfl) (by kernel_rfl) (by kernel_rfl) (by kernel_rfl) (of_decide_eq_true (by kernel_rfl)) (L := []) (by kernel_rfl) trivial (LrcNat.no) (fun K => f3_e (f9 (R := R)) (f12 (R := R)) (f10 (R := R)) (f13 (R := R)) (f11 (R := R)) (f14 (R := R)) (f15 (R := R)) k x y K)


end Go.Proofs.Ytnmoccdnkpkhhaa
