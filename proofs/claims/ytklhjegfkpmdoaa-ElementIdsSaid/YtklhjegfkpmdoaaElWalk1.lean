/- Proved: each of these functions does what a plain function says. Conditions: none. -/
import Derived.Test.YtklhjegfkpmdoaaMach4
import Derived.Test.YtklhjegfkpmdoaaProg

/-! The types of this program, for the machine. -/
namespace Go.Proofs.Ytklhjegfkpmdoaa
open Go Go.Am
abbrev D0 : Type := Int × ByteArray × Int × Bool × Bool
abbrev D1 : Type := Int × Int × Int × Int × Int × Bool
inductive D2 : Type where
  | mk (x0 : Int) (x1 : List Int) (x2 : List D2) (x3 : Bool)
def D2.c0 : D2 → Int
  | .mk x0 _ _ _ => x0
def D2.c1 : D2 → List Int
  | .mk _ x1 _ _ => x1
def D2.c2 : D2 → List D2
  | .mk _ _ x2 _ => x2
def D2.c3 : D2 → Bool
  | .mk _ _ _ x3 => x3
abbrev D3 : Type := List D2 × Int × Int × Int
abbrev D4 : Type := Int × Int
abbrev D5 : Type := List Int × Int × Int × List D1 × Int × Int
abbrev D6 : Type := List Int × List D1 × Int × Int × Int
abbrev D7 : Type := Bool × Bool
abbrev D8 : Type := Int × Int × Bool × Bool × Int
abbrev D9 : Type := Int × Int × Int × Int × Bool
abbrev D10 : Type := Int × Int × Int × Bool
abbrev D11 : Type := Int × Int × Int × Bool
noncomputable def D : Nat → Type
  | 0 => D0
  | 1 => D1
  | 2 => D2
  | 3 => D3
  | 4 => D4
  | 5 => D5
  | 6 => D6
  | 7 => D7
  | 8 => D8
  | 9 => D9
  | 10 => D10
  | 11 => D11
  | _ => Unit
noncomputable def flds : Nat → List Ty
  | 0 => [.int .i64, .str, .int .i64, .bool, .bool]
  | 1 => [.int .i64, .int .i64, .int .i64, .int .i64, .int .i64, .bool]
  | 2 => [.int .i64, (.slice (.int .u8)), (.slice (.named 2)), .bool]
  | 3 => [(.slice (.named 2)), .int .i64, .int .i64, .int .i64]
  | 4 => [.int .i64, .int .i64]
  | 5 => [(.slice (.int .u8)), .int .i64, .int .i64, (.slice (.named 1)), .int .i64, .int .i64]
  | 6 => [(.slice (.int .u8)), (.slice (.named 1)), .int .i64, .int .i64, .int .i64]
  | 7 => [.bool, .bool]
  | 8 => [.int .i64, .int .i64, .bool, .bool, .int .i64]
  | 9 => [.int .i64, .int .i64, .int .i64, .int .i64, .bool]
  | 10 => [.int .i64, .int .i64, .int .i64, .bool]
  | 11 => [.int .i64, .int .i64, .int .i64, .bool]
  | _ => []
noncomputable def toT : (r : Nat) → D r → Tup D (flds r)
  | 0 => fun (x : D0) => x
  | 1 => fun (x : D1) => x
  | 2 => fun (x : D2) => (x.c0, x.c1, x.c2, x.c3)
  | 3 => fun (x : D3) => x
  | 4 => fun (x : D4) => x
  | 5 => fun (x : D5) => x
  | 6 => fun (x : D6) => x
  | 7 => fun (x : D7) => x
  | 8 => fun (x : D8) => x
  | 9 => fun (x : D9) => x
  | 10 => fun (x : D10) => x
  | 11 => fun (x : D11) => x
  | _n + 12 => fun _ => ()
noncomputable def ofT : (r : Nat) → Tup D (flds r) → D r
  | 0 => fun (x : D0) => x
  | 1 => fun (x : D1) => x
  | 2 => fun (x : Int × List Int × List D2 × Bool) => D2.mk x.1 x.2.1 x.2.2.1 x.2.2.2
  | 3 => fun (x : D3) => x
  | 4 => fun (x : D4) => x
  | 5 => fun (x : D5) => x
  | 6 => fun (x : D6) => x
  | 7 => fun (x : D7) => x
  | 8 => fun (x : D8) => x
  | 9 => fun (x : D9) => x
  | 10 => fun (x : D10) => x
  | 11 => fun (x : D11) => x
  | _n + 12 => fun _ => ()
noncomputable def zero2 : D2 := D2.mk 0 [] [] false
noncomputable def zero0 : D0 := (0, ByteArray.empty, 0, false, false)
noncomputable def zero1 : D1 := (0, 0, 0, 0, 0, false)
noncomputable def zero3 : D3 := ([], 0, 0, 0)
noncomputable def zero4 : D4 := (0, 0)
noncomputable def zero5 : D5 := ([], 0, 0, [], 0, 0)
noncomputable def zero6 : D6 := ([], [], 0, 0, 0)
noncomputable def zero7 : D7 := (false, false)
noncomputable def zero8 : D8 := (0, 0, false, false, 0)
noncomputable def zero9 : D9 := (0, 0, 0, 0, false)
noncomputable def zero10 : D10 := (0, 0, 0, false)
noncomputable def zero11 : D11 := (0, 0, 0, false)
noncomputable def zeros : (r : Nat) → D r
  | 0 => zero0
  | 1 => zero1
  | 2 => zero2
  | 3 => zero3
  | 4 => zero4
  | 5 => zero5
  | 6 => zero6
  | 7 => zero7
  | 8 => zero8
  | 9 => zero9
  | 10 => zero10
  | 11 => zero11
  | _n + 12 => ()
noncomputable def deep0 (v : D0) : List IV := [.int .i64 v.1] ++ [.str v.2.1] ++ [.int .i64 v.2.2.1] ++ [.bool v.2.2.2.1] ++ [.bool v.2.2.2.2]
noncomputable def deep1 (v : D1) : List IV := [.int .i64 v.1] ++ [.int .i64 v.2.1] ++ [.int .i64 v.2.2.1] ++ [.int .i64 v.2.2.2.1] ++ [.int .i64 v.2.2.2.2.1] ++ [.bool v.2.2.2.2.2]
mutual
noncomputable def deep2 : D2 → List IV
  | .mk x0 x1 x2 x3 => [.int .i64 x0] ++ [.list 1 (x1.map fun y => [.int .u8 y])] ++ [.list 4 (deep2s x2)] ++ [.bool x3]
noncomputable def deep2s : List D2 → List (List IV)
  | [] => []
  | x :: l => deep2 x :: deep2s l
end
theorem deep2s_map : ∀ l, deep2s l = l.map deep2
  | [] => by rw [deep2s]; rfl
  | _x :: l => by rw [deep2s, deep2s_map l]; rfl
noncomputable def deep3 (v : D3) : List IV := [.list 4 (v.1.map fun y => deep2 y)] ++ [.int .i64 v.2.1] ++ [.int .i64 v.2.2.1] ++ [.int .i64 v.2.2.2]
noncomputable def deep4 (v : D4) : List IV := [.int .i64 v.1] ++ [.int .i64 v.2]
noncomputable def deep5 (v : D5) : List IV := [.list 1 (v.1.map fun y => [.int .u8 y])] ++ [.int .i64 v.2.1] ++ [.int .i64 v.2.2.1] ++ [.list 6 (v.2.2.2.1.map fun y => deep1 y)] ++ [.int .i64 v.2.2.2.2.1] ++ [.int .i64 v.2.2.2.2.2]
noncomputable def deep6 (v : D6) : List IV := [.list 1 (v.1.map fun y => [.int .u8 y])] ++ [.list 6 (v.2.1.map fun y => deep1 y)] ++ [.int .i64 v.2.2.1] ++ [.int .i64 v.2.2.2.1] ++ [.int .i64 v.2.2.2.2]
noncomputable def deep7 (v : D7) : List IV := [.bool v.1] ++ [.bool v.2]
noncomputable def deep8 (v : D8) : List IV := [.int .i64 v.1] ++ [.int .i64 v.2.1] ++ [.bool v.2.2.1] ++ [.bool v.2.2.2.1] ++ [.int .i64 v.2.2.2.2]
noncomputable def deep9 (v : D9) : List IV := [.int .i64 v.1] ++ [.int .i64 v.2.1] ++ [.int .i64 v.2.2.1] ++ [.int .i64 v.2.2.2.1] ++ [.bool v.2.2.2.2]
noncomputable def deep10 (v : D10) : List IV := [.int .i64 v.1] ++ [.int .i64 v.2.1] ++ [.int .i64 v.2.2.1] ++ [.bool v.2.2.2]
noncomputable def deep11 (v : D11) : List IV := [.int .i64 v.1] ++ [.int .i64 v.2.1] ++ [.int .i64 v.2.2.1] ++ [.bool v.2.2.2]
noncomputable def deeps : (r : Nat) → D r → List IV
  | 0 => deep0
  | 1 => deep1
  | 2 => deep2
  | 3 => deep3
  | 4 => deep4
  | 5 => deep5
  | 6 => deep6
  | 7 => deep7
  | 8 => deep8
  | 9 => deep9
  | 10 => deep10
  | 11 => deep11
  | _n + 12 => fun _ => []
noncomputable def tab : List (Nat × TI D) := [
  (3, ⟨.int .i64, 1, 8, false, [.int .i64 0], some (.int .i64), false⟩),
  (4, ⟨.bool, 1, 1, false, [.bool false], some .bool, false⟩),
  (22, ⟨.slice 5, 1, 24, false, [.nil], some (.slice (.int .u8)), false⟩),
  (29, ⟨.slice 55, 1, 24, false, [.nil], some (.slice (.named 2)), false⟩),
  (35, ⟨.slice 93, 1, 24, false, [.nil], some (.slice (.named 1)), false⟩),
  (55, ⟨.struct [(0, 1, false), (1, 1, false), (2, 1, false), (3, 1, false)], 4, 64, true, [.int .i64 0, .nil, .nil, .bool false], some (.named 2), false⟩),
  (23, ⟨.int .i64, 1, 8, false, [.int .i64 0], some (.int .i64), false⟩),
  (92, ⟨.struct [(0, 1, false), (1, 1, false), (2, 1, false), (3, 1, false), (4, 1, false)], 5, 72, true, [.nil, .nil, .int .i64 0, .int .i64 0, .int .i64 0], some (.named 6), false⟩),
  (5, ⟨.int .u8, 1, 1, false, [.int .u8 0], some (.int .u8), false⟩),
  (124, ⟨.struct [(0, 1, false), (1, 1, false), (2, 1, false), (3, 1, false), (4, 1, false)], 5, 40, true, [.int .i64 0, .int .i64 0, .int .i64 0, .int .i64 0, .bool false], some (.named 9), false⟩),
  (139, ⟨.struct [(0, 1, false), (1, 1, false), (2, 1, false), (3, 1, false)], 4, 32, true, [.int .i64 0, .int .i64 0, .int .i64 0, .bool false], some (.named 11), false⟩),
  (93, ⟨.struct [(0, 1, false), (1, 1, false), (2, 1, false), (3, 1, false), (4, 1, false), (5, 1, false)], 6, 48, true, [.int .i64 0, .int .i64 0, .int .i64 0, .int .i64 0, .int .i64 0, .bool false], some (.named 1), true⟩),
  (9, ⟨.str, 1, 16, false, [.str ByteArray.empty], some .str, false⟩),
  (48, ⟨.struct [(0, 1, false), (1, 1, false), (2, 1, false), (3, 1, false), (4, 1, false)], 5, 40, true, [.int .i64 0, .str ByteArray.empty, .int .i64 0, .bool false, .bool false], some (.named 0), true⟩),
  (121, ⟨.struct [(0, 1, false), (1, 1, false), (2, 1, false), (3, 1, false), (4, 1, false)], 5, 32, true, [.int .i64 0, .int .i64 0, .bool false, .bool false, .int .i64 0], some (.named 8), false⟩),
  (134, ⟨.struct [(0, 1, false), (1, 1, false), (2, 1, false), (3, 1, false)], 4, 32, true, [.int .i64 0, .int .i64 0, .int .i64 0, .bool false], some (.named 10), false⟩),
  (43, ⟨.struct [(0, 1, false), (1, 1, false), (2, 1, false), (3, 1, false), (4, 1, false)], 5, 40, true, [.int .i64 0, .str ByteArray.empty, .int .i64 0, .bool false, .bool false], some (.named 0), false⟩),
  (32, ⟨.slice 47, 1, 24, false, [.nil], some (.slice (.named 1)), false⟩),
  (85, ⟨.struct [(0, 1, false), (1, 1, false)], 2, 16, true, [.int .i64 0, .int .i64 0], some (.named 4), false⟩),
  (87, ⟨.struct [(0, 1, false), (1, 1, false), (2, 1, false), (3, 1, false), (4, 2, true)], 6, 80, true, [.nil, .int .i64 0, .int .i64 0, .nil, .int .i64 0, .int .i64 0], some (.named 5), false⟩),
  (47, ⟨.struct [(0, 1, false), (1, 1, false), (2, 1, false), (3, 1, false), (4, 1, false), (5, 1, false)], 6, 48, true, [.int .i64 0, .int .i64 0, .int .i64 0, .int .i64 0, .int .i64 0, .bool false], some (.named 1), false⟩),
  (78, ⟨.func, 1, 8, false, [.nilf], none, false⟩),
  (114, ⟨.slice 22, 1, 24, false, [.nil], some (.slice (.slice (.int .u8))), false⟩),
  (108, ⟨.struct [(0, 1, false), (1, 1, false)], 2, 2, true, [.bool false, .bool false], some (.named 7), false⟩),
  (113, ⟨.int .u64, 1, 8, false, [.int .u64 0], some (.int .u64), false⟩),
  (127, ⟨.int .u32, 1, 4, false, [.int .u32 0], some (.int .u32), false⟩),
  (63, ⟨.struct [(0, 1, false), (1, 1, false), (2, 1, false), (3, 1, false)], 4, 48, true, [.nil, .int .i64 0, .int .i64 0, .int .i64 0], some (.named 3), false⟩),
  (94, ⟨.arr 65 43, 325, 2600, true, [.int .i64 0, .str ByteArray.empty, .int .i64 0, .bool false, .bool false, .int .i64 0, .str ByteArray.empty, .int .i64 0, .bool false, .bool false, .int .i64 0, .str ByteArray.empty, .int .i64 0, .bool false, .bool false, .int .i64 0, .str ByteArray.empty, .int .i64 0, .bool false, .bool false, .int .i64 0, .str ByteArray.empty, .int .i64 0, .bool false, .bool false, .int .i64 0, .str ByteArray.empty, .int .i64 0, .bool false, .bool false, .int .i64 0, .str ByteArray.empty, .int .i64 0, .bool false, .bool false, .int .i64 0, .str ByteArray.empty, .int .i64 0, .bool false, .bool false, .int .i64 0, .str ByteArray.empty, .int .i64 0, .bool false, .bool false, .int .i64 0, .str ByteArray.empty, .int .i64 0, .bool false, .bool false, .int .i64 0, .str ByteArray.empty, .int .i64 0, .bool false, .bool false, .int .i64 0, .str ByteArray.empty, .int .i64 0, .bool false, .bool false, .int .i64 0, .str ByteArray.empty, .int .i64 0, .bool false, .bool false, .int .i64 0, .str ByteArray.empty, .int .i64 0, .bool false, .bool false, .int .i64 0, .str ByteArray.empty, .int .i64 0, .bool false, .bool false, .int .i64 0, .str ByteArray.empty, .int .i64 0, .bool false, .bool false, .int .i64 0, .str ByteArray.empty, .int .i64 0, .bool false, .bool false, .int .i64 0, .str ByteArray.empty, .int .i64 0, .bool false, .bool false, .int .i64 0, .str ByteArray.empty, .int .i64 0, .bool false, .bool false, .int .i64 0, .str ByteArray.empty, .int .i64 0, .bool false, .bool false, .int .i64 0, .str ByteArray.empty, .int .i64 0, .bool false, .bool false, .int .i64 0, .str ByteArray.empty, .int .i64 0, .bool false, .bool false, .int .i64 0, .str ByteArray.empty, .int .i64 0, .bool false, .bool false, .int .i64 0, .str ByteArray.empty, .int .i64 0, .bool false, .bool false, .int .i64 0, .str ByteArray.empty, .int .i64 0, .bool false, .bool false, .int .i64 0, .str ByteArray.empty, .int .i64 0, .bool false, .bool false, .int .i64 0, .str ByteArray.empty, .int .i64 0, .bool false, .bool false, .int .i64 0, .str ByteArray.empty, .int .i64 0, .bool false, .bool false, .int .i64 0, .str ByteArray.empty, .int .i64 0, .bool false, .bool false, .int .i64 0, .str ByteArray.empty, .int .i64 0, .bool false, .bool false, .int .i64 0, .str ByteArray.empty, .int .i64 0, .bool false, .bool false, .int .i64 0, .str ByteArray.empty, .int .i64 0, .bool false, .bool false, .int .i64 0, .str ByteArray.empty, .int .i64 0, .bool false, .bool false, .int .i64 0, .str ByteArray.empty, .int .i64 0, .bool false, .bool false, .int .i64 0, .str ByteArray.empty, .int .i64 0, .bool false, .bool false, .int .i64 0, .str ByteArray.empty, .int .i64 0, .bool false, .bool false, .int .i64 0, .str ByteArray.empty, .int .i64 0, .bool false, .bool false, .int .i64 0, .str ByteArray.empty, .int .i64 0, .bool false, .bool false, .int .i64 0, .str ByteArray.empty, .int .i64 0, .bool false, .bool false, .int .i64 0, .str ByteArray.empty, .int .i64 0, .bool false, .bool false, .int .i64 0, .str ByteArray.empty, .int .i64 0, .bool false, .bool false, .int .i64 0, .str ByteArray.empty, .int .i64 0, .bool false, .bool false, .int .i64 0, .str ByteArray.empty, .int .i64 0, .bool false, .bool false, .int .i64 0, .str ByteArray.empty, .int .i64 0, .bool false, .bool false, .int .i64 0, .str ByteArray.empty, .int .i64 0, .bool false, .bool false, .int .i64 0, .str ByteArray.empty, .int .i64 0, .bool false, .bool false, .int .i64 0, .str ByteArray.empty, .int .i64 0, .bool false, .bool false, .int .i64 0, .str ByteArray.empty, .int .i64 0, .bool false, .bool false, .int .i64 0, .str ByteArray.empty, .int .i64 0, .bool false, .bool false, .int .i64 0, .str ByteArray.empty, .int .i64 0, .bool false, .bool false, .int .i64 0, .str ByteArray.empty, .int .i64 0, .bool false, .bool false, .int .i64 0, .str ByteArray.empty, .int .i64 0, .bool false, .bool false, .int .i64 0, .str ByteArray.empty, .int .i64 0, .bool false, .bool false, .int .i64 0, .str ByteArray.empty, .int .i64 0, .bool false, .bool false, .int .i64 0, .str ByteArray.empty, .int .i64 0, .bool false, .bool false, .int .i64 0, .str ByteArray.empty, .int .i64 0, .bool false, .bool false, .int .i64 0, .str ByteArray.empty, .int .i64 0, .bool false, .bool false, .int .i64 0, .str ByteArray.empty, .int .i64 0, .bool false, .bool false, .int .i64 0, .str ByteArray.empty, .int .i64 0, .bool false, .bool false, .int .i64 0, .str ByteArray.empty, .int .i64 0, .bool false, .bool false, .int .i64 0, .str ByteArray.empty, .int .i64 0, .bool false, .bool false, .int .i64 0, .str ByteArray.empty, .int .i64 0, .bool false, .bool false, .int .i64 0, .str ByteArray.empty, .int .i64 0, .bool false, .bool false, .int .i64 0, .str ByteArray.empty, .int .i64 0, .bool false, .bool false, .int .i64 0, .str ByteArray.empty, .int .i64 0, .bool false, .bool false], none, false⟩),
  (117, ⟨.int .u64, 1, 8, false, [.int .u64 0], some (.int .u64), false⟩),
  (96, ⟨.slice 48, 1, 24, false, [.nil], some (.slice (.named 0)), false⟩)]
noncomputable def cx : Cx D := mkCx tab flds toT ofT zeros deeps
theorem deep2_eq (v : D2) : deep2 v = deepTup cx (flds 2) (toT 2 v) := by
  cases v with
  | mk _x0 _x1 _x2 _x3 => rw [deep2, deep2s_map]; rfl
theorem cxOk : CxOk cx Try.prog :=
  mkCx_ok (fun r => match r with
  | 0 => rfl
  | 1 => rfl
  | 2 => rfl
  | 3 => rfl
  | 4 => rfl
  | 5 => rfl
  | 6 => rfl
  | 7 => rfl
  | 8 => rfl
  | 9 => rfl
  | 10 => rfl
  | 11 => rfl
  | _n + 12 => rfl) (fun r x => match r, x with
  | 0, _ => rfl
  | 1, _ => rfl
  | 2, _ => rfl
  | 3, _ => rfl
  | 4, _ => rfl
  | 5, _ => rfl
  | 6, _ => rfl
  | 7, _ => rfl
  | 8, _ => rfl
  | 9, _ => rfl
  | 10, _ => rfl
  | 11, _ => rfl
  | _n + 12, _ => rfl) (fun r v => match r, v with
  | 0, _ => rfl
  | 1, _ => rfl
  | 2, v => deep2_eq v
  | 3, _ => rfl
  | 4, _ => rfl
  | 5, _ => rfl
  | 6, _ => rfl
  | 7, _ => rfl
  | 8, _ => rfl
  | 9, _ => rfl
  | 10, _ => rfl
  | 11, _ => rfl
  | _n + 12, _ => rfl) (by kernel_rfl)
abbrev KX (R : Type) : Type := Ex → List (PV D) → List (Option (Am.Obj D)) → Option R
abbrev KR (R : Type) : Type := RV D → Option R
theorem mixed : Try.prog.follows .mixedOrders = true := by kernel_rfl
def lit0 : ByteArray := ⟨#[108, 101, 110, 32, 111, 117, 116, 32, 111, 102, 32, 114, 97, 110, 103, 101]⟩
def lit1 : ByteArray := ⟨#[99, 97, 110, 110, 111, 116, 32, 98, 101, 32, 110, 101, 103, 97, 116, 105, 118, 101]⟩
def lit2 : ByteArray := ⟨#[0, 1, 2, 2, 3, 3, 3, 3, 4, 4, 4, 4, 4, 4, 4, 4, 5, 5, 5, 5, 5, 5, 5, 5, 5, 5, 5, 5, 5, 5, 5, 5, 6, 6, 6, 6, 6, 6, 6, 6, 6, 6, 6, 6, 6, 6, 6, 6, 6, 6, 6, 6, 6, 6, 6, 6, 6, 6, 6, 6, 6, 6, 6, 6, 7, 7, 7, 7, 7, 7, 7, 7, 7, 7, 7, 7, 7, 7, 7, 7, 7, 7, 7, 7, 7, 7, 7, 7, 7, 7, 7, 7, 7, 7, 7, 7, 7, 7, 7, 7, 7, 7, 7, 7, 7, 7, 7, 7, 7, 7, 7, 7, 7, 7, 7, 7, 7, 7, 7, 7, 7, 7, 7, 7, 7, 7, 7, 7, 8, 8, 8, 8, 8, 8, 8, 8, 8, 8, 8, 8, 8, 8, 8, 8, 8, 8, 8, 8, 8, 8, 8, 8, 8, 8, 8, 8, 8, 8, 8, 8, 8, 8, 8, 8, 8, 8, 8, 8, 8, 8, 8, 8, 8, 8, 8, 8, 8, 8, 8, 8, 8, 8, 8, 8, 8, 8, 8, 8, 8, 8, 8, 8, 8, 8, 8, 8, 8, 8, 8, 8, 8, 8, 8, 8, 8, 8, 8, 8, 8, 8, 8, 8, 8, 8, 8, 8, 8, 8, 8, 8, 8, 8, 8, 8, 8, 8, 8, 8, 8, 8, 8, 8, 8, 8, 8, 8, 8, 8, 8, 8, 8, 8, 8, 8, 8, 8, 8, 8, 8, 8, 8, 8, 8, 8, 8, 8]⟩
def lit3 : ByteArray := ⟨#[69, 100, 105, 116, 105, 111, 110, 73, 100]⟩
def lit4 : ByteArray := ⟨#[84, 114, 97, 99, 107, 75, 105, 110, 100]⟩
def lit5 : ByteArray := ⟨#[67, 104, 97, 112, 84, 105, 116, 108, 101]⟩
def lit6 : ByteArray := ⟨#[84, 114, 97, 99, 107, 83, 99, 97, 108, 101]⟩
def lit7 : ByteArray := ⟨#[84, 114, 97, 99, 107, 78, 97, 109, 101]⟩
def lit8 : ByteArray := ⟨#[69, 100, 105, 116, 77, 101, 100, 105, 97]⟩
noncomputable def kp : FuncId → List Bool := fun _f => []

end Go.Proofs.Ytklhjegfkpmdoaa

/-! What the functions do, as plain functions; and that they do. -/
namespace Go.Proofs.Ytklhjegfkpmdoaa
open Go Go.Am
abbrev f82_T (R : Type) : Type := Int → (Int → Option R) → Option R
abbrev f82_X : Type := (Int × Unit)
abbrev f82_Y : Type := (Unit)
/-! ## 82: diorama/bits.all -/
noncomputable def f82_s {R : Type} (_k : Nat) (a0 : Int) (K : Int → Option R) : Option R :=
  bif decide ((IntKind.i64.wrap (7 * a0)) < 0) then
    none
  else
    K (IntKind.i64.wrap ((shlI .i64 1 (IntKind.i64.wrap (7 * a0))) - 1))
noncomputable def f82_d {R : Type} (g : f82_T R) (e : Dr D R) : Dr D R := door [.int .i64] [] (fun (x : f82_X) (_y : f82_Y) K => g x.1 (fun z0 => K ⟨.int .i64 z0, []⟩)) e
noncomputable def f82_o {R : Type} (_k : Nat) : Orc D R := noOrc
theorem f82_o_ok {R : Type} (k : Nat) : OrcOk Try.prog cx (f82_o (R := R) k) := OrcOk.no
noncomputable def f82_b : Code := bodyOf Try.f82
noncomputable def f82_ann : Nat → Option LAnn := fun _key => none
noncomputable def f82_lrc {R : Type} (_k : Nat) : Lrc D R := noLrc
theorem f82_e {R : Type} (k : Nat) (x : f82_X) (y : f82_Y) (K : KR R) : f82_s k x.1 (fun z0 => K ⟨.int .i64 z0, []⟩) = exec cx (f82_o k) (f82_lrc k) f82_ann kp 7 0 f82_b (entry (gives (D := D) [.int .i64] x) (giveOs (D := D) [] y)) (fin cx Try.f82.results.toList [] 0 K) := by kernel_rfl
noncomputable def f82 {R : Type} (k : Nat) (a0 : Int) (K : Int → Option R) : Option R := f82_s k a0 K
theorem f82_ok {R : Type} (k : Nat) {e : Dr D R} (he : FnOk Try.prog cx 82 e) : FnOk Try.prog cx 82 (f82_d (f82 k) e) :=
  he.door fun x y => body_ok (keep := kp) (ann := f82_ann) (lrc := f82_lrc (R := R) k) (N := 7) (n0 := 0) (c := []) cxOk mixed (f82_o_ok k) (body := f82_b) (by kernel_rfl : Try.prog.funcs[82]? = some Try.f82) (by kernel_rfl) (by kernel_rfl) (by kernel_rfl) (by kernel_rfl) (of_decide_eq_true (by kernel_rfl)) (L := []) (by kernel_rfl) trivial (J := []) (by kernel_rfl) trivial (LrcNat.no) (fun K => f82_e k x y K)

abbrev f91_T (R : Type) : Type := Int → Int → (List Int → Option R) → Option R
abbrev f91_X : Type := (Int × Int × Unit)
abbrev f91_Y : Type := (Unit)
/-! ## 91: diorama/bits.big -/
abbrev f91_l3_X : Type := (Int × Unit × Int × Unit)
abbrev f91_l3_Y : Type := (List Int × Unit)
noncomputable def f91_l3 {R : Type} : Nat → Int → Int → List Int → (List Int → Option R) → Option R
  | 0, _, _, _, _ => none
  | k + 1, v1, v2, v3, X0 =>
    bif decide (v2 ≥ 0) then
      bif inb v2 v3.length then
        f91_l3 k (shrI .u64 v1 8) (IntKind.i64.wrap (v2 - 1)) (v3.set v2.toNat (IntKind.u8.wrap (v1))) X0
      else
        none
    else
      X0 v3
noncomputable def f91_s {R : Type} (k : Nat) (a0 : Int) (a1 : Int) (K : List Int → Option R) : Option R :=
  bif (decide ((0 : Int) ≤ a1)) && (decide (a1 ≤ a1)) && (decide (a1 * ((1 : Nat) : Int) ≤ 140737488355328)) then
    f91_l3 k a0 (IntKind.i64.wrap (a1 - 1)) (List.replicate a1.toNat (0 : Int)) (fun v4 =>
      K v4)
  else
    none
noncomputable def f91_d {R : Type} (g : f91_T R) (e : Dr D R) : Dr D R := door [.int .u64, .int .i64] [] (fun (x : f91_X) (_y : f91_Y) K => g x.1 x.2.1 (fun z0 => K ⟨.own 0, [some (.row (.int .u8) z0 true)]⟩)) e
noncomputable def f91_o {R : Type} (_k : Nat) : Orc D R := noOrc
theorem f91_o_ok {R : Type} (k : Nat) : OrcOk Try.prog cx (f91_o (R := R) k) := OrcOk.no
noncomputable def f91_b : Code := bodyOf Try.f91
noncomputable def f91_l3_a : LAnn := ⟨⟨[], [0, 5, 6], [131216]⟩, exOf (none) [(0, ⟨[], [5], [131216]⟩)]⟩
noncomputable def f91_ann : Nat → Option LAnn := fun key => bif Nat.beq key 3 then some f91_l3_a else none
noncomputable def f91_l3_b : Code := loopAt f91_b 0
noncomputable def f91_l3_g {R : Type} (k : Nat) (x : f91_l3_X) (y : f91_l3_Y) (K : KX R) : Option R := f91_l3 k x.1 x.2.2.1 y.1 (fun z0 => K (.exit 0) [.own 131216] [some (.row (.int .u8) z0 true)])
noncomputable def f91_l3_d {R : Type} (k : Nat) : Lr D R := ldoor [.int .u64, .own 131216, .int .i64] [some (.row (.int .u8) true)] (f91_l3_g k)
noncomputable def f91_l3_lrc {R : Type} (_k : Nat) : Lrc D R := noLrc
theorem f91_l3_e {R : Type} (k : Nat) (x : f91_l3_X) (y : f91_l3_Y) (K : KX R) : f91_l3_g (k + 1) x y K = round cx (f91_o k) (f91_l3_lrc k) f91_ann kp 23 0 f91_l3_a f91_l3_b (gives (D := D) [.int .u64, .own 131216, .int .i64] x) (giveGs (D := D) [some (.row (.int .u8) true)] y) (fun vs os => f91_l3_d k vs os K) K := by kernel_rfl
theorem f91_l3_d_ok {R : Type} : ∀ k, LoopOk Try.prog cx 23 0 f91_ann (f91_l3_d (R := R) k) f91_l3_b :=
  loop_ok (keep := kp) (lrc := f91_l3_lrc (R := R)) cxOk mixed (f91_o_ok) (show f91_ann (Am.keyOf f91_l3_b) = some f91_l3_a by kernel_rfl) (L := []) (by kernel_rfl) (fun _k => trivial) (J := []) (by kernel_rfl) (fun _k => trivial) (fun _k => LrcNat.no) (fun _x _y _K => by kernel_rfl) (f91_l3_e)
noncomputable def f91_lrc {R : Type} (k : Nat) : Lrc D R := (lrcAdd 3 (f91_l3_d k) noLrc)
theorem f91_e {R : Type} (k : Nat) (x : f91_X) (y : f91_Y) (K : KR R) : f91_s k x.1 x.2.1 (fun z0 => K ⟨.own 0, [some (.row (.int .u8) z0 true)]⟩) = exec cx (f91_o k) (f91_lrc k) f91_ann kp 23 0 f91_b (entry (gives (D := D) [.int .u64, .int .i64] x) (giveOs (D := D) [] y)) (fin cx Try.f91.results.toList [] 0 K) := by kernel_rfl
noncomputable def f91 {R : Type} (k : Nat) (a0 : Int) (a1 : Int) (K : List Int → Option R) : Option R := f91_s k a0 a1 K
theorem f91_ok {R : Type} (k : Nat) {e : Dr D R} (he : FnOk Try.prog cx 91 e) : FnOk Try.prog cx 91 (f91_d (f91 k) e) :=
  he.door fun x y => body_ok (keep := kp) (ann := f91_ann) (lrc := f91_lrc (R := R) k) (N := 23) (n0 := 0) (c := []) cxOk mixed (f91_o_ok k) (body := f91_b) (by kernel_rfl : Try.prog.funcs[91]? = some Try.f91) (by kernel_rfl) (by kernel_rfl) (by kernel_rfl) (by kernel_rfl) (of_decide_eq_true (by kernel_rfl)) (L := [f91_l3_b]) (by kernel_rfl) (⟨(f91_l3_d_ok k).use (by kernel_rfl), trivial⟩) (J := []) (by kernel_rfl) trivial ((LrcNat.add (f91_l3_d_ok k).2 LrcNat.no)) (fun K => f91_e k x y K)

abbrev f83_T (R : Type) : Type := Int → Int → (List Int → Option R) → Option R
abbrev f83_X : Type := (Int × Int × Unit)
abbrev f83_Y : Type := (Unit)
/-! ## 83: diorama/bits.mark -/
noncomputable def f83_s {R : Type} (g_f91 : Nat → f91_T R) (k : Nat) (a0 : Int) (a1 : Int) (K : List Int → Option R) : Option R :=
  bif decide ((IntKind.i64.wrap (7 * a1)) < 0) then
    none
  else
    g_f91 k (orI .u64 a0 (shlI .u64 1 (IntKind.i64.wrap (7 * a1)))) a1 (fun v1 =>
      K v1)
noncomputable def f83_d {R : Type} (g : f83_T R) (e : Dr D R) : Dr D R := door [.int .u64, .int .i64] [] (fun (x : f83_X) (_y : f83_Y) K => g x.1 x.2.1 (fun z0 => K ⟨.own 0, [some (.row (.int .u8) z0 true)]⟩)) e
noncomputable def f83_o {R : Type} (g_f91 : Nat → f91_T R) (k : Nat) : Orc D R := (orcAdd 91 (f91_d (g_f91 k) noDr) noOrc)
theorem f83_o_ok {R : Type} (k : Nat) : OrcOk Try.prog cx (f83_o (R := R) (f91 (R := R)) k) := (OrcOk.add (f91_ok k FnOk.no) OrcOk.no)
noncomputable def f83_b : Code := bodyOf Try.f83
noncomputable def f83_ann : Nat → Option LAnn := fun _key => none
noncomputable def f83_lrc {R : Type} (_g_f91 : Nat → f91_T R) (_k : Nat) : Lrc D R := noLrc
theorem f83_e {R : Type} (g_f91 : Nat → f91_T R) (k : Nat) (x : f83_X) (y : f83_Y) (K : KR R) : f83_s g_f91 k x.1 x.2.1 (fun z0 => K ⟨.own 0, [some (.row (.int .u8) z0 true)]⟩) = exec cx (f83_o g_f91 k) (f83_lrc g_f91 k) f83_ann kp 12 0 f83_b (entry (gives (D := D) [.int .u64, .int .i64] x) (giveOs (D := D) [] y)) (fin cx Try.f83.results.toList [] 0 K) := by kernel_rfl
noncomputable def f83 {R : Type} (k : Nat) (a0 : Int) (a1 : Int) (K : List Int → Option R) : Option R := f83_s (f91 (R := R)) k a0 a1 K
theorem f83_ok {R : Type} (k : Nat) {e : Dr D R} (he : FnOk Try.prog cx 83 e) : FnOk Try.prog cx 83 (f83_d (f83 k) e) :=
  he.door fun x y => body_ok (keep := kp) (ann := f83_ann) (lrc := f83_lrc (R := R) (f91 (R := R)) k) (N := 12) (n0 := 0) (c := []) cxOk mixed (f83_o_ok k) (body := f83_b) (by kernel_rfl : Try.prog.funcs[83]? = some Try.f83) (by kernel_rfl) (by kernel_rfl) (by kernel_rfl) (by kernel_rfl) (of_decide_eq_true (by kernel_rfl)) (L := []) (by kernel_rfl) trivial (J := []) (by kernel_rfl) trivial (LrcNat.no) (fun K => f83_e (f91 (R := R)) k x y K)

abbrev f52_T (R : Type) : Type := Int → Int → (Int → List Int → Option R) → Option R
abbrev f52_X : Type := (Int × Int × Unit)
abbrev f52_Y : Type := (Unit)
/-! ## 52: diorama/bits.PutVint -/
abbrev f52_l5_X : Type := (Int × Int × Unit)
abbrev f52_l5_Y : Type := (Unit)
noncomputable def f52_l5 {R : Type} (g_f82 : Nat → f82_T R) (g_f83 : Nat → f83_T R) : Nat → Int → Int → (Int → Int → Option R) → Option R
  | 0, _, _, _ => none
  | k + 1, v1, v2, X0 =>
    bif decide (v2 < 8) then
      g_f82 k v2 (fun v3 =>
        bif decide (v1 ≥ v3) then
          f52_l5 g_f82 g_f83 k v1 (IntKind.i64.wrap (v2 + 1)) X0
        else
          X0 v1 v2)
    else
      X0 v1 v2
noncomputable def f52_s {R : Type} (g_f82 : Nat → f82_T R) (g_f83 : Nat → f83_T R) (k : Nat) (a0 : Int) (a1 : Int) (K : Int → List Int → Option R) : Option R :=
  bif decide (a1 < 0) then
    K 1 ([] : List Int)
  else
    bif decide (a1 > 8) then
      K 1 ([] : List Int)
    else
      bif decide (a0 < 0) then
        K 1 ([] : List Int)
      else
        bif (a1 == 0) then
          f52_l5 g_f82 g_f83 k a0 1 (fun v4 v5 =>
            g_f82 k v5 (fun v6 =>
              bif decide (v4 ≥ v6) then
                K 1 ([] : List Int)
              else
                g_f83 k (IntKind.u64.wrap (v4)) v5 (fun v7 =>
                  K 0 v7)))
        else
          g_f82 k a1 (fun v8 =>
            bif decide (a0 ≥ v8) then
              K 1 ([] : List Int)
            else
              g_f83 k (IntKind.u64.wrap (a0)) a1 (fun v9 =>
                K 0 v9))
noncomputable def f52_d {R : Type} (g : f52_T R) (e : Dr D R) : Dr D R := door [.int .i64, .int .i64] [] (fun (x : f52_X) (_y : f52_Y) K => g x.1 x.2.1 (fun z0 z1 => K ⟨.tup [.own 0, .int .i64 z0], [some (.row (.int .u8) z1 true)]⟩)) e
noncomputable def f52_o {R : Type} (g_f82 : Nat → f82_T R) (g_f83 : Nat → f83_T R) (k : Nat) : Orc D R := (orcAdd 83 (f83_d (g_f83 k) noDr) (orcAdd 82 (f82_d (g_f82 k) noDr) noOrc))
theorem f52_o_ok {R : Type} (k : Nat) : OrcOk Try.prog cx (f52_o (R := R) (f82 (R := R)) (f83 (R := R)) k) := (OrcOk.add (f83_ok k FnOk.no) (OrcOk.add (f82_ok k FnOk.no) OrcOk.no))
noncomputable def f52_b : Code := bodyOf Try.f52
noncomputable def f52_l5_a : LAnn := ⟨⟨[], [0, 1], []⟩, exOf (none) [(0, ⟨[], [0, 1], []⟩)]⟩
noncomputable def f52_ann : Nat → Option LAnn := fun key => bif Nat.beq key 5 then some f52_l5_a else none
noncomputable def f52_l5_b : Code := loopAt f52_b 0
noncomputable def f52_l5_g {R : Type} (g_f82 : Nat → f82_T R) (g_f83 : Nat → f83_T R) (k : Nat) (x : f52_l5_X) (_y : f52_l5_Y) (K : KX R) : Option R := f52_l5 g_f82 g_f83 k x.1 x.2.1 (fun z0 z1 => K (.exit 0) [.int .i64 z0, .int .i64 z1] [])
noncomputable def f52_l5_d {R : Type} (g_f82 : Nat → f82_T R) (g_f83 : Nat → f83_T R) (k : Nat) : Lr D R := ldoor [.int .i64, .int .i64] [] (f52_l5_g g_f82 g_f83 k)
noncomputable def f52_l5_lrc {R : Type} (_g_f82 : Nat → f82_T R) (_g_f83 : Nat → f83_T R) (_k : Nat) : Lrc D R := noLrc
theorem f52_l5_e {R : Type} (g_f82 : Nat → f82_T R) (g_f83 : Nat → f83_T R) (k : Nat) (x : f52_l5_X) (y : f52_l5_Y) (K : KX R) : f52_l5_g g_f82 g_f83 (k + 1) x y K = round cx (f52_o g_f82 g_f83 k) (f52_l5_lrc g_f82 g_f83 k) f52_ann kp 36 0 f52_l5_a f52_l5_b (gives (D := D) [.int .i64, .int .i64] x) (giveGs (D := D) [] y) (fun vs os => f52_l5_d g_f82 g_f83 k vs os K) K := by kernel_rfl
theorem f52_l5_d_ok {R : Type} : ∀ k, LoopOk Try.prog cx 36 0 f52_ann (f52_l5_d (R := R) (f82 (R := R)) (f83 (R := R)) k) f52_l5_b :=
  loop_ok (keep := kp) (lrc := f52_l5_lrc (R := R) (f82 (R := R)) (f83 (R := R))) cxOk mixed (f52_o_ok) (show f52_ann (Am.keyOf f52_l5_b) = some f52_l5_a by kernel_rfl) (L := []) (by kernel_rfl) (fun _k => trivial) (J := []) (by kernel_rfl) (fun _k => trivial) (fun _k => LrcNat.no) (fun _x _y _K => by kernel_rfl) (f52_l5_e (f82 (R := R)) (f83 (R := R)))
noncomputable def f52_lrc {R : Type} (g_f82 : Nat → f82_T R) (g_f83 : Nat → f83_T R) (k : Nat) : Lrc D R := (lrcAdd 5 (f52_l5_d g_f82 g_f83 k) noLrc)
theorem f52_e {R : Type} (g_f82 : Nat → f82_T R) (g_f83 : Nat → f83_T R) (k : Nat) (x : f52_X) (y : f52_Y) (K : KR R) : f52_s g_f82 g_f83 k x.1 x.2.1 (fun z0 z1 => K ⟨.tup [.own 0, .int .i64 z0], [some (.row (.int .u8) z1 true)]⟩) = exec cx (f52_o g_f82 g_f83 k) (f52_lrc g_f82 g_f83 k) f52_ann kp 36 0 f52_b (entry (gives (D := D) [.int .i64, .int .i64] x) (giveOs (D := D) [] y)) (fin cx Try.f52.results.toList [(.tmp 4, .own 1099511627776 (.int .u8))] 0 K) := by kernel_rfl
noncomputable def f52 {R : Type} (k : Nat) (a0 : Int) (a1 : Int) (K : Int → List Int → Option R) : Option R := f52_s (f82 (R := R)) (f83 (R := R)) k a0 a1 K
theorem f52_ok {R : Type} (k : Nat) {e : Dr D R} (he : FnOk Try.prog cx 52 e) : FnOk Try.prog cx 52 (f52_d (f52 k) e) :=
  he.door fun x y => body_ok (keep := kp) (ann := f52_ann) (lrc := f52_lrc (R := R) (f82 (R := R)) (f83 (R := R)) k) (N := 36) (n0 := 0) (c := [(.tmp 4, .own 1099511627776 (.int .u8))]) cxOk mixed (f52_o_ok k) (body := f52_b) (by kernel_rfl : Try.prog.funcs[52]? = some Try.f52) (by kernel_rfl) (by kernel_rfl) (by kernel_rfl) (by kernel_rfl) (of_decide_eq_true (by kernel_rfl)) (L := [f52_l5_b]) (by kernel_rfl) (⟨(f52_l5_d_ok k).use (by kernel_rfl), trivial⟩) (J := []) (by kernel_rfl) trivial ((LrcNat.add (f52_l5_d_ok k).2 LrcNat.no)) (fun K => f52_e (f82 (R := R)) (f83 (R := R)) k x y K)

abbrev f84_T (R : Type) : Type := Int → (List Int → Option R) → Option R
abbrev f84_X : Type := (Unit × Int × Unit)
abbrev f84_Y : Type := (Unit)
/-! ## 84: slices.Grow[[]byte,byte] -/
noncomputable def f84_s {R : Type} (_k : Nat) (a0 : Int) (K : List Int → Option R) : Option R :=
  bif decide (a0 < 0) then
    none
  else
    bif decide ((IntKind.i64.wrap (a0 - (IntKind.i64.wrap (0 - 0)))) > 0) then
      bif decide ((0 : Int) ≤ (IntKind.i64.wrap (a0 - (IntKind.i64.wrap (0 - 0))))) && decide ((IntKind.i64.wrap (a0 - (IntKind.i64.wrap (0 - 0)))) * (1 : Nat) ≤ 140737488355328) then
        bif room 1 ((List.replicate ((IntKind.i64.wrap (a0 - (IntKind.i64.wrap (0 - 0)))).toNat) (0 : Int)).length) then
          bif upto 0 ((List.replicate ((IntKind.i64.wrap (a0 - (IntKind.i64.wrap (0 - 0)))).toNat) (0 : Int)).length) then
            K ((List.replicate ((IntKind.i64.wrap (a0 - (IntKind.i64.wrap (0 - 0)))).toNat) (0 : Int)).take 0)
          else
            none
        else
          none
      else
        none
    else
      K ([] : List Int)
noncomputable def f84_d {R : Type} (g : f84_T R) (e : Dr D R) : Dr D R := door [.nil, .int .i64] [] (fun (x : f84_X) (_y : f84_Y) K => g x.2.1 (fun z0 => K ⟨.own 0, [some (.row (.int .u8) z0 true)]⟩)) e
noncomputable def f84_o {R : Type} (_k : Nat) : Orc D R := noOrc
theorem f84_o_ok {R : Type} (k : Nat) : OrcOk Try.prog cx (f84_o (R := R) k) := OrcOk.no
noncomputable def f84_b : Code := bodyOf Try.f84
noncomputable def f84_ann : Nat → Option LAnn := fun _key => none
noncomputable def f84_lrc {R : Type} (_k : Nat) : Lrc D R := noLrc
theorem f84_e {R : Type} (k : Nat) (x : f84_X) (y : f84_Y) (K : KR R) : f84_s k x.2.1 (fun z0 => K ⟨.own 0, [some (.row (.int .u8) z0 true)]⟩) = exec cx (f84_o k) (f84_lrc k) f84_ann kp 27 0 f84_b (entry (gives (D := D) [.nil, .int .i64] x) (giveOs (D := D) [] y)) (fin cx Try.f84.results.toList [(.tmp 4, .own 1099511627776 (.int .u8))] 0 K) := by kernel_rfl
noncomputable def f84 {R : Type} (k : Nat) (a0 : Int) (K : List Int → Option R) : Option R := f84_s k a0 K
theorem f84_ok {R : Type} (k : Nat) {e : Dr D R} (he : FnOk Try.prog cx 84 e) : FnOk Try.prog cx 84 (f84_d (f84 k) e) :=
  he.door fun x y => body_ok (keep := kp) (ann := f84_ann) (lrc := f84_lrc (R := R) k) (N := 27) (n0 := 0) (c := [(.tmp 4, .own 1099511627776 (.int .u8))]) cxOk mixed (f84_o_ok k) (body := f84_b) (by kernel_rfl : Try.prog.funcs[84]? = some Try.f84) (by kernel_rfl) (by kernel_rfl) (by kernel_rfl) (by kernel_rfl) (of_decide_eq_true (by kernel_rfl)) (L := []) (by kernel_rfl) trivial (J := []) (by kernel_rfl) trivial (LrcNat.no) (fun K => f84_e k x y K)

abbrev f53_T (R : Type) : Type := List (List Int) → (List Int → Option R) → Option R
abbrev f53_X : Type := (List (List Int) × Unit)
abbrev f53_Y : Type := (Unit)
/-! ## 53: slices.Concat[[]byte,byte] -/
abbrev f53_l11_X : Type := (Unit × List (List Int) × Int × Int × Unit)
abbrev f53_l11_Y : Type := (List Int × Unit)
noncomputable def f53_l11 {R : Type} (g_f84 : Nat → f84_T R) : Nat → List (List Int) → Int → Int → List Int → (List Int → Option R) → Option R
  | 0, _, _, _, _, _ => none
  | k + 1, v9, v10, v11, v12, X0 =>
    bif decide (v11 < v10) then
      bif inb v11 v9.length then
        bif room 1 (v12.length + (v9.getD v11.toNat []).length) then
          f53_l11 g_f84 k v9 v10 (IntKind.i64.wrap (v11 + 1)) (v12 ++ (v9.getD v11.toNat [])) X0
        else
          none
      else
        none
    else
      X0 v12
abbrev f53_l3_X : Type := (List (List Int) × Int × List (List Int) × Int × Int × Unit)
abbrev f53_l3_Y : Type := (Unit)
noncomputable def f53_l3 {R : Type} (g_f84 : Nat → f84_T R) : Nat → List (List Int) → Int → List (List Int) → Int → Int → (List (List Int) → Int → Option R) → Option R
  | 0, _, _, _, _, _, _ => none
  | k + 1, v1, v2, v3, v4, v5, X0 =>
    bif decide (v5 < v4) then
      bif inb v5 v3.length then
        bif decide ((IntKind.i64.wrap (v2 + ((v3.getD v5.toNat []).length : Int))) < 0) then
          none
        else
          f53_l3 g_f84 k v1 (IntKind.i64.wrap (v2 + ((v3.getD v5.toNat []).length : Int))) v3 v4 (IntKind.i64.wrap (v5 + 1)) X0
      else
        none
    else
      X0 v1 v2
noncomputable def f53_s {R : Type} (g_f84 : Nat → f84_T R) (k : Nat) (a0 : List (List Int)) (K : List Int → Option R) : Option R :=
  f53_l3 g_f84 k a0 0 a0 (a0.length : Int) 0 (fun v6 v7 =>
    g_f84 k v7 (fun v8 =>
      f53_l11 g_f84 k v6 (v6.length : Int) 0 v8 (fun v13 =>
        K v13)))
noncomputable def f53_d {R : Type} (g : f53_T R) (e : Dr D R) : Dr D R := door [.list (.slice (.int .u8))] [] (fun (x : f53_X) (_y : f53_Y) K => g x.1 (fun z0 => K ⟨.own 0, [some (.row (.int .u8) z0 true)]⟩)) e
noncomputable def f53_o {R : Type} (g_f84 : Nat → f84_T R) (k : Nat) : Orc D R := (orcAdd 84 (f84_d (g_f84 k) noDr) noOrc)
theorem f53_o_ok {R : Type} (k : Nat) : OrcOk Try.prog cx (f53_o (R := R) (f84 (R := R)) k) := (OrcOk.add (f84_ok k FnOk.no) OrcOk.no)
noncomputable def f53_b : Code := bodyOf Try.f53
noncomputable def f53_l11_a : LAnn := ⟨⟨[(.tmp 6, .own 68719521792 (.int .u8))], [6, 25, 26, 27], [68719521792]⟩, exOf (none) [(2, ⟨[], [6], [68719521792]⟩)]⟩
noncomputable def f53_l3_a : LAnn := ⟨⟨[], [0, 3, 9, 10, 11], []⟩, exOf (none) [(0, ⟨[], [0, 3], []⟩)]⟩
noncomputable def f53_ann : Nat → Option LAnn := fun key => bif Nat.beq key 3 then some f53_l3_a else bif Nat.beq key 11 then some f53_l11_a else none
noncomputable def f53_l11_b : Code := loopAt f53_b 1
noncomputable def f53_l11_g {R : Type} (g_f84 : Nat → f84_T R) (k : Nat) (x : f53_l11_X) (y : f53_l11_Y) (K : KX R) : Option R := f53_l11 g_f84 k x.2.1 x.2.2.1 x.2.2.2.1 y.1 (fun z0 => K (.exit 2) [.own 68719521792] [some (.row (.int .u8) z0 true)])
noncomputable def f53_l11_d {R : Type} (g_f84 : Nat → f84_T R) (k : Nat) : Lr D R := ldoor [.own 68719521792, .list (.slice (.int .u8)), .int .i64, .int .i64] [some (.row (.int .u8) true)] (f53_l11_g g_f84 k)
noncomputable def f53_l11_lrc {R : Type} (_g_f84 : Nat → f84_T R) (_k : Nat) : Lrc D R := noLrc
theorem f53_l11_e {R : Type} (g_f84 : Nat → f84_T R) (k : Nat) (x : f53_l11_X) (y : f53_l11_Y) (K : KX R) : f53_l11_g g_f84 (k + 1) x y K = round cx (f53_o g_f84 k) (f53_l11_lrc g_f84 k) f53_ann kp 36 0 f53_l11_a f53_l11_b (gives (D := D) [.own 68719521792, .list (.slice (.int .u8)), .int .i64, .int .i64] x) (giveGs (D := D) [some (.row (.int .u8) true)] y) (fun vs os => f53_l11_d g_f84 k vs os K) K := by kernel_rfl
theorem f53_l11_d_ok {R : Type} : ∀ k, LoopOk Try.prog cx 36 0 f53_ann (f53_l11_d (R := R) (f84 (R := R)) k) f53_l11_b :=
  loop_ok (keep := kp) (lrc := f53_l11_lrc (R := R) (f84 (R := R))) cxOk mixed (f53_o_ok) (show f53_ann (Am.keyOf f53_l11_b) = some f53_l11_a by kernel_rfl) (L := []) (by kernel_rfl) (fun _k => trivial) (J := []) (by kernel_rfl) (fun _k => trivial) (fun _k => LrcNat.no) (fun _x _y _K => by kernel_rfl) (f53_l11_e (f84 (R := R)))
noncomputable def f53_l3_b : Code := loopAt f53_b 0
noncomputable def f53_l3_g {R : Type} (g_f84 : Nat → f84_T R) (k : Nat) (x : f53_l3_X) (_y : f53_l3_Y) (K : KX R) : Option R := f53_l3 g_f84 k x.1 x.2.1 x.2.2.1 x.2.2.2.1 x.2.2.2.2.1 (fun z0 z1 => K (.exit 0) [.list (.slice (.int .u8)) z0, .int .i64 z1] [])
noncomputable def f53_l3_d {R : Type} (g_f84 : Nat → f84_T R) (k : Nat) : Lr D R := ldoor [.list (.slice (.int .u8)), .int .i64, .list (.slice (.int .u8)), .int .i64, .int .i64] [] (f53_l3_g g_f84 k)
noncomputable def f53_l3_lrc {R : Type} (_g_f84 : Nat → f84_T R) (_k : Nat) : Lrc D R := noLrc
theorem f53_l3_e {R : Type} (g_f84 : Nat → f84_T R) (k : Nat) (x : f53_l3_X) (y : f53_l3_Y) (K : KX R) : f53_l3_g g_f84 (k + 1) x y K = round cx (f53_o g_f84 k) (f53_l3_lrc g_f84 k) f53_ann kp 36 0 f53_l3_a f53_l3_b (gives (D := D) [.list (.slice (.int .u8)), .int .i64, .list (.slice (.int .u8)), .int .i64, .int .i64] x) (giveGs (D := D) [] y) (fun vs os => f53_l3_d g_f84 k vs os K) K := by kernel_rfl
theorem f53_l3_d_ok {R : Type} : ∀ k, LoopOk Try.prog cx 36 0 f53_ann (f53_l3_d (R := R) (f84 (R := R)) k) f53_l3_b :=
  loop_ok (keep := kp) (lrc := f53_l3_lrc (R := R) (f84 (R := R))) cxOk mixed (f53_o_ok) (show f53_ann (Am.keyOf f53_l3_b) = some f53_l3_a by kernel_rfl) (L := []) (by kernel_rfl) (fun _k => trivial) (J := []) (by kernel_rfl) (fun _k => trivial) (fun _k => LrcNat.no) (fun _x _y _K => by kernel_rfl) (f53_l3_e (f84 (R := R)))
noncomputable def f53_lrc {R : Type} (g_f84 : Nat → f84_T R) (k : Nat) : Lrc D R := (lrcAdd 11 (f53_l11_d g_f84 k) (lrcAdd 3 (f53_l3_d g_f84 k) noLrc))
theorem f53_e {R : Type} (g_f84 : Nat → f84_T R) (k : Nat) (x : f53_X) (y : f53_Y) (K : KR R) : f53_s g_f84 k x.1 (fun z0 => K ⟨.own 0, [some (.row (.int .u8) z0 true)]⟩) = exec cx (f53_o g_f84 k) (f53_lrc g_f84 k) f53_ann kp 36 0 f53_b (entry (gives (D := D) [.list (.slice (.int .u8))] x) (giveOs (D := D) [] y)) (fin cx Try.f53.results.toList [] 0 K) := by kernel_rfl
noncomputable def f53 {R : Type} (k : Nat) (a0 : List (List Int)) (K : List Int → Option R) : Option R := f53_s (f84 (R := R)) k a0 K
theorem f53_ok {R : Type} (k : Nat) {e : Dr D R} (he : FnOk Try.prog cx 53 e) : FnOk Try.prog cx 53 (f53_d (f53 k) e) :=
  he.door fun x y => body_ok (keep := kp) (ann := f53_ann) (lrc := f53_lrc (R := R) (f84 (R := R)) k) (N := 36) (n0 := 0) (c := []) cxOk mixed (f53_o_ok k) (body := f53_b) (by kernel_rfl : Try.prog.funcs[53]? = some Try.f53) (by kernel_rfl) (by kernel_rfl) (by kernel_rfl) (by kernel_rfl) (of_decide_eq_true (by kernel_rfl)) (L := [f53_l3_b, f53_l11_b]) (by kernel_rfl) (⟨(f53_l3_d_ok k).use (by kernel_rfl), (f53_l11_d_ok k).use (by kernel_rfl), trivial⟩) (J := []) (by kernel_rfl) trivial ((LrcNat.add (f53_l11_d_ok k).2 (LrcNat.add (f53_l3_d_ok k).2 LrcNat.no))) (fun K => f53_e (f84 (R := R)) k x y K)

abbrev f15_T (R : Type) : Type := Int → (Int → List Int → Option R) → Option R
abbrev f15_X : Type := (Int × Unit)
abbrev f15_Y : Type := (Unit)
/-! ## 15: diorama/element.Pad -/
abbrev f15_l5_X : Type := (Int × Int × Unit)
abbrev f15_l5_Y : Type := (Unit)
noncomputable def f15_l5 {R : Type} (g_f52 : Nat → f52_T R) (g_f53 : Nat → f53_T R) : Nat → Int → Int → (Int → List Int → Option R) → Option R
  | 0, _, _, _ => none
  | k + 1, v1, v2, X0 =>
    g_f52 k (IntKind.i64.wrap ((IntKind.i64.wrap (v1 - 1)) - v2)) v2 (fun v3 v4 =>
      bif (v3 == 0) then
        bif (decide ((0 : Int) ≤ (IntKind.i64.wrap ((IntKind.i64.wrap (v1 - 1)) - v2)))) && (decide ((IntKind.i64.wrap ((IntKind.i64.wrap (v1 - 1)) - v2)) ≤ (IntKind.i64.wrap ((IntKind.i64.wrap (v1 - 1)) - v2)))) && (decide ((IntKind.i64.wrap ((IntKind.i64.wrap (v1 - 1)) - v2)) * ((1 : Nat) : Int) ≤ 140737488355328)) then
          g_f53 k ([[236], v4, (List.replicate ((IntKind.i64.wrap ((IntKind.i64.wrap (v1 - 1)) - v2)).toNat) (0 : Int))]) (fun v5 =>
            X0 0 v5)
        else
          none
      else
        f15_l5 g_f52 g_f53 k v1 (IntKind.i64.wrap (v2 + 1)) X0)
noncomputable def f15_s {R : Type} (g_f52 : Nat → f52_T R) (g_f53 : Nat → f53_T R) (k : Nat) (a0 : Int) (K : Int → List Int → Option R) : Option R :=
  bif decide (a0 < 2) then
    K 1 ([] : List Int)
  else
    bif decide (a0 > 1048576) then
      K 1 ([] : List Int)
    else
      f15_l5 g_f52 g_f53 k a0 1 (fun v6 v7 =>
        K v6 v7)
noncomputable def f15_d {R : Type} (g : f15_T R) (e : Dr D R) : Dr D R := door [.int .i64] [] (fun (x : f15_X) (_y : f15_Y) K => g x.1 (fun z0 z1 => K ⟨.tup [.own 0, .int .i64 z0], [some (.row (.int .u8) z1 true)]⟩)) e
noncomputable def f15_o {R : Type} (g_f52 : Nat → f52_T R) (g_f53 : Nat → f53_T R) (k : Nat) : Orc D R := (orcAdd 53 (f53_d (g_f53 k) noDr) (orcAdd 52 (f52_d (g_f52 k) noDr) noOrc))
theorem f15_o_ok {R : Type} (k : Nat) : OrcOk Try.prog cx (f15_o (R := R) (f52 (R := R)) (f53 (R := R)) k) := (OrcOk.add (f53_ok k FnOk.no) (OrcOk.add (f52_ok k FnOk.no) OrcOk.no))
noncomputable def f15_b : Code := bodyOf Try.f15
noncomputable def f15_l5_a : LAnn := ⟨⟨[], [0, 4], []⟩, exOf (some ⟨[], [2, 3], [524848]⟩) []⟩
noncomputable def f15_ann : Nat → Option LAnn := fun key => bif Nat.beq key 5 then some f15_l5_a else none
noncomputable def f15_l5_b : Code := loopAt f15_b 0
noncomputable def f15_l5_g {R : Type} (g_f52 : Nat → f52_T R) (g_f53 : Nat → f53_T R) (k : Nat) (x : f15_l5_X) (_y : f15_l5_Y) (K : KX R) : Option R := f15_l5 g_f52 g_f53 k x.1 x.2.1 (fun z0 z1 => K (.ret) [.own 524848, .int .i64 z0] [some (.row (.int .u8) z1 true)])
noncomputable def f15_l5_d {R : Type} (g_f52 : Nat → f52_T R) (g_f53 : Nat → f53_T R) (k : Nat) : Lr D R := ldoor [.int .i64, .int .i64] [] (f15_l5_g g_f52 g_f53 k)
noncomputable def f15_l5_lrc {R : Type} (_g_f52 : Nat → f52_T R) (_g_f53 : Nat → f53_T R) (_k : Nat) : Lrc D R := noLrc
theorem f15_l5_e {R : Type} (g_f52 : Nat → f52_T R) (g_f53 : Nat → f53_T R) (k : Nat) (x : f15_l5_X) (y : f15_l5_Y) (K : KX R) : f15_l5_g g_f52 g_f53 (k + 1) x y K = round cx (f15_o g_f52 g_f53 k) (f15_l5_lrc g_f52 g_f53 k) f15_ann kp 35 0 f15_l5_a f15_l5_b (gives (D := D) [.int .i64, .int .i64] x) (giveGs (D := D) [] y) (fun vs os => f15_l5_d g_f52 g_f53 k vs os K) K := by kernel_rfl
theorem f15_l5_d_ok {R : Type} : ∀ k, LoopOk Try.prog cx 35 0 f15_ann (f15_l5_d (R := R) (f52 (R := R)) (f53 (R := R)) k) f15_l5_b :=
  loop_ok (keep := kp) (lrc := f15_l5_lrc (R := R) (f52 (R := R)) (f53 (R := R))) cxOk mixed (f15_o_ok) (show f15_ann (Am.keyOf f15_l5_b) = some f15_l5_a by kernel_rfl) (L := []) (by kernel_rfl) (fun _k => trivial) (J := []) (by kernel_rfl) (fun _k => trivial) (fun _k => LrcNat.no) (fun _x _y _K => by kernel_rfl) (f15_l5_e (f52 (R := R)) (f53 (R := R)))
noncomputable def f15_lrc {R : Type} (g_f52 : Nat → f52_T R) (g_f53 : Nat → f53_T R) (k : Nat) : Lrc D R := (lrcAdd 5 (f15_l5_d g_f52 g_f53 k) noLrc)
theorem f15_e {R : Type} (g_f52 : Nat → f52_T R) (g_f53 : Nat → f53_T R) (k : Nat) (x : f15_X) (y : f15_Y) (K : KR R) : f15_s g_f52 g_f53 k x.1 (fun z0 z1 => K ⟨.tup [.own 0, .int .i64 z0], [some (.row (.int .u8) z1 true)]⟩) = exec cx (f15_o g_f52 g_f53 k) (f15_lrc g_f52 g_f53 k) f15_ann kp 35 0 f15_b (entry (gives (D := D) [.int .i64] x) (giveOs (D := D) [] y)) (fin cx Try.f15.results.toList [(.tmp 2, .own 1099511627776 (.int .u8))] 0 K) := by kernel_rfl
noncomputable def f15 {R : Type} (k : Nat) (a0 : Int) (K : Int → List Int → Option R) : Option R := f15_s (f52 (R := R)) (f53 (R := R)) k a0 K
theorem f15_ok {R : Type} (k : Nat) {e : Dr D R} (he : FnOk Try.prog cx 15 e) : FnOk Try.prog cx 15 (f15_d (f15 k) e) :=
  he.door fun x y => body_ok (keep := kp) (ann := f15_ann) (lrc := f15_lrc (R := R) (f52 (R := R)) (f53 (R := R)) k) (N := 35) (n0 := 0) (c := [(.tmp 2, .own 1099511627776 (.int .u8))]) cxOk mixed (f15_o_ok k) (body := f15_b) (by kernel_rfl : Try.prog.funcs[15]? = some Try.f15) (by kernel_rfl) (by kernel_rfl) (by kernel_rfl) (by kernel_rfl) (of_decide_eq_true (by kernel_rfl)) (L := [f15_l5_b]) (by kernel_rfl) (⟨(f15_l5_d_ok k).use (by kernel_rfl), trivial⟩) (J := []) (by kernel_rfl) trivial ((LrcNat.add (f15_l5_d_ok k).2 LrcNat.no)) (fun K => f15_e (f52 (R := R)) (f53 (R := R)) k x y K)

abbrev f85_T (R : Type) : Type := Int → (Int → Option R) → Option R
abbrev f85_X : Type := (Int × Unit)
abbrev f85_Y : Type := (Unit)
/-! ## 85: diorama/dioramaref01.most -/
noncomputable def f85_s {R : Type} (_k : Nat) (a0 : Int) (K : Int → Option R) : Option R :=
  bif decide ((IntKind.u64.wrap ((IntKind.i64.wrap (7 * a0)))) < 0) then
    none
  else
    K (IntKind.i64.wrap ((shlI .i64 1 (IntKind.u64.wrap ((IntKind.i64.wrap (7 * a0))))) - 1))
noncomputable def f85_d {R : Type} (g : f85_T R) (e : Dr D R) : Dr D R := door [.int .i64] [] (fun (x : f85_X) (_y : f85_Y) K => g x.1 (fun z0 => K ⟨.int .i64 z0, []⟩)) e
noncomputable def f85_o {R : Type} (_k : Nat) : Orc D R := noOrc
theorem f85_o_ok {R : Type} (k : Nat) : OrcOk Try.prog cx (f85_o (R := R) k) := OrcOk.no
noncomputable def f85_b : Code := bodyOf Try.f85
noncomputable def f85_ann : Nat → Option LAnn := fun _key => none
noncomputable def f85_lrc {R : Type} (_k : Nat) : Lrc D R := noLrc
theorem f85_e {R : Type} (k : Nat) (x : f85_X) (y : f85_Y) (K : KR R) : f85_s k x.1 (fun z0 => K ⟨.int .i64 z0, []⟩) = exec cx (f85_o k) (f85_lrc k) f85_ann kp 8 0 f85_b (entry (gives (D := D) [.int .i64] x) (giveOs (D := D) [] y)) (fin cx Try.f85.results.toList [] 0 K) := by kernel_rfl
noncomputable def f85 {R : Type} (k : Nat) (a0 : Int) (K : Int → Option R) : Option R := f85_s k a0 K
theorem f85_ok {R : Type} (k : Nat) {e : Dr D R} (he : FnOk Try.prog cx 85 e) : FnOk Try.prog cx 85 (f85_d (f85 k) e) :=
  he.door fun x y => body_ok (keep := kp) (ann := f85_ann) (lrc := f85_lrc (R := R) k) (N := 8) (n0 := 0) (c := []) cxOk mixed (f85_o_ok k) (body := f85_b) (by kernel_rfl : Try.prog.funcs[85]? = some Try.f85) (by kernel_rfl) (by kernel_rfl) (by kernel_rfl) (by kernel_rfl) (of_decide_eq_true (by kernel_rfl)) (L := []) (by kernel_rfl) trivial (J := []) (by kernel_rfl) trivial (LrcNat.no) (fun K => f85_e k x y K)

abbrev f86_T (R : Type) : Type := Int → Int → (List Int → Option R) → Option R
abbrev f86_X : Type := (Int × Int × Unit)
abbrev f86_Y : Type := (Unit)
/-! ## 86: diorama/dioramaref01.Bytes -/
abbrev f86_l3_X : Type := (Int × Unit × Int × Unit)
abbrev f86_l3_Y : Type := (List Int × Unit)
noncomputable def f86_l3 {R : Type} : Nat → Int → Int → List Int → (List Int → Option R) → Option R
  | 0, _, _, _, _ => none
  | k + 1, v1, v2, v3, X0 =>
    bif decide (v2 ≥ 0) then
      bif inb v2 v3.length then
        f86_l3 k (IntKind.i64.wrap (v1.tdiv 256)) (IntKind.i64.wrap (v2 - 1)) (v3.set v2.toNat (IntKind.u8.wrap ((v1.tmod 256)))) X0
      else
        none
    else
      X0 v3
noncomputable def f86_s {R : Type} (k : Nat) (a0 : Int) (a1 : Int) (K : List Int → Option R) : Option R :=
  bif (decide ((0 : Int) ≤ a1)) && (decide (a1 ≤ a1)) && (decide (a1 * ((1 : Nat) : Int) ≤ 140737488355328)) then
    f86_l3 k a0 (IntKind.i64.wrap (a1 - 1)) (List.replicate a1.toNat (0 : Int)) (fun v4 =>
      K v4)
  else
    none
noncomputable def f86_d {R : Type} (g : f86_T R) (e : Dr D R) : Dr D R := door [.int .i64, .int .i64] [] (fun (x : f86_X) (_y : f86_Y) K => g x.1 x.2.1 (fun z0 => K ⟨.own 0, [some (.row (.int .u8) z0 true)]⟩)) e
noncomputable def f86_o {R : Type} (_k : Nat) : Orc D R := noOrc
theorem f86_o_ok {R : Type} (k : Nat) : OrcOk Try.prog cx (f86_o (R := R) k) := OrcOk.no
noncomputable def f86_b : Code := bodyOf Try.f86
noncomputable def f86_l3_a : LAnn := ⟨⟨[], [0, 5, 6], [131216]⟩, exOf (none) [(0, ⟨[], [5], [131216]⟩)]⟩
noncomputable def f86_ann : Nat → Option LAnn := fun key => bif Nat.beq key 3 then some f86_l3_a else none
noncomputable def f86_l3_b : Code := loopAt f86_b 0
noncomputable def f86_l3_g {R : Type} (k : Nat) (x : f86_l3_X) (y : f86_l3_Y) (K : KX R) : Option R := f86_l3 k x.1 x.2.2.1 y.1 (fun z0 => K (.exit 0) [.own 131216] [some (.row (.int .u8) z0 true)])
noncomputable def f86_l3_d {R : Type} (k : Nat) : Lr D R := ldoor [.int .i64, .own 131216, .int .i64] [some (.row (.int .u8) true)] (f86_l3_g k)
noncomputable def f86_l3_lrc {R : Type} (_k : Nat) : Lrc D R := noLrc
theorem f86_l3_e {R : Type} (k : Nat) (x : f86_l3_X) (y : f86_l3_Y) (K : KX R) : f86_l3_g (k + 1) x y K = round cx (f86_o k) (f86_l3_lrc k) f86_ann kp 24 0 f86_l3_a f86_l3_b (gives (D := D) [.int .i64, .own 131216, .int .i64] x) (giveGs (D := D) [some (.row (.int .u8) true)] y) (fun vs os => f86_l3_d k vs os K) K := by kernel_rfl
theorem f86_l3_d_ok {R : Type} : ∀ k, LoopOk Try.prog cx 24 0 f86_ann (f86_l3_d (R := R) k) f86_l3_b :=
  loop_ok (keep := kp) (lrc := f86_l3_lrc (R := R)) cxOk mixed (f86_o_ok) (show f86_ann (Am.keyOf f86_l3_b) = some f86_l3_a by kernel_rfl) (L := []) (by kernel_rfl) (fun _k => trivial) (J := []) (by kernel_rfl) (fun _k => trivial) (fun _k => LrcNat.no) (fun _x _y _K => by kernel_rfl) (f86_l3_e)
noncomputable def f86_lrc {R : Type} (k : Nat) : Lrc D R := (lrcAdd 3 (f86_l3_d k) noLrc)
theorem f86_e {R : Type} (k : Nat) (x : f86_X) (y : f86_Y) (K : KR R) : f86_s k x.1 x.2.1 (fun z0 => K ⟨.own 0, [some (.row (.int .u8) z0 true)]⟩) = exec cx (f86_o k) (f86_lrc k) f86_ann kp 24 0 f86_b (entry (gives (D := D) [.int .i64, .int .i64] x) (giveOs (D := D) [] y)) (fin cx Try.f86.results.toList [] 0 K) := by kernel_rfl
noncomputable def f86 {R : Type} (k : Nat) (a0 : Int) (a1 : Int) (K : List Int → Option R) : Option R := f86_s k a0 a1 K
theorem f86_ok {R : Type} (k : Nat) {e : Dr D R} (he : FnOk Try.prog cx 86 e) : FnOk Try.prog cx 86 (f86_d (f86 k) e) :=
  he.door fun x y => body_ok (keep := kp) (ann := f86_ann) (lrc := f86_lrc (R := R) k) (N := 24) (n0 := 0) (c := []) cxOk mixed (f86_o_ok k) (body := f86_b) (by kernel_rfl : Try.prog.funcs[86]? = some Try.f86) (by kernel_rfl) (by kernel_rfl) (by kernel_rfl) (by kernel_rfl) (of_decide_eq_true (by kernel_rfl)) (L := [f86_l3_b]) (by kernel_rfl) (⟨(f86_l3_d_ok k).use (by kernel_rfl), trivial⟩) (J := []) (by kernel_rfl) trivial ((LrcNat.add (f86_l3_d_ok k).2 LrcNat.no)) (fun K => f86_e k x y K)

abbrev f54_T (R : Type) : Type := Int → Int → (Int → List Int → Option R) → Option R
abbrev f54_X : Type := (Int × Int × Unit)
abbrev f54_Y : Type := (Unit)
/-! ## 54: diorama/dioramaref01.PutVint -/
abbrev f54_l5_X : Type := (Int × Int × Unit)
abbrev f54_l5_Y : Type := (Unit)
noncomputable def f54_l5 {R : Type} (g_f85 : Nat → f85_T R) (g_f86 : Nat → f86_T R) : Nat → Int → Int → (Int → Int → Option R) → Option R
  | 0, _, _, _ => none
  | k + 1, v1, v2, X0 =>
    bif decide (v2 < 8) then
      g_f85 k v2 (fun v3 =>
        bif decide (v1 ≥ v3) then
          f54_l5 g_f85 g_f86 k v1 (IntKind.i64.wrap (v2 + 1)) X0
        else
          X0 v1 v2)
    else
      X0 v1 v2
noncomputable def f54_s {R : Type} (g_f85 : Nat → f85_T R) (g_f86 : Nat → f86_T R) (k : Nat) (a0 : Int) (a1 : Int) (K : Int → List Int → Option R) : Option R :=
  bif decide (a1 < 0) then
    K 1 ([] : List Int)
  else
    bif decide (a1 > 8) then
      K 1 ([] : List Int)
    else
      bif decide (a0 < 0) then
        K 1 ([] : List Int)
      else
        bif (a1 == 0) then
          f54_l5 g_f85 g_f86 k a0 1 (fun v4 v5 =>
            g_f85 k v5 (fun v6 =>
              bif decide (v4 ≥ v6) then
                K 1 ([] : List Int)
              else
                bif decide ((IntKind.u64.wrap ((IntKind.i64.wrap (7 * v5)))) < 0) then
                  none
                else
                  g_f86 k (IntKind.i64.wrap (v4 + (shlI .i64 1 (IntKind.u64.wrap ((IntKind.i64.wrap (7 * v5))))))) v5 (fun v7 =>
                    K 0 v7)))
        else
          g_f85 k a1 (fun v8 =>
            bif decide (a0 ≥ v8) then
              K 1 ([] : List Int)
            else
              bif decide ((IntKind.u64.wrap ((IntKind.i64.wrap (7 * a1)))) < 0) then
                none
              else
                g_f86 k (IntKind.i64.wrap (a0 + (shlI .i64 1 (IntKind.u64.wrap ((IntKind.i64.wrap (7 * a1))))))) a1 (fun v9 =>
                  K 0 v9))
noncomputable def f54_d {R : Type} (g : f54_T R) (e : Dr D R) : Dr D R := door [.int .i64, .int .i64] [] (fun (x : f54_X) (_y : f54_Y) K => g x.1 x.2.1 (fun z0 z1 => K ⟨.tup [.own 0, .int .i64 z0], [some (.row (.int .u8) z1 true)]⟩)) e
noncomputable def f54_o {R : Type} (g_f85 : Nat → f85_T R) (g_f86 : Nat → f86_T R) (k : Nat) : Orc D R := (orcAdd 86 (f86_d (g_f86 k) noDr) (orcAdd 85 (f85_d (g_f85 k) noDr) noOrc))
theorem f54_o_ok {R : Type} (k : Nat) : OrcOk Try.prog cx (f54_o (R := R) (f85 (R := R)) (f86 (R := R)) k) := (OrcOk.add (f86_ok k FnOk.no) (OrcOk.add (f85_ok k FnOk.no) OrcOk.no))
noncomputable def f54_b : Code := bodyOf Try.f54
noncomputable def f54_l5_a : LAnn := ⟨⟨[], [0, 1], []⟩, exOf (none) [(0, ⟨[], [0, 1], []⟩)]⟩
noncomputable def f54_ann : Nat → Option LAnn := fun key => bif Nat.beq key 5 then some f54_l5_a else none
noncomputable def f54_l5_b : Code := loopAt f54_b 0
noncomputable def f54_l5_g {R : Type} (g_f85 : Nat → f85_T R) (g_f86 : Nat → f86_T R) (k : Nat) (x : f54_l5_X) (_y : f54_l5_Y) (K : KX R) : Option R := f54_l5 g_f85 g_f86 k x.1 x.2.1 (fun z0 z1 => K (.exit 0) [.int .i64 z0, .int .i64 z1] [])
noncomputable def f54_l5_d {R : Type} (g_f85 : Nat → f85_T R) (g_f86 : Nat → f86_T R) (k : Nat) : Lr D R := ldoor [.int .i64, .int .i64] [] (f54_l5_g g_f85 g_f86 k)
noncomputable def f54_l5_lrc {R : Type} (_g_f85 : Nat → f85_T R) (_g_f86 : Nat → f86_T R) (_k : Nat) : Lrc D R := noLrc
theorem f54_l5_e {R : Type} (g_f85 : Nat → f85_T R) (g_f86 : Nat → f86_T R) (k : Nat) (x : f54_l5_X) (y : f54_l5_Y) (K : KX R) : f54_l5_g g_f85 g_f86 (k + 1) x y K = round cx (f54_o g_f85 g_f86 k) (f54_l5_lrc g_f85 g_f86 k) f54_ann kp 40 0 f54_l5_a f54_l5_b (gives (D := D) [.int .i64, .int .i64] x) (giveGs (D := D) [] y) (fun vs os => f54_l5_d g_f85 g_f86 k vs os K) K := by kernel_rfl
theorem f54_l5_d_ok {R : Type} : ∀ k, LoopOk Try.prog cx 40 0 f54_ann (f54_l5_d (R := R) (f85 (R := R)) (f86 (R := R)) k) f54_l5_b :=
  loop_ok (keep := kp) (lrc := f54_l5_lrc (R := R) (f85 (R := R)) (f86 (R := R))) cxOk mixed (f54_o_ok) (show f54_ann (Am.keyOf f54_l5_b) = some f54_l5_a by kernel_rfl) (L := []) (by kernel_rfl) (fun _k => trivial) (J := []) (by kernel_rfl) (fun _k => trivial) (fun _k => LrcNat.no) (fun _x _y _K => by kernel_rfl) (f54_l5_e (f85 (R := R)) (f86 (R := R)))
noncomputable def f54_lrc {R : Type} (g_f85 : Nat → f85_T R) (g_f86 : Nat → f86_T R) (k : Nat) : Lrc D R := (lrcAdd 5 (f54_l5_d g_f85 g_f86 k) noLrc)
theorem f54_e {R : Type} (g_f85 : Nat → f85_T R) (g_f86 : Nat → f86_T R) (k : Nat) (x : f54_X) (y : f54_Y) (K : KR R) : f54_s g_f85 g_f86 k x.1 x.2.1 (fun z0 z1 => K ⟨.tup [.own 0, .int .i64 z0], [some (.row (.int .u8) z1 true)]⟩) = exec cx (f54_o g_f85 g_f86 k) (f54_lrc g_f85 g_f86 k) f54_ann kp 40 0 f54_b (entry (gives (D := D) [.int .i64, .int .i64] x) (giveOs (D := D) [] y)) (fin cx Try.f54.results.toList [(.tmp 4, .own 1099511627776 (.int .u8))] 0 K) := by kernel_rfl
noncomputable def f54 {R : Type} (k : Nat) (a0 : Int) (a1 : Int) (K : Int → List Int → Option R) : Option R := f54_s (f85 (R := R)) (f86 (R := R)) k a0 a1 K
theorem f54_ok {R : Type} (k : Nat) {e : Dr D R} (he : FnOk Try.prog cx 54 e) : FnOk Try.prog cx 54 (f54_d (f54 k) e) :=
  he.door fun x y => body_ok (keep := kp) (ann := f54_ann) (lrc := f54_lrc (R := R) (f85 (R := R)) (f86 (R := R)) k) (N := 40) (n0 := 0) (c := [(.tmp 4, .own 1099511627776 (.int .u8))]) cxOk mixed (f54_o_ok k) (body := f54_b) (by kernel_rfl : Try.prog.funcs[54]? = some Try.f54) (by kernel_rfl) (by kernel_rfl) (by kernel_rfl) (by kernel_rfl) (of_decide_eq_true (by kernel_rfl)) (L := [f54_l5_b]) (by kernel_rfl) (⟨(f54_l5_d_ok k).use (by kernel_rfl), trivial⟩) (J := []) (by kernel_rfl) trivial ((LrcNat.add (f54_l5_d_ok k).2 LrcNat.no)) (fun K => f54_e (f85 (R := R)) (f86 (R := R)) k x y K)


end Go.Proofs.Ytklhjegfkpmdoaa

/-! What the functions do, as plain functions; and that they do. -/
namespace Go.Proofs.Ytklhjegfkpmdoaa
open Go Go.Am
abbrev f16_T (R : Type) : Type := Int → (Int → List Int → Option R) → Option R
abbrev f16_X : Type := (Int × Unit)
abbrev f16_Y : Type := (Unit)
/-! ## 16: diorama/dioramaref04.Pad -/
abbrev f16_l4_X : Type := (Int × Int × Unit)
abbrev f16_l4_Y : Type := (Unit)
noncomputable def f16_l4 {R : Type} (g_f54 : Nat → f54_T R) : Nat → Int → Int → Option R → (Int → List Int → Option R) → Option R
  | 0, _, _, _, _ => none
  | k + 1, v1, v2, X0, X1 =>
    bif decide (v2 ≤ 8) then
      g_f54 k (IntKind.i64.wrap ((IntKind.i64.wrap (v1 - 1)) - v2)) v2 (fun v3 v4 =>
        bif (v3 == 0) then
          bif room 1 (([236]).length + v4.length) then
            bif decide ((0 : Int) ≤ (IntKind.i64.wrap ((IntKind.i64.wrap (v1 - 1)) - v2))) && decide ((IntKind.i64.wrap ((IntKind.i64.wrap (v1 - 1)) - v2)) * (1 : Nat) ≤ 140737488355328) then
              bif room 1 ((([236]) ++ v4).length + (List.replicate ((IntKind.i64.wrap ((IntKind.i64.wrap (v1 - 1)) - v2)).toNat) (0 : Int)).length) then
                X1 0 ((([236]) ++ v4) ++ (List.replicate ((IntKind.i64.wrap ((IntKind.i64.wrap (v1 - 1)) - v2)).toNat) (0 : Int)))
              else
                none
            else
              none
          else
            none
        else
          f16_l4 g_f54 k v1 (IntKind.i64.wrap (v2 + 1)) X0 X1)
    else
      X0
noncomputable def f16_s {R : Type} (g_f54 : Nat → f54_T R) (k : Nat) (a0 : Int) (K : Int → List Int → Option R) : Option R :=
  bif decide (a0 < 2) then
    K 1 ([] : List Int)
  else
    bif decide (a0 > 1048576) then
      K 1 ([] : List Int)
    else
      f16_l4 g_f54 k a0 1 (
        K 1 ([] : List Int)) (fun v5 v6 =>
        K v5 v6)
noncomputable def f16_d {R : Type} (g : f16_T R) (e : Dr D R) : Dr D R := door [.int .i64] [] (fun (x : f16_X) (_y : f16_Y) K => g x.1 (fun z0 z1 => K ⟨.tup [.own 0, .int .i64 z0], [some (.row (.int .u8) z1 true)]⟩)) e
noncomputable def f16_o {R : Type} (g_f54 : Nat → f54_T R) (k : Nat) : Orc D R := (orcAdd 54 (f54_d (g_f54 k) noDr) noOrc)
theorem f16_o_ok {R : Type} (k : Nat) : OrcOk Try.prog cx (f16_o (R := R) (f54 (R := R)) k) := (OrcOk.add (f54_ok k FnOk.no) OrcOk.no)
noncomputable def f16_b : Code := bodyOf Try.f16
noncomputable def f16_l4_a : LAnn := ⟨⟨[], [0, 4], []⟩, exOf (some ⟨[], [2, 3], [655968]⟩) [(0, ⟨[], [], []⟩)]⟩
noncomputable def f16_ann : Nat → Option LAnn := fun key => bif Nat.beq key 4 then some f16_l4_a else none
noncomputable def f16_l4_b : Code := loopAt f16_b 0
noncomputable def f16_l4_g {R : Type} (g_f54 : Nat → f54_T R) (k : Nat) (x : f16_l4_X) (_y : f16_l4_Y) (K : KX R) : Option R := f16_l4 g_f54 k x.1 x.2.1 (K (.exit 0) [] []) (fun z0 z1 => K (.ret) [.own 655968, .int .i64 z0] [some (.row (.int .u8) z1 true)])
noncomputable def f16_l4_d {R : Type} (g_f54 : Nat → f54_T R) (k : Nat) : Lr D R := ldoor [.int .i64, .int .i64] [] (f16_l4_g g_f54 k)
noncomputable def f16_l4_lrc {R : Type} (_g_f54 : Nat → f54_T R) (_k : Nat) : Lrc D R := noLrc
theorem f16_l4_e {R : Type} (g_f54 : Nat → f54_T R) (k : Nat) (x : f16_l4_X) (y : f16_l4_Y) (K : KX R) : f16_l4_g g_f54 (k + 1) x y K = round cx (f16_o g_f54 k) (f16_l4_lrc g_f54 k) f16_ann kp 38 0 f16_l4_a f16_l4_b (gives (D := D) [.int .i64, .int .i64] x) (giveGs (D := D) [] y) (fun vs os => f16_l4_d g_f54 k vs os K) K := by kernel_rfl
theorem f16_l4_d_ok {R : Type} : ∀ k, LoopOk Try.prog cx 38 0 f16_ann (f16_l4_d (R := R) (f54 (R := R)) k) f16_l4_b :=
  loop_ok (keep := kp) (lrc := f16_l4_lrc (R := R) (f54 (R := R))) cxOk mixed (f16_o_ok) (show f16_ann (Am.keyOf f16_l4_b) = some f16_l4_a by kernel_rfl) (L := []) (by kernel_rfl) (fun _k => trivial) (J := []) (by kernel_rfl) (fun _k => trivial) (fun _k => LrcNat.no) (fun _x _y _K => by kernel_rfl) (f16_l4_e (f54 (R := R)))
noncomputable def f16_lrc {R : Type} (g_f54 : Nat → f54_T R) (k : Nat) : Lrc D R := (lrcAdd 4 (f16_l4_d g_f54 k) noLrc)
theorem f16_e {R : Type} (g_f54 : Nat → f54_T R) (k : Nat) (x : f16_X) (y : f16_Y) (K : KR R) : f16_s g_f54 k x.1 (fun z0 z1 => K ⟨.tup [.own 0, .int .i64 z0], [some (.row (.int .u8) z1 true)]⟩) = exec cx (f16_o g_f54 k) (f16_lrc g_f54 k) f16_ann kp 38 0 f16_b (entry (gives (D := D) [.int .i64] x) (giveOs (D := D) [] y)) (fin cx Try.f16.results.toList [(.tmp 2, .own 1099511627776 (.int .u8))] 0 K) := by kernel_rfl
noncomputable def f16 {R : Type} (k : Nat) (a0 : Int) (K : Int → List Int → Option R) : Option R := f16_s (f54 (R := R)) k a0 K
theorem f16_ok {R : Type} (k : Nat) {e : Dr D R} (he : FnOk Try.prog cx 16 e) : FnOk Try.prog cx 16 (f16_d (f16 k) e) :=
  he.door fun x y => body_ok (keep := kp) (ann := f16_ann) (lrc := f16_lrc (R := R) (f54 (R := R)) k) (N := 38) (n0 := 0) (c := [(.tmp 2, .own 1099511627776 (.int .u8))]) cxOk mixed (f16_o_ok k) (body := f16_b) (by kernel_rfl : Try.prog.funcs[16]? = some Try.f16) (by kernel_rfl) (by kernel_rfl) (by kernel_rfl) (by kernel_rfl) (of_decide_eq_true (by kernel_rfl)) (L := [f16_l4_b]) (by kernel_rfl) (⟨(f16_l4_d_ok k).use (by kernel_rfl), trivial⟩) (J := []) (by kernel_rfl) trivial ((LrcNat.add (f16_l4_d_ok k).2 LrcNat.no)) (fun K => f16_e (f54 (R := R)) k x y K)

abbrev f17_T (R : Type) : Type := List Int → List Int → (Bool → Option R) → Option R
abbrev f17_X : Type := (List Int × List Int × Unit)
abbrev f17_Y : Type := (Unit)
/-! ## 17: diorama/dioramaref04.EqBytes -/
noncomputable def f17_s {R : Type} (_k : Nat) (a0 : List Int) (a1 : List Int) (K : Bool → Option R) : Option R :=
  K ((strOf a0).toList == (strOf a1).toList)
noncomputable def f17_d {R : Type} (g : f17_T R) (e : Dr D R) : Dr D R := door [.list (.int .u8), .list (.int .u8)] [] (fun (x : f17_X) (_y : f17_Y) K => g x.1 x.2.1 (fun z0 => K ⟨.bool z0, []⟩)) e
noncomputable def f17_o {R : Type} (_k : Nat) : Orc D R := noOrc
theorem f17_o_ok {R : Type} (k : Nat) : OrcOk Try.prog cx (f17_o (R := R) k) := OrcOk.no
noncomputable def f17_b : Code := bodyOf Try.f17
noncomputable def f17_ann : Nat → Option LAnn := fun _key => none
noncomputable def f17_lrc {R : Type} (_k : Nat) : Lrc D R := noLrc
theorem f17_e {R : Type} (k : Nat) (x : f17_X) (y : f17_Y) (K : KR R) : f17_s k x.1 x.2.1 (fun z0 => K ⟨.bool z0, []⟩) = exec cx (f17_o k) (f17_lrc k) f17_ann kp 10 0 f17_b (entry (gives (D := D) [.list (.int .u8), .list (.int .u8)] x) (giveOs (D := D) [] y)) (fin cx Try.f17.results.toList [] 0 K) := by kernel_rfl
noncomputable def f17 {R : Type} (k : Nat) (a0 : List Int) (a1 : List Int) (K : Bool → Option R) : Option R := f17_s k a0 a1 K
theorem f17_ok {R : Type} (k : Nat) {e : Dr D R} (he : FnOk Try.prog cx 17 e) : FnOk Try.prog cx 17 (f17_d (f17 k) e) :=
  he.door fun x y => body_ok (keep := kp) (ann := f17_ann) (lrc := f17_lrc (R := R) k) (N := 10) (n0 := 0) (c := []) cxOk mixed (f17_o_ok k) (body := f17_b) (by kernel_rfl : Try.prog.funcs[17]? = some Try.f17) (by kernel_rfl) (by kernel_rfl) (by kernel_rfl) (by kernel_rfl) (of_decide_eq_true (by kernel_rfl)) (L := []) (by kernel_rfl) trivial (J := []) (by kernel_rfl) trivial (LrcNat.no) (fun K => f17_e k x y K)

abbrev f56_T (R : Type) : Type := List Int → Int → Int → Int → Int → (Bool → List Int → Int → Int → Int → Int → Option R) → Option R
abbrev f56_X : Type := (Unit × Unit)
abbrev f56_Y : Type := ((List Int × Int × Int × Unit × Int × Int × Unit) × Unit)
/-! ## 56: (*diorama/element.parser).ok -/
noncomputable def f56_s {R : Type} (_k : Nat) (a0 : List Int) (a1 : Int) (a2 : Int) (a3 : Int) (a4 : Int) (K : Bool → List Int → Int → Int → Int → Int → Option R) : Option R :=
  K (a3 == 0) a0 a1 a2 a3 a4
noncomputable def f56_d {R : Type} (g : f56_T R) (e : Dr D R) : Dr D R := door [.ptr 0 0] [.box [.list (.int .u8), .int .i64, .int .i64, .nil, .int .i64, .int .i64]] (fun (_x : f56_X) (y : f56_Y) K => g y.1.1 y.1.2.1 y.1.2.2.1 y.1.2.2.2.2.1 y.1.2.2.2.2.2.1 (fun z0 z1 z2 z3 z4 z5 => K ⟨.bool z0, [some (.box [.list (.int .u8) z1, .int .i64 z2, .int .i64 z3, .nil, .int .i64 z4, .int .i64 z5])]⟩)) e
noncomputable def f56_o {R : Type} (_k : Nat) : Orc D R := noOrc
theorem f56_o_ok {R : Type} (k : Nat) : OrcOk Try.prog cx (f56_o (R := R) k) := OrcOk.no
noncomputable def f56_b : Code := bodyOf Try.f56
noncomputable def f56_ann : Nat → Option LAnn := fun _key => none
noncomputable def f56_lrc {R : Type} (_k : Nat) : Lrc D R := noLrc
theorem f56_e {R : Type} (k : Nat) (x : f56_X) (y : f56_Y) (K : KR R) : f56_s k y.1.1 y.1.2.1 y.1.2.2.1 y.1.2.2.2.2.1 y.1.2.2.2.2.2.1 (fun z0 z1 z2 z3 z4 z5 => K ⟨.bool z0, [some (.box [.list (.int .u8) z1, .int .i64 z2, .int .i64 z3, .nil, .int .i64 z4, .int .i64 z5])]⟩) = exec cx (f56_o k) (f56_lrc k) f56_ann kp 9 1 f56_b (entry (gives (D := D) [.ptr 0 0] x) (giveOs (D := D) [.box [.list (.int .u8), .int .i64, .int .i64, .nil, .int .i64, .int .i64]] y)) (fin cx Try.f56.results.toList [] 1 K) := by kernel_rfl
noncomputable def f56 {R : Type} (k : Nat) (a0 : List Int) (a1 : Int) (a2 : Int) (a3 : Int) (a4 : Int) (K : Bool → List Int → Int → Int → Int → Int → Option R) : Option R := f56_s k a0 a1 a2 a3 a4 K
theorem f56_ok {R : Type} (k : Nat) {e : Dr D R} (he : FnOk Try.prog cx 56 e) : FnOk Try.prog cx 56 (f56_d (f56 k) e) :=
  he.door fun x y => body_ok (keep := kp) (ann := f56_ann) (lrc := f56_lrc (R := R) k) (N := 9) (n0 := 1) (c := []) cxOk mixed (f56_o_ok k) (body := f56_b) (by kernel_rfl : Try.prog.funcs[56]? = some Try.f56) (by kernel_rfl) (by kernel_rfl) (by kernel_rfl) (by kernel_rfl) (of_decide_eq_true (by kernel_rfl)) (L := []) (by kernel_rfl) trivial (J := []) (by kernel_rfl) trivial (LrcNat.no) (fun K => f56_e k x y K)

abbrev f87_T (R : Type) : Type := Int → List Int → Int → Int → Int → Int → (List Int → Int → Int → Int → Int → Option R) → Option R
abbrev f87_X : Type := (Unit × Int × Unit)
abbrev f87_Y : Type := ((List Int × Int × Int × Unit × Int × Int × Unit) × Unit)
/-! ## 87: (*diorama/element.parser).fail -/
noncomputable def f87_s {R : Type} (g_f56 : Nat → f56_T R) (k : Nat) (a0 : Int) (a1 : List Int) (a2 : Int) (a3 : Int) (a4 : Int) (a5 : Int) (K : List Int → Int → Int → Int → Int → Option R) : Option R :=
  g_f56 k a1 a2 a3 a4 a5 (fun v1 v2 v3 v4 v5 v6 =>
    bif v1 then
      K v2 v3 v4 a0 v3
    else
      K v2 v3 v4 v5 v6)
noncomputable def f87_d {R : Type} (g : f87_T R) (e : Dr D R) : Dr D R := door [.ptr 0 0, .int .i64] [.box [.list (.int .u8), .int .i64, .int .i64, .nil, .int .i64, .int .i64]] (fun (x : f87_X) (y : f87_Y) K => g x.2.1 y.1.1 y.1.2.1 y.1.2.2.1 y.1.2.2.2.2.1 y.1.2.2.2.2.2.1 (fun z0 z1 z2 z3 z4 => K ⟨.tup [], [some (.box [.list (.int .u8) z0, .int .i64 z1, .int .i64 z2, .nil, .int .i64 z3, .int .i64 z4])]⟩)) e
noncomputable def f87_o {R : Type} (g_f56 : Nat → f56_T R) (k : Nat) : Orc D R := (orcAdd 56 (f56_d (g_f56 k) noDr) noOrc)
theorem f87_o_ok {R : Type} (k : Nat) : OrcOk Try.prog cx (f87_o (R := R) (f56 (R := R)) k) := (OrcOk.add (f56_ok k FnOk.no) OrcOk.no)
noncomputable def f87_b : Code := bodyOf Try.f87
noncomputable def f87_ann : Nat → Option LAnn := fun _key => none
noncomputable def f87_lrc {R : Type} (_g_f56 : Nat → f56_T R) (_k : Nat) : Lrc D R := noLrc
theorem f87_e {R : Type} (g_f56 : Nat → f56_T R) (k : Nat) (x : f87_X) (y : f87_Y) (K : KR R) : f87_s g_f56 k x.2.1 y.1.1 y.1.2.1 y.1.2.2.1 y.1.2.2.2.2.1 y.1.2.2.2.2.2.1 (fun z0 z1 z2 z3 z4 => K ⟨.tup [], [some (.box [.list (.int .u8) z0, .int .i64 z1, .int .i64 z2, .nil, .int .i64 z3, .int .i64 z4])]⟩) = exec cx (f87_o g_f56 k) (f87_lrc g_f56 k) f87_ann kp 15 1 f87_b (entry (gives (D := D) [.ptr 0 0, .int .i64] x) (giveOs (D := D) [.box [.list (.int .u8), .int .i64, .int .i64, .nil, .int .i64, .int .i64]] y)) (fin cx Try.f87.results.toList [] 1 K) := by kernel_rfl
noncomputable def f87 {R : Type} (k : Nat) (a0 : Int) (a1 : List Int) (a2 : Int) (a3 : Int) (a4 : Int) (a5 : Int) (K : List Int → Int → Int → Int → Int → Option R) : Option R := f87_s (f56 (R := R)) k a0 a1 a2 a3 a4 a5 K
theorem f87_ok {R : Type} (k : Nat) {e : Dr D R} (he : FnOk Try.prog cx 87 e) : FnOk Try.prog cx 87 (f87_d (f87 k) e) :=
  he.door fun x y => body_ok (keep := kp) (ann := f87_ann) (lrc := f87_lrc (R := R) (f56 (R := R)) k) (N := 15) (n0 := 1) (c := []) cxOk mixed (f87_o_ok k) (body := f87_b) (by kernel_rfl : Try.prog.funcs[87]? = some Try.f87) (by kernel_rfl) (by kernel_rfl) (by kernel_rfl) (by kernel_rfl) (of_decide_eq_true (by kernel_rfl)) (L := []) (by kernel_rfl) trivial (J := []) (by kernel_rfl) trivial (LrcNat.no) (fun K => f87_e (f56 (R := R)) k x y K)

abbrev f63_T (R : Type) : Type := Int → (Int → Option R) → Option R
abbrev f63_X : Type := (Int × Unit)
abbrev f63_Y : Type := (Unit)
/-! ## 63: diorama/element.idBytes -/
abbrev f63_l2_X : Type := (Int × Int × Unit)
abbrev f63_l2_Y : Type := (Unit)
noncomputable def f63_l2 {R : Type} : Nat → Int → Int → Option R → (Int → Option R) → Option R
  | 0, _, _, _, _ => none
  | k + 1, v1, v2, X0, X1 =>
    bif decide (v2 ≤ 4) then
      bif decide ((IntKind.i64.wrap (8 - v2)) < 0) then
        none
      else
        bif ((shrI .u8 v1 (IntKind.i64.wrap (8 - v2))) == 1) then
          X1 v2
        else
          f63_l2 k v1 (IntKind.i64.wrap (v2 + 1)) X0 X1
    else
      X0
noncomputable def f63_s {R : Type} (k : Nat) (a0 : Int) (K : Int → Option R) : Option R :=
  f63_l2 k a0 1 (
    K 0) (fun v3 =>
    K v3)
noncomputable def f63_d {R : Type} (g : f63_T R) (e : Dr D R) : Dr D R := door [.int .u8] [] (fun (x : f63_X) (_y : f63_Y) K => g x.1 (fun z0 => K ⟨.int .i64 z0, []⟩)) e
noncomputable def f63_o {R : Type} (_k : Nat) : Orc D R := noOrc
theorem f63_o_ok {R : Type} (k : Nat) : OrcOk Try.prog cx (f63_o (R := R) k) := OrcOk.no
noncomputable def f63_b : Code := bodyOf Try.f63
noncomputable def f63_l2_a : LAnn := ⟨⟨[], [0, 3], []⟩, exOf (some ⟨[], [2], []⟩) [(0, ⟨[], [], []⟩)]⟩
noncomputable def f63_ann : Nat → Option LAnn := fun key => bif Nat.beq key 2 then some f63_l2_a else none
noncomputable def f63_l2_b : Code := loopAt f63_b 0
noncomputable def f63_l2_g {R : Type} (k : Nat) (x : f63_l2_X) (_y : f63_l2_Y) (K : KX R) : Option R := f63_l2 k x.1 x.2.1 (K (.exit 0) [] []) (fun z0 => K (.ret) [.int .i64 z0] [])
noncomputable def f63_l2_d {R : Type} (k : Nat) : Lr D R := ldoor [.int .u8, .int .i64] [] (f63_l2_g k)
noncomputable def f63_l2_lrc {R : Type} (_k : Nat) : Lrc D R := noLrc
theorem f63_l2_e {R : Type} (k : Nat) (x : f63_l2_X) (y : f63_l2_Y) (K : KX R) : f63_l2_g (k + 1) x y K = round cx (f63_o k) (f63_l2_lrc k) f63_ann kp 14 0 f63_l2_a f63_l2_b (gives (D := D) [.int .u8, .int .i64] x) (giveGs (D := D) [] y) (fun vs os => f63_l2_d k vs os K) K := by kernel_rfl
theorem f63_l2_d_ok {R : Type} : ∀ k, LoopOk Try.prog cx 14 0 f63_ann (f63_l2_d (R := R) k) f63_l2_b :=
  loop_ok (keep := kp) (lrc := f63_l2_lrc (R := R)) cxOk mixed (f63_o_ok) (show f63_ann (Am.keyOf f63_l2_b) = some f63_l2_a by kernel_rfl) (L := []) (by kernel_rfl) (fun _k => trivial) (J := []) (by kernel_rfl) (fun _k => trivial) (fun _k => LrcNat.no) (fun _x _y _K => by kernel_rfl) (f63_l2_e)
noncomputable def f63_lrc {R : Type} (k : Nat) : Lrc D R := (lrcAdd 2 (f63_l2_d k) noLrc)
theorem f63_e {R : Type} (k : Nat) (x : f63_X) (y : f63_Y) (K : KR R) : f63_s k x.1 (fun z0 => K ⟨.int .i64 z0, []⟩) = exec cx (f63_o k) (f63_lrc k) f63_ann kp 14 0 f63_b (entry (gives (D := D) [.int .u8] x) (giveOs (D := D) [] y)) (fin cx Try.f63.results.toList [] 0 K) := by kernel_rfl
noncomputable def f63 {R : Type} (k : Nat) (a0 : Int) (K : Int → Option R) : Option R := f63_s k a0 K
theorem f63_ok {R : Type} (k : Nat) {e : Dr D R} (he : FnOk Try.prog cx 63 e) : FnOk Try.prog cx 63 (f63_d (f63 k) e) :=
  he.door fun x y => body_ok (keep := kp) (ann := f63_ann) (lrc := f63_lrc (R := R) k) (N := 14) (n0 := 0) (c := []) cxOk mixed (f63_o_ok k) (body := f63_b) (by kernel_rfl : Try.prog.funcs[63]? = some Try.f63) (by kernel_rfl) (by kernel_rfl) (by kernel_rfl) (by kernel_rfl) (of_decide_eq_true (by kernel_rfl)) (L := [f63_l2_b]) (by kernel_rfl) (⟨(f63_l2_d_ok k).use (by kernel_rfl), trivial⟩) (J := []) (by kernel_rfl) trivial ((LrcNat.add (f63_l2_d_ok k).2 LrcNat.no)) (fun K => f63_e k x y K)

abbrev f64_T (R : Type) : Type := List Int → Int → Int → (Int → Int → Option R) → Option R
abbrev f64_X : Type := (List Int × Int × Int × Unit)
abbrev f64_Y : Type := (Unit)
/-! ## 64: diorama/bits.Int -/
abbrev f64_l7_X : Type := (Int × List Int × Int × Int × Unit)
abbrev f64_l7_Y : Type := (Unit)
noncomputable def f64_l7 {R : Type} : Nat → Int → List Int → Int → Int → (Int → Option R) → Option R
  | 0, _, _, _, _, _ => none
  | k + 1, v1, v2, v3, v4, X0 =>
    bif decide (v4 < v3) then
      bif inb v4 v2.length then
        f64_l7 k (orI .u64 (shlI .u64 v1 8) (IntKind.u64.wrap ((v2.getD v4.toNat 0)))) v2 v3 (IntKind.i64.wrap (v4 + 1)) X0
      else
        none
    else
      X0 v1
noncomputable def f64_s {R : Type} (k : Nat) (a0 : List Int) (a1 : Int) (a2 : Int) (K : Int → Int → Option R) : Option R :=
  bif decide (a2 < 1) then
    K 0 1
  else
    bif decide (a2 > 8) then
      K 0 1
    else
      bif decide (a1 < 0) then
        K 0 1
      else
        bif decide (a1 > (a0.length : Int)) then
          K 0 3
        else
          bif decide ((IntKind.i64.wrap ((a0.length : Int) - a1)) < a2) then
            K 0 3
          else
            bif upto (IntKind.i64.wrap (a1 + a2)) a0.length then
              bif (decide (0 ≤ a1)) && (decide (a1 ≤ (IntKind.i64.wrap (a1 + a2)))) then
                f64_l7 k 0 ((a0.take ((IntKind.i64.wrap (a1 + a2)).toNat)).drop a1.toNat) (((a0.take ((IntKind.i64.wrap (a1 + a2)).toNat)).drop a1.toNat).length : Int) 0 (fun v5 =>
                  bif decide (v5 > 9223372036854775807) then
                    K 0 1
                  else
                    K (IntKind.i64.wrap (v5)) 0)
              else
                none
            else
              none
noncomputable def f64_d {R : Type} (g : f64_T R) (e : Dr D R) : Dr D R := door [.list (.int .u8), .int .i64, .int .i64] [] (fun (x : f64_X) (_y : f64_Y) K => g x.1 x.2.1 x.2.2.1 (fun z0 z1 => K ⟨.tup [.int .i64 z0, .int .i64 z1], []⟩)) e
noncomputable def f64_o {R : Type} (_k : Nat) : Orc D R := noOrc
theorem f64_o_ok {R : Type} (k : Nat) : OrcOk Try.prog cx (f64_o (R := R) k) := OrcOk.no
noncomputable def f64_b : Code := bodyOf Try.f64
noncomputable def f64_l7_a : LAnn := ⟨⟨[], [8, 38, 39, 40], []⟩, exOf (none) [(0, ⟨[], [8], []⟩)]⟩
noncomputable def f64_ann : Nat → Option LAnn := fun key => bif Nat.beq key 7 then some f64_l7_a else none
noncomputable def f64_l7_b : Code := loopAt f64_b 0
noncomputable def f64_l7_g {R : Type} (k : Nat) (x : f64_l7_X) (_y : f64_l7_Y) (K : KX R) : Option R := f64_l7 k x.1 x.2.1 x.2.2.1 x.2.2.2.1 (fun z0 => K (.exit 0) [.int .u64 z0] [])
noncomputable def f64_l7_d {R : Type} (k : Nat) : Lr D R := ldoor [.int .u64, .list (.int .u8), .int .i64, .int .i64] [] (f64_l7_g k)
noncomputable def f64_l7_lrc {R : Type} (_k : Nat) : Lrc D R := noLrc
theorem f64_l7_e {R : Type} (k : Nat) (x : f64_l7_X) (y : f64_l7_Y) (K : KX R) : f64_l7_g (k + 1) x y K = round cx (f64_o k) (f64_l7_lrc k) f64_ann kp 54 0 f64_l7_a f64_l7_b (gives (D := D) [.int .u64, .list (.int .u8), .int .i64, .int .i64] x) (giveGs (D := D) [] y) (fun vs os => f64_l7_d k vs os K) K := by kernel_rfl
theorem f64_l7_d_ok {R : Type} : ∀ k, LoopOk Try.prog cx 54 0 f64_ann (f64_l7_d (R := R) k) f64_l7_b :=
  loop_ok (keep := kp) (lrc := f64_l7_lrc (R := R)) cxOk mixed (f64_o_ok) (show f64_ann (Am.keyOf f64_l7_b) = some f64_l7_a by kernel_rfl) (L := []) (by kernel_rfl) (fun _k => trivial) (J := []) (by kernel_rfl) (fun _k => trivial) (fun _k => LrcNat.no) (fun _x _y _K => by kernel_rfl) (f64_l7_e)
noncomputable def f64_lrc {R : Type} (k : Nat) : Lrc D R := (lrcAdd 7 (f64_l7_d k) noLrc)
theorem f64_e {R : Type} (k : Nat) (x : f64_X) (y : f64_Y) (K : KR R) : f64_s k x.1 x.2.1 x.2.2.1 (fun z0 z1 => K ⟨.tup [.int .i64 z0, .int .i64 z1], []⟩) = exec cx (f64_o k) (f64_lrc k) f64_ann kp 54 0 f64_b (entry (gives (D := D) [.list (.int .u8), .int .i64, .int .i64] x) (giveOs (D := D) [] y)) (fin cx Try.f64.results.toList [] 0 K) := by kernel_rfl
noncomputable def f64 {R : Type} (k : Nat) (a0 : List Int) (a1 : Int) (a2 : Int) (K : Int → Int → Option R) : Option R := f64_s k a0 a1 a2 K
theorem f64_ok {R : Type} (k : Nat) {e : Dr D R} (he : FnOk Try.prog cx 64 e) : FnOk Try.prog cx 64 (f64_d (f64 k) e) :=
  he.door fun x y => body_ok (keep := kp) (ann := f64_ann) (lrc := f64_lrc (R := R) k) (N := 54) (n0 := 0) (c := []) cxOk mixed (f64_o_ok k) (body := f64_b) (by kernel_rfl : Try.prog.funcs[64]? = some Try.f64) (by kernel_rfl) (by kernel_rfl) (by kernel_rfl) (by kernel_rfl) (of_decide_eq_true (by kernel_rfl)) (L := [f64_l7_b]) (by kernel_rfl) (⟨(f64_l7_d_ok k).use (by kernel_rfl), trivial⟩) (J := []) (by kernel_rfl) trivial ((LrcNat.add (f64_l7_d_ok k).2 LrcNat.no)) (fun K => f64_e k x y K)

abbrev f112_T (R : Type) : Type := Int → (Int → Option R) → Option R
abbrev f112_X : Type := (Int × Unit)
abbrev f112_Y : Type := (Unit)
/-! ## 112: math/bits.Len8 -/
noncomputable def f112_s {R : Type} (_k : Nat) (a0 : Int) (K : Int → Option R) : Option R :=
  bif inb a0 lit2.size then
    K (IntKind.i64.wrap (((lit2.data.toList.getD a0.toNat 0).toNat : Int)))
  else
    none
noncomputable def f112_d {R : Type} (g : f112_T R) (e : Dr D R) : Dr D R := door [.int .u8] [] (fun (x : f112_X) (_y : f112_Y) K => g x.1 (fun z0 => K ⟨.int .i64 z0, []⟩)) e
noncomputable def f112_o {R : Type} (_k : Nat) : Orc D R := noOrc
theorem f112_o_ok {R : Type} (k : Nat) : OrcOk Try.prog cx (f112_o (R := R) k) := OrcOk.no
noncomputable def f112_b : Code := bodyOf Try.f112
noncomputable def f112_ann : Nat → Option LAnn := fun _key => none
noncomputable def f112_lrc {R : Type} (_k : Nat) : Lrc D R := noLrc
theorem f112_e {R : Type} (k : Nat) (x : f112_X) (y : f112_Y) (K : KR R) : f112_s k x.1 (fun z0 => K ⟨.int .i64 z0, []⟩) = exec cx (f112_o k) (f112_lrc k) f112_ann kp 6 0 f112_b (entry (gives (D := D) [.int .u8] x) (giveOs (D := D) [] y)) (fin cx Try.f112.results.toList [] 0 K) := by kernel_rfl
noncomputable def f112 {R : Type} (k : Nat) (a0 : Int) (K : Int → Option R) : Option R := f112_s k a0 K
theorem f112_ok {R : Type} (k : Nat) {e : Dr D R} (he : FnOk Try.prog cx 112 e) : FnOk Try.prog cx 112 (f112_d (f112 k) e) :=
  he.door fun x y => body_ok (keep := kp) (ann := f112_ann) (lrc := f112_lrc (R := R) k) (N := 6) (n0 := 0) (c := []) cxOk mixed (f112_o_ok k) (body := f112_b) (by kernel_rfl : Try.prog.funcs[112]? = some Try.f112) (by kernel_rfl) (by kernel_rfl) (by kernel_rfl) (by kernel_rfl) (of_decide_eq_true (by kernel_rfl)) (L := []) (by kernel_rfl) trivial (J := []) (by kernel_rfl) trivial (LrcNat.no) (fun K => f112_e k x y K)

abbrev f111_T (R : Type) : Type := Int → (Int → Option R) → Option R
abbrev f111_X : Type := (Int × Unit)
abbrev f111_Y : Type := (Unit)
/-! ## 111: math/bits.LeadingZeros8 -/
noncomputable def f111_s {R : Type} (g_f112 : Nat → f112_T R) (k : Nat) (a0 : Int) (K : Int → Option R) : Option R :=
  g_f112 k a0 (fun v1 =>
    K (IntKind.i64.wrap (8 - v1)))
noncomputable def f111_d {R : Type} (g : f111_T R) (e : Dr D R) : Dr D R := door [.int .u8] [] (fun (x : f111_X) (_y : f111_Y) K => g x.1 (fun z0 => K ⟨.int .i64 z0, []⟩)) e
noncomputable def f111_o {R : Type} (g_f112 : Nat → f112_T R) (k : Nat) : Orc D R := (orcAdd 112 (f112_d (g_f112 k) noDr) noOrc)
theorem f111_o_ok {R : Type} (k : Nat) : OrcOk Try.prog cx (f111_o (R := R) (f112 (R := R)) k) := (OrcOk.add (f112_ok k FnOk.no) OrcOk.no)
noncomputable def f111_b : Code := bodyOf Try.f111
noncomputable def f111_ann : Nat → Option LAnn := fun _key => none
noncomputable def f111_lrc {R : Type} (_g_f112 : Nat → f112_T R) (_k : Nat) : Lrc D R := noLrc
theorem f111_e {R : Type} (g_f112 : Nat → f112_T R) (k : Nat) (x : f111_X) (y : f111_Y) (K : KR R) : f111_s g_f112 k x.1 (fun z0 => K ⟨.int .i64 z0, []⟩) = exec cx (f111_o g_f112 k) (f111_lrc g_f112 k) f111_ann kp 6 0 f111_b (entry (gives (D := D) [.int .u8] x) (giveOs (D := D) [] y)) (fin cx Try.f111.results.toList [] 0 K) := by kernel_rfl
noncomputable def f111 {R : Type} (k : Nat) (a0 : Int) (K : Int → Option R) : Option R := f111_s (f112 (R := R)) k a0 K
theorem f111_ok {R : Type} (k : Nat) {e : Dr D R} (he : FnOk Try.prog cx 111 e) : FnOk Try.prog cx 111 (f111_d (f111 k) e) :=
  he.door fun x y => body_ok (keep := kp) (ann := f111_ann) (lrc := f111_lrc (R := R) (f112 (R := R)) k) (N := 6) (n0 := 0) (c := []) cxOk mixed (f111_o_ok k) (body := f111_b) (by kernel_rfl : Try.prog.funcs[111]? = some Try.f111) (by kernel_rfl) (by kernel_rfl) (by kernel_rfl) (by kernel_rfl) (of_decide_eq_true (by kernel_rfl)) (L := []) (by kernel_rfl) trivial (J := []) (by kernel_rfl) trivial (LrcNat.no) (fun K => f111_e (f112 (R := R)) k x y K)

abbrev f107_T (R : Type) : Type := List Int → Int → (Int → Int → Bool → Int → Option R) → Option R
abbrev f107_X : Type := (List Int × Int × Unit)
abbrev f107_Y : Type := (Unit)
/-! ## 107: diorama/bits.Vint -/
abbrev f107_l12_X : Type := (Int × Int × List Int × Int × Int × Unit)
abbrev f107_l12_Y : Type := (Unit)
noncomputable def f107_l12 {R : Type} (g_f82 : Nat → f82_T R) (g_f111 : Nat → f111_T R) : Nat → Int → Int → List Int → Int → Int → (Int → Int → Option R) → Option R
  | 0, _, _, _, _, _, _ => none
  | k + 1, v2, v3, v4, v5, v6, X0 =>
    bif decide (v6 < v5) then
      bif inb v6 v4.length then
        f107_l12 g_f82 g_f111 k (orI .i64 (shlI .i64 v2 8) (IntKind.i64.wrap ((v4.getD v6.toNat 0)))) v3 v4 v5 (IntKind.i64.wrap (v6 + 1)) X0
      else
        none
    else
      X0 v2 v3
noncomputable def f107_s {R : Type} (g_f82 : Nat → f82_T R) (g_f111 : Nat → f111_T R) (k : Nat) (a0 : List Int) (a1 : Int) (K : Int → Int → Bool → Int → Option R) : Option R :=
  bif decide (a1 < 0) then
    K 0 0 false 1
  else
    bif decide (a1 ≥ (a0.length : Int)) then
      K 0 0 false 3
    else
      bif inb a1 a0.length then
        bif ((a0.getD a1.toNat 0) == 0) then
          K 0 0 false 4
        else
          bif inb a1 a0.length then
            g_f111 k (a0.getD a1.toNat 0) (fun v1 =>
              bif decide ((IntKind.i64.wrap ((a0.length : Int) - a1)) < (IntKind.i64.wrap (v1 + 1))) then
                K 0 0 false 3
              else
                bif inb a1 a0.length then
                  bif decide ((IntKind.i64.wrap (v1 + 1)) < 0) then
                    none
                  else
                    bif upto (IntKind.i64.wrap (a1 + (IntKind.i64.wrap (v1 + 1)))) a0.length then
                      bif (decide (0 ≤ (IntKind.i64.wrap (a1 + 1)))) && (decide ((IntKind.i64.wrap (a1 + 1)) ≤ (IntKind.i64.wrap (a1 + (IntKind.i64.wrap (v1 + 1)))))) then
                        f107_l12 g_f82 g_f111 k (andI .i64 (IntKind.i64.wrap ((a0.getD a1.toNat 0))) (shrI .i64 255 (IntKind.i64.wrap (v1 + 1)))) (IntKind.i64.wrap (v1 + 1)) ((a0.take ((IntKind.i64.wrap (a1 + (IntKind.i64.wrap (v1 + 1)))).toNat)).drop ((IntKind.i64.wrap (a1 + 1)).toNat)) (((a0.take ((IntKind.i64.wrap (a1 + (IntKind.i64.wrap (v1 + 1)))).toNat)).drop ((IntKind.i64.wrap (a1 + 1)).toNat)).length : Int) 0 (fun v7 v8 =>
                          g_f82 k v8 (fun v9 =>
                            bif (v7 == v9) then
                              K 0 v8 true 0
                            else
                              K v7 v8 false 0))
                      else
                        none
                    else
                      none
                else
                  none)
          else
            none
      else
        none
noncomputable def f107_d {R : Type} (g : f107_T R) (e : Dr D R) : Dr D R := door [.list (.int .u8), .int .i64] [] (fun (x : f107_X) (_y : f107_Y) K => g x.1 x.2.1 (fun z0 z1 z2 z3 => K ⟨.tup [.int .i64 z0, .int .i64 z1, .bool z2, .int .i64 z3], []⟩)) e
noncomputable def f107_o {R : Type} (g_f82 : Nat → f82_T R) (g_f111 : Nat → f111_T R) (k : Nat) : Orc D R := (orcAdd 111 (f111_d (g_f111 k) noDr) (orcAdd 82 (f82_d (g_f82 k) noDr) noOrc))
theorem f107_o_ok {R : Type} (k : Nat) : OrcOk Try.prog cx (f107_o (R := R) (f82 (R := R)) (f111 (R := R)) k) := (OrcOk.add (f111_ok k FnOk.no) (OrcOk.add (f82_ok k FnOk.no) OrcOk.no))
noncomputable def f107_b : Code := bodyOf Try.f107
noncomputable def f107_l12_a : LAnn := ⟨⟨[], [4, 5, 47, 48, 49], []⟩, exOf (none) [(0, ⟨[], [4, 5], []⟩)]⟩
noncomputable def f107_ann : Nat → Option LAnn := fun key => bif Nat.beq key 12 then some f107_l12_a else none
noncomputable def f107_l12_b : Code := loopAt f107_b 0
noncomputable def f107_l12_g {R : Type} (g_f82 : Nat → f82_T R) (g_f111 : Nat → f111_T R) (k : Nat) (x : f107_l12_X) (_y : f107_l12_Y) (K : KX R) : Option R := f107_l12 g_f82 g_f111 k x.1 x.2.1 x.2.2.1 x.2.2.2.1 x.2.2.2.2.1 (fun z0 z1 => K (.exit 0) [.int .i64 z0, .int .i64 z1] [])
noncomputable def f107_l12_d {R : Type} (g_f82 : Nat → f82_T R) (g_f111 : Nat → f111_T R) (k : Nat) : Lr D R := ldoor [.int .i64, .int .i64, .list (.int .u8), .int .i64, .int .i64] [] (f107_l12_g g_f82 g_f111 k)
noncomputable def f107_l12_lrc {R : Type} (_g_f82 : Nat → f82_T R) (_g_f111 : Nat → f111_T R) (_k : Nat) : Lrc D R := noLrc
theorem f107_l12_e {R : Type} (g_f82 : Nat → f82_T R) (g_f111 : Nat → f111_T R) (k : Nat) (x : f107_l12_X) (y : f107_l12_Y) (K : KX R) : f107_l12_g g_f82 g_f111 (k + 1) x y K = round cx (f107_o g_f82 g_f111 k) (f107_l12_lrc g_f82 g_f111 k) f107_ann kp 66 0 f107_l12_a f107_l12_b (gives (D := D) [.int .i64, .int .i64, .list (.int .u8), .int .i64, .int .i64] x) (giveGs (D := D) [] y) (fun vs os => f107_l12_d g_f82 g_f111 k vs os K) K := by kernel_rfl
theorem f107_l12_d_ok {R : Type} : ∀ k, LoopOk Try.prog cx 66 0 f107_ann (f107_l12_d (R := R) (f82 (R := R)) (f111 (R := R)) k) f107_l12_b :=
  loop_ok (keep := kp) (lrc := f107_l12_lrc (R := R) (f82 (R := R)) (f111 (R := R))) cxOk mixed (f107_o_ok) (show f107_ann (Am.keyOf f107_l12_b) = some f107_l12_a by kernel_rfl) (L := []) (by kernel_rfl) (fun _k => trivial) (J := []) (by kernel_rfl) (fun _k => trivial) (fun _k => LrcNat.no) (fun _x _y _K => by kernel_rfl) (f107_l12_e (f82 (R := R)) (f111 (R := R)))
noncomputable def f107_lrc {R : Type} (g_f82 : Nat → f82_T R) (g_f111 : Nat → f111_T R) (k : Nat) : Lrc D R := (lrcAdd 12 (f107_l12_d g_f82 g_f111 k) noLrc)
theorem f107_e {R : Type} (g_f82 : Nat → f82_T R) (g_f111 : Nat → f111_T R) (k : Nat) (x : f107_X) (y : f107_Y) (K : KR R) : f107_s g_f82 g_f111 k x.1 x.2.1 (fun z0 z1 z2 z3 => K ⟨.tup [.int .i64 z0, .int .i64 z1, .bool z2, .int .i64 z3], []⟩) = exec cx (f107_o g_f82 g_f111 k) (f107_lrc g_f82 g_f111 k) f107_ann kp 66 0 f107_b (entry (gives (D := D) [.list (.int .u8), .int .i64] x) (giveOs (D := D) [] y)) (fin cx Try.f107.results.toList [] 0 K) := by kernel_rfl
noncomputable def f107 {R : Type} (k : Nat) (a0 : List Int) (a1 : Int) (K : Int → Int → Bool → Int → Option R) : Option R := f107_s (f82 (R := R)) (f111 (R := R)) k a0 a1 K
theorem f107_ok {R : Type} (k : Nat) {e : Dr D R} (he : FnOk Try.prog cx 107 e) : FnOk Try.prog cx 107 (f107_d (f107 k) e) :=
  he.door fun x y => body_ok (keep := kp) (ann := f107_ann) (lrc := f107_lrc (R := R) (f82 (R := R)) (f111 (R := R)) k) (N := 66) (n0 := 0) (c := []) cxOk mixed (f107_o_ok k) (body := f107_b) (by kernel_rfl : Try.prog.funcs[107]? = some Try.f107) (by kernel_rfl) (by kernel_rfl) (by kernel_rfl) (by kernel_rfl) (of_decide_eq_true (by kernel_rfl)) (L := [f107_l12_b]) (by kernel_rfl) (⟨(f107_l12_d_ok k).use (by kernel_rfl), trivial⟩) (J := []) (by kernel_rfl) trivial ((LrcNat.add (f107_l12_d_ok k).2 LrcNat.no)) (fun K => f107_e (f82 (R := R)) (f111 (R := R)) k x y K)

abbrev f60_T (R : Type) : Type := Int → Int → (Bool → Option R) → Option R
abbrev f60_X : Type := (Int × Int × Unit)
abbrev f60_Y : Type := (Unit)
/-! ## 60: diorama/element.isId -/
noncomputable def f60_s {R : Type} (_k : Nat) (a0 : Int) (a1 : Int) (K : Bool → Option R) : Option R :=
  bif decide ((IntKind.i64.wrap (7 * a1)) < 0) then
    none
  else
    bif ((andI .i64 a0 (IntKind.i64.wrap ((shlI .i64 1 (IntKind.i64.wrap (7 * a1))) - 1))) != 0) then
      K ((andI .i64 a0 (IntKind.i64.wrap ((shlI .i64 1 (IntKind.i64.wrap (7 * a1))) - 1))) != (IntKind.i64.wrap ((shlI .i64 1 (IntKind.i64.wrap (7 * a1))) - 1)))
    else
      K false
noncomputable def f60_d {R : Type} (g : f60_T R) (e : Dr D R) : Dr D R := door [.int .i64, .int .i64] [] (fun (x : f60_X) (_y : f60_Y) K => g x.1 x.2.1 (fun z0 => K ⟨.bool z0, []⟩)) e
noncomputable def f60_o {R : Type} (_k : Nat) : Orc D R := noOrc
theorem f60_o_ok {R : Type} (k : Nat) : OrcOk Try.prog cx (f60_o (R := R) k) := OrcOk.no
noncomputable def f60_b : Code := bodyOf Try.f60
noncomputable def f60_ann : Nat → Option LAnn := fun _key => none
noncomputable def f60_lrc {R : Type} (_k : Nat) : Lrc D R := noLrc
theorem f60_e {R : Type} (k : Nat) (x : f60_X) (y : f60_Y) (K : KR R) : f60_s k x.1 x.2.1 (fun z0 => K ⟨.bool z0, []⟩) = exec cx (f60_o k) (f60_lrc k) f60_ann kp 21 0 f60_b (entry (gives (D := D) [.int .i64, .int .i64] x) (giveOs (D := D) [] y)) (fin cx Try.f60.results.toList [] 0 K) := by kernel_rfl
noncomputable def f60 {R : Type} (k : Nat) (a0 : Int) (a1 : Int) (K : Bool → Option R) : Option R := f60_s k a0 a1 K
theorem f60_ok {R : Type} (k : Nat) {e : Dr D R} (he : FnOk Try.prog cx 60 e) : FnOk Try.prog cx 60 (f60_d (f60 k) e) :=
  he.door fun x y => body_ok (keep := kp) (ann := f60_ann) (lrc := f60_lrc (R := R) k) (N := 21) (n0 := 0) (c := []) cxOk mixed (f60_o_ok k) (body := f60_b) (by kernel_rfl : Try.prog.funcs[60]? = some Try.f60) (by kernel_rfl) (by kernel_rfl) (by kernel_rfl) (by kernel_rfl) (of_decide_eq_true (by kernel_rfl)) (L := []) (by kernel_rfl) trivial (J := []) (by kernel_rfl) trivial (LrcNat.no) (fun K => f60_e k x y K)

abbrev f58_T (R : Type) : Type := (List D0 → Option R) → Option R
abbrev f58_X : Type := (Unit)
abbrev f58_Y : Type := (Unit)
/-! ## 58: diorama/element.schema -/
noncomputable def f58_s {R : Type} (_k : Nat) (K : List D0 → Option R) : Option R :=
  K ([(469832109, (⟨#[72, 101, 97, 100]⟩ : ByteArray), 0, true, false), (178, (⟨#[70, 105, 108, 101, 73, 100]⟩ : ByteArray), 177, false, false), (161, (⟨#[68, 111, 99]⟩ : ByteArray), 469832109, false, false), (179, (⟨#[70, 105, 108, 101, 78, 97, 109, 101]⟩ : ByteArray), 177, false, false), (162, (⟨#[86, 101, 114, 115, 105, 111, 110]⟩ : ByteArray), 469832109, false, false), (180, (⟨#[70, 105, 108, 101, 84, 121, 112, 101]⟩ : ByteArray), 177, false, false), (470113888, (⟨#[83, 101, 103, 109, 101, 110, 116]⟩ : ByteArray), 0, true, true), (181, (⟨#[70, 105, 108, 101, 68, 97, 116, 97]⟩ : ByteArray), 177, false, false), (16641, (⟨#[83, 101, 101, 107]⟩ : ByteArray), 470113888, false, false), (436207636, (⟨#[67, 104, 97, 112, 116, 101, 114, 115]⟩ : ByteArray), 470113888, true, false), (436207633, (⟨#[73, 110, 102, 111]⟩ : ByteArray), 470113888, true, false), (224, (⟨#[69, 100, 105, 116, 105, 111, 110]⟩ : ByteArray), 436207636, true, false), (145, (⟨#[83, 99, 97, 108, 101]⟩ : ByteArray), 436207633, false, false), (225, lit3, 224, false, false), (146, (⟨#[84, 105, 116, 108, 101]⟩ : ByteArray), 436207633, false, false), (226, (⟨#[79, 114, 100, 101, 114, 101, 100]⟩ : ByteArray), 224, false, false), (436207634, (⟨#[84, 114, 97, 99, 107, 115]⟩ : ByteArray), 470113888, true, false), (227, (⟨#[67, 104, 97, 112, 116, 101, 114]⟩ : ByteArray), 224, true, false), (174, (⟨#[84, 114, 97, 99, 107]⟩ : ByteArray), 436207634, true, false), (228, (⟨#[67, 104, 97, 112, 73, 100]⟩ : ByteArray), 227, false, false), (193, (⟨#[84, 114, 97, 99, 107, 73, 100]⟩ : ByteArray), 174, false, false), (229, (⟨#[67, 104, 97, 112, 70, 114, 111, 109]⟩ : ByteArray), 227, false, false), (194, lit4, 174, false, false), (230, (⟨#[67, 104, 97, 112, 84, 111]⟩ : ByteArray), 227, false, false), (195, (⟨#[67, 111, 100, 101, 99]⟩ : ByteArray), 174, false, false), (231, lit5, 227, false, false), (196, lit6, 174, false, false), (232, (⟨#[72, 105, 100, 100, 101, 110]⟩ : ByteArray), 227, false, false), (197, (⟨#[83, 101, 116, 117, 112]⟩ : ByteArray), 174, false, false), (436207637, (⟨#[84, 97, 103, 115]⟩ : ByteArray), 470113888, true, false), (198, (⟨#[76, 97, 110, 103]⟩ : ByteArray), 174, false, false), (241, (⟨#[84, 97, 103]⟩ : ByteArray), 436207637, true, false), (199, lit7, 174, false, false), (242, (⟨#[84, 97, 103, 75, 105, 110, 100]⟩ : ByteArray), 241, false, false), (200, (⟨#[80, 114, 101, 114, 111, 108, 108]⟩ : ByteArray), 174, false, false), (243, (⟨#[84, 97, 103, 84, 111]⟩ : ByteArray), 241, false, false), (201, (⟨#[68, 101, 102, 68, 117, 114]⟩ : ByteArray), 174, false, false), (244, (⟨#[84, 97, 103, 78, 97, 109, 101]⟩ : ByteArray), 241, false, false), (202, (⟨#[69, 100, 105, 116]⟩ : ByteArray), 174, true, false), (245, (⟨#[84, 97, 103, 86, 97, 108, 117, 101]⟩ : ByteArray), 241, false, false), (209, (⟨#[69, 100, 105, 116, 68, 117, 114]⟩ : ByteArray), 202, false, false), (436207638, (⟨#[67, 108, 117, 115, 116, 101, 114]⟩ : ByteArray), 470113888, true, true), (210, lit8, 202, false, false), (147, (⟨#[84, 105, 109, 101]⟩ : ByteArray), 436207638, false, false), (203, (⟨#[82, 101, 102]⟩ : ByteArray), 174, true, false), (163, (⟨#[83, 105, 109, 112, 108, 101]⟩ : ByteArray), 436207638, false, false), (211, (⟨#[82, 101, 102, 75, 105, 110, 100]⟩ : ByteArray), 203, false, false), (164, (⟨#[71, 114, 111, 117, 112]⟩ : ByteArray), 436207638, true, false), (212, (⟨#[82, 101, 102, 84, 111]⟩ : ByteArray), 203, false, false), (165, (⟨#[66, 108, 111, 99, 107]⟩ : ByteArray), 164, false, false), (436207635, (⟨#[70, 105, 108, 101, 115]⟩ : ByteArray), 470113888, true, false), (166, (⟨#[68, 117, 114]⟩ : ByteArray), 164, false, false), (177, (⟨#[70, 105, 108, 101]⟩ : ByteArray), 436207635, true, false), (167, (⟨#[68, 101, 99, 111, 100, 101]⟩ : ByteArray), 164, false, false), (436207639, (⟨#[67, 117, 101, 115]⟩ : ByteArray), 470113888, true, false), (168, (⟨#[68, 101, 112, 115]⟩ : ByteArray), 164, false, false), (187, (⟨#[67, 117, 101]⟩ : ByteArray), 436207639, true, false), (169, (⟨#[80, 116, 115]⟩ : ByteArray), 164, false, false), (188, (⟨#[67, 117, 101, 84, 105, 109, 101]⟩ : ByteArray), 187, false, false), (170, (⟨#[76, 111, 99, 107]⟩ : ByteArray), 164, false, false), (189, (⟨#[67, 117, 101, 84, 114, 97, 99, 107]⟩ : ByteArray), 187, false, false), (190, (⟨#[67, 117, 101, 80, 108, 97, 99, 101]⟩ : ByteArray), 187, false, false), (191, (⟨#[67, 117, 101, 66, 108, 111, 99, 107]⟩ : ByteArray), 187, false, false), (236, (⟨#[86, 111, 105, 100]⟩ : ByteArray), (-1), false, false), (237, (⟨#[83, 117, 109]⟩ : ByteArray), (-1), false, false)])
noncomputable def f58_d {R : Type} (g : f58_T R) (e : Dr D R) : Dr D R := door [] [] (fun (_x : f58_X) (_y : f58_Y) K => g (fun z0 => K ⟨.arr (.named 0) z0, []⟩)) e
noncomputable def f58_o {R : Type} (_k : Nat) : Orc D R := noOrc
theorem f58_o_ok {R : Type} (k : Nat) : OrcOk Try.prog cx (f58_o (R := R) k) := OrcOk.no
noncomputable def f58_b : Code := bodyOf Try.f58
noncomputable def f58_ann : Nat → Option LAnn := fun _key => none
noncomputable def f58_lrc {R : Type} (_k : Nat) : Lrc D R := noLrc
theorem f58_e {R : Type} (k : Nat) (x : f58_X) (y : f58_Y) (K : KR R) : f58_s k  (fun z0 => K ⟨.arr (.named 0) z0, []⟩) = exec cx (f58_o k) (f58_lrc k) f58_ann kp 67 0 f58_b (entry (gives (D := D) [] x) (giveOs (D := D) [] y)) (fin cx Try.f58.results.toList [] 0 K) := by kernel_rfl
noncomputable def f58 {R : Type} (k : Nat) (K : List D0 → Option R) : Option R := f58_s k K
theorem f58_ok {R : Type} (k : Nat) {e : Dr D R} (he : FnOk Try.prog cx 58 e) : FnOk Try.prog cx 58 (f58_d (f58 k) e) :=
  he.door fun x y => body_ok (keep := kp) (ann := f58_ann) (lrc := f58_lrc (R := R) k) (N := 67) (n0 := 0) (c := []) cxOk mixed (f58_o_ok k) (body := f58_b) (by kernel_rfl : Try.prog.funcs[58]? = some Try.f58) (by kernel_rfl) (by kernel_rfl) (by kernel_rfl) (by kernel_rfl) (of_decide_eq_true (by kernel_rfl)) (L := []) (by kernel_rfl) trivial (J := []) (by kernel_rfl) trivial (LrcNat.no) (fun K => f58_e k x y K)


end Go.Proofs.Ytklhjegfkpmdoaa

/-! What the functions do, as plain functions; and that they do. -/
namespace Go.Proofs.Ytklhjegfkpmdoaa
open Go Go.Am
abbrev f25_T (R : Type) : Type := Int → (Int → ByteArray → Int → Bool → Bool → Bool → Option R) → Option R
abbrev f25_X : Type := (Int × Unit)
abbrev f25_Y : Type := (Unit)
/-! ## 25: diorama/element.Info -/
abbrev f25_l2_X : Type := (Int × Unit × List D0 × Int × Unit)
abbrev f25_l2_Y : Type := ((Int × ByteArray × Int × Bool × Bool × Unit) × Unit)
noncomputable def f25_l2 {R : Type} (g_f58 : Nat → f58_T R) : Nat → Int → List D0 → Int → Int → ByteArray → Int → Bool → Bool → (Int → ByteArray → Int → Bool → Bool → Option R) → (Bool → Int → ByteArray → Int → Bool → Bool → Option R) → Option R
  | 0, _, _, _, _, _, _, _, _, _, _ => none
  | k + 1, v2, v3, v4, v5, v6, v7, v8, v9, X0, X1 =>
    bif decide (v4 < 65) then
      bif ((inb v4 65) && (inb v4 v3.length)) && true then
        bif (((v3.getD v4.toNat zero0).1) == v2) then
          X1 true ((v3.getD v4.toNat zero0).1) ((v3.getD v4.toNat zero0).2.1) ((v3.getD v4.toNat zero0).2.2.1) ((v3.getD v4.toNat zero0).2.2.2.1) ((v3.getD v4.toNat zero0).2.2.2.2)
        else
          f25_l2 g_f58 k v2 v3 (IntKind.i64.wrap (v4 + 1)) v5 v6 v7 v8 v9 X0 X1
      else
        none
    else
      X0 v5 v6 v7 v8 v9
noncomputable def f25_s {R : Type} (g_f58 : Nat → f58_T R) (k : Nat) (a0 : Int) (K : Int → ByteArray → Int → Bool → Bool → Bool → Option R) : Option R :=
  g_f58 k (fun v1 =>
    f25_l2 g_f58 k a0 v1 0 0 ByteArray.empty 0 false false (fun _v10 _v11 _v12 _v13 _v14 =>
      K 0 ByteArray.empty 0 false false false) (fun v15 v16 v17 v18 v19 v20 =>
      K v16 v17 v18 v19 v20 v15))
noncomputable def f25_d {R : Type} (g : f25_T R) (e : Dr D R) : Dr D R := door [.int .i64] [] (fun (x : f25_X) (_y : f25_Y) K => g x.1 (fun z0 z1 z2 z3 z4 z5 => K ⟨.tup [.agg [.int .i64 z0, .str z1, .int .i64 z2, .bool z3, .bool z4], .bool z5], []⟩)) e
noncomputable def f25_o {R : Type} (g_f58 : Nat → f58_T R) (k : Nat) : Orc D R := (orcAdd 58 (f58_d (g_f58 k) noDr) noOrc)
theorem f25_o_ok {R : Type} (k : Nat) : OrcOk Try.prog cx (f25_o (R := R) (f58 (R := R)) k) := (OrcOk.add (f58_ok k FnOk.no) OrcOk.no)
noncomputable def f25_b : Code := bodyOf Try.f25
noncomputable def f25_l2_a : LAnn := ⟨⟨[], [0, 2, 6, 7], [65584]⟩, exOf (some ⟨[], [2, 3], [65584]⟩) [(0, ⟨[], [2], [65584]⟩)]⟩
noncomputable def f25_ann : Nat → Option LAnn := fun key => bif Nat.beq key 2 then some f25_l2_a else none
noncomputable def f25_l2_b : Code := loopAt f25_b 0
noncomputable def f25_l2_g {R : Type} (g_f58 : Nat → f58_T R) (k : Nat) (x : f25_l2_X) (y : f25_l2_Y) (K : KX R) : Option R := f25_l2 g_f58 k x.1 x.2.2.1 x.2.2.2.1 y.1.1 y.1.2.1 y.1.2.2.1 y.1.2.2.2.1 y.1.2.2.2.2.1 (fun z0 z1 z2 z3 z4 => K (.exit 0) [.ptr 65584 0] [some (.box [.int .i64 z0, .str z1, .int .i64 z2, .bool z3, .bool z4])]) (fun z0 z1 z2 z3 z4 z5 => K (.ret) [.ptr 65584 0, .bool z0] [some (.box [.int .i64 z1, .str z2, .int .i64 z3, .bool z4, .bool z5])])
noncomputable def f25_l2_d {R : Type} (g_f58 : Nat → f58_T R) (k : Nat) : Lr D R := ldoor [.int .i64, .ptr 65584 0, .arr (.named 0), .int .i64] [some (.box [.int .i64, .str, .int .i64, .bool, .bool])] (f25_l2_g g_f58 k)
noncomputable def f25_l2_lrc {R : Type} (_g_f58 : Nat → f58_T R) (_k : Nat) : Lrc D R := noLrc
theorem f25_l2_e {R : Type} (g_f58 : Nat → f58_T R) (k : Nat) (x : f25_l2_X) (y : f25_l2_Y) (K : KX R) : f25_l2_g g_f58 (k + 1) x y K = round cx (f25_o g_f58 k) (f25_l2_lrc g_f58 k) f25_ann kp 17 0 f25_l2_a f25_l2_b (gives (D := D) [.int .i64, .ptr 65584 0, .arr (.named 0), .int .i64] x) (giveGs (D := D) [some (.box [.int .i64, .str, .int .i64, .bool, .bool])] y) (fun vs os => f25_l2_d g_f58 k vs os K) K := by kernel_rfl
theorem f25_l2_d_ok {R : Type} : ∀ k, LoopOk Try.prog cx 17 0 f25_ann (f25_l2_d (R := R) (f58 (R := R)) k) f25_l2_b :=
  loop_ok (keep := kp) (lrc := f25_l2_lrc (R := R) (f58 (R := R))) cxOk mixed (f25_o_ok) (show f25_ann (Am.keyOf f25_l2_b) = some f25_l2_a by kernel_rfl) (L := []) (by kernel_rfl) (fun _k => trivial) (J := []) (by kernel_rfl) (fun _k => trivial) (fun _k => LrcNat.no) (fun _x _y _K => by kernel_rfl) (f25_l2_e (f58 (R := R)))
noncomputable def f25_lrc {R : Type} (g_f58 : Nat → f58_T R) (k : Nat) : Lrc D R := (lrcAdd 2 (f25_l2_d g_f58 k) noLrc)
theorem f25_e {R : Type} (g_f58 : Nat → f58_T R) (k : Nat) (x : f25_X) (y : f25_Y) (K : KR R) : f25_s g_f58 k x.1 (fun z0 z1 z2 z3 z4 z5 => K ⟨.tup [.agg [.int .i64 z0, .str z1, .int .i64 z2, .bool z3, .bool z4], .bool z5], []⟩) = exec cx (f25_o g_f58 k) (f25_lrc g_f58 k) f25_ann kp 17 0 f25_b (entry (gives (D := D) [.int .i64] x) (giveOs (D := D) [] y)) (fin cx Try.f25.results.toList [] 0 K) := by kernel_rfl
noncomputable def f25 {R : Type} (k : Nat) (a0 : Int) (K : Int → ByteArray → Int → Bool → Bool → Bool → Option R) : Option R := f25_s (f58 (R := R)) k a0 K
theorem f25_ok {R : Type} (k : Nat) {e : Dr D R} (he : FnOk Try.prog cx 25 e) : FnOk Try.prog cx 25 (f25_d (f25 k) e) :=
  he.door fun x y => body_ok (keep := kp) (ann := f25_ann) (lrc := f25_lrc (R := R) (f58 (R := R)) k) (N := 17) (n0 := 0) (c := []) cxOk mixed (f25_o_ok k) (body := f25_b) (by kernel_rfl : Try.prog.funcs[25]? = some Try.f25) (by kernel_rfl) (by kernel_rfl) (by kernel_rfl) (by kernel_rfl) (of_decide_eq_true (by kernel_rfl)) (L := [f25_l2_b]) (by kernel_rfl) (⟨(f25_l2_d_ok k).use (by kernel_rfl), trivial⟩) (J := []) (by kernel_rfl) trivial ((LrcNat.add (f25_l2_d_ok k).2 LrcNat.no)) (fun K => f25_e (f58 (R := R)) k x y K)

abbrev f56_2_T (R : Type) : Type := List Int → Int → Int → Int → Int → List D1 → (Bool → List Int → Int → Int → Int → Int → List D1 → Option R) → Option R
abbrev f56_2_X : Type := (Unit × Unit)
abbrev f56_2_Y : Type := ((List Int × Int × Int × Unit × Int × Int × Unit) × List D1 × Unit)
/-! ## 56: (*diorama/element.parser).ok -/
noncomputable def f56_2_s {R : Type} (_k : Nat) (a0 : List Int) (a1 : Int) (a2 : Int) (a3 : Int) (a4 : Int) (a5 : List D1) (K : Bool → List Int → Int → Int → Int → Int → List D1 → Option R) : Option R :=
  K (a3 == 0) a0 a1 a2 a3 a4 a5
noncomputable def f56_2_d {R : Type} (g : f56_2_T R) (e : Dr D R) : Dr D R := door [.ptr 0 0] [.box [.list (.int .u8), .int .i64, .int .i64, .own 1, .int .i64, .int .i64], .row (.named 1) true] (fun (_x : f56_2_X) (y : f56_2_Y) K => g y.1.1 y.1.2.1 y.1.2.2.1 y.1.2.2.2.2.1 y.1.2.2.2.2.2.1 y.2.1 (fun z0 z1 z2 z3 z4 z5 z6 => K ⟨.bool z0, [some (.box [.list (.int .u8) z1, .int .i64 z2, .int .i64 z3, .own 1, .int .i64 z4, .int .i64 z5]), some (.row (.named 1) z6 true)]⟩)) e
noncomputable def f56_2_o {R : Type} (_k : Nat) : Orc D R := noOrc
theorem f56_2_o_ok {R : Type} (k : Nat) : OrcOk Try.prog cx (f56_2_o (R := R) k) := OrcOk.no
noncomputable def f56_2_b : Code := bodyOf Try.f56
noncomputable def f56_2_ann : Nat → Option LAnn := fun _key => none
noncomputable def f56_2_lrc {R : Type} (_k : Nat) : Lrc D R := noLrc
theorem f56_2_e {R : Type} (k : Nat) (x : f56_2_X) (y : f56_2_Y) (K : KR R) : f56_2_s k y.1.1 y.1.2.1 y.1.2.2.1 y.1.2.2.2.2.1 y.1.2.2.2.2.2.1 y.2.1 (fun z0 z1 z2 z3 z4 z5 z6 => K ⟨.bool z0, [some (.box [.list (.int .u8) z1, .int .i64 z2, .int .i64 z3, .own 1, .int .i64 z4, .int .i64 z5]), some (.row (.named 1) z6 true)]⟩) = exec cx (f56_2_o k) (f56_2_lrc k) f56_2_ann kp 9 2 f56_2_b (entry (gives (D := D) [.ptr 0 0] x) (giveOs (D := D) [.box [.list (.int .u8), .int .i64, .int .i64, .own 1, .int .i64, .int .i64], .row (.named 1) true] y)) (fin cx Try.f56.results.toList [] 2 K) := by kernel_rfl
noncomputable def f56_2 {R : Type} (k : Nat) (a0 : List Int) (a1 : Int) (a2 : Int) (a3 : Int) (a4 : Int) (a5 : List D1) (K : Bool → List Int → Int → Int → Int → Int → List D1 → Option R) : Option R := f56_2_s k a0 a1 a2 a3 a4 a5 K
theorem f56_2_ok {R : Type} (k : Nat) {e : Dr D R} (he : FnOk Try.prog cx 56 e) : FnOk Try.prog cx 56 (f56_2_d (f56_2 k) e) :=
  he.door fun x y => body_ok (keep := kp) (ann := f56_2_ann) (lrc := f56_2_lrc (R := R) k) (N := 9) (n0 := 2) (c := []) cxOk mixed (f56_2_o_ok k) (body := f56_2_b) (by kernel_rfl : Try.prog.funcs[56]? = some Try.f56) (by kernel_rfl) (by kernel_rfl) (by kernel_rfl) (by kernel_rfl) (of_decide_eq_true (by kernel_rfl)) (L := []) (by kernel_rfl) trivial (J := []) (by kernel_rfl) trivial (LrcNat.no) (fun K => f56_2_e k x y K)

abbrev f87_2_T (R : Type) : Type := Int → List Int → Int → Int → Int → Int → List D1 → (List Int → Int → Int → Int → Int → List D1 → Option R) → Option R
abbrev f87_2_X : Type := (Unit × Int × Unit)
abbrev f87_2_Y : Type := ((List Int × Int × Int × Unit × Int × Int × Unit) × List D1 × Unit)
/-! ## 87: (*diorama/element.parser).fail -/
noncomputable def f87_2_s {R : Type} (g_f56_2 : Nat → f56_2_T R) (k : Nat) (a0 : Int) (a1 : List Int) (a2 : Int) (a3 : Int) (a4 : Int) (a5 : Int) (a6 : List D1) (K : List Int → Int → Int → Int → Int → List D1 → Option R) : Option R :=
  g_f56_2 k a1 a2 a3 a4 a5 a6 (fun v1 v2 v3 v4 v5 v6 v7 =>
    bif v1 then
      K v2 v3 v4 a0 v3 v7
    else
      K v2 v3 v4 v5 v6 v7)
noncomputable def f87_2_d {R : Type} (g : f87_2_T R) (e : Dr D R) : Dr D R := door [.ptr 0 0, .int .i64] [.box [.list (.int .u8), .int .i64, .int .i64, .own 1, .int .i64, .int .i64], .row (.named 1) true] (fun (x : f87_2_X) (y : f87_2_Y) K => g x.2.1 y.1.1 y.1.2.1 y.1.2.2.1 y.1.2.2.2.2.1 y.1.2.2.2.2.2.1 y.2.1 (fun z0 z1 z2 z3 z4 z5 => K ⟨.tup [], [some (.box [.list (.int .u8) z0, .int .i64 z1, .int .i64 z2, .own 1, .int .i64 z3, .int .i64 z4]), some (.row (.named 1) z5 true)]⟩)) e
noncomputable def f87_2_o {R : Type} (g_f56_2 : Nat → f56_2_T R) (k : Nat) : Orc D R := (orcAdd 56 (f56_2_d (g_f56_2 k) noDr) noOrc)
theorem f87_2_o_ok {R : Type} (k : Nat) : OrcOk Try.prog cx (f87_2_o (R := R) (f56_2 (R := R)) k) := (OrcOk.add (f56_2_ok k FnOk.no) OrcOk.no)
noncomputable def f87_2_b : Code := bodyOf Try.f87
noncomputable def f87_2_ann : Nat → Option LAnn := fun _key => none
noncomputable def f87_2_lrc {R : Type} (_g_f56_2 : Nat → f56_2_T R) (_k : Nat) : Lrc D R := noLrc
theorem f87_2_e {R : Type} (g_f56_2 : Nat → f56_2_T R) (k : Nat) (x : f87_2_X) (y : f87_2_Y) (K : KR R) : f87_2_s g_f56_2 k x.2.1 y.1.1 y.1.2.1 y.1.2.2.1 y.1.2.2.2.2.1 y.1.2.2.2.2.2.1 y.2.1 (fun z0 z1 z2 z3 z4 z5 => K ⟨.tup [], [some (.box [.list (.int .u8) z0, .int .i64 z1, .int .i64 z2, .own 1, .int .i64 z3, .int .i64 z4]), some (.row (.named 1) z5 true)]⟩) = exec cx (f87_2_o g_f56_2 k) (f87_2_lrc g_f56_2 k) f87_2_ann kp 15 2 f87_2_b (entry (gives (D := D) [.ptr 0 0, .int .i64] x) (giveOs (D := D) [.box [.list (.int .u8), .int .i64, .int .i64, .own 1, .int .i64, .int .i64], .row (.named 1) true] y)) (fin cx Try.f87.results.toList [] 2 K) := by kernel_rfl
noncomputable def f87_2 {R : Type} (k : Nat) (a0 : Int) (a1 : List Int) (a2 : Int) (a3 : Int) (a4 : Int) (a5 : Int) (a6 : List D1) (K : List Int → Int → Int → Int → Int → List D1 → Option R) : Option R := f87_2_s (f56_2 (R := R)) k a0 a1 a2 a3 a4 a5 a6 K
theorem f87_2_ok {R : Type} (k : Nat) {e : Dr D R} (he : FnOk Try.prog cx 87 e) : FnOk Try.prog cx 87 (f87_2_d (f87_2 k) e) :=
  he.door fun x y => body_ok (keep := kp) (ann := f87_2_ann) (lrc := f87_2_lrc (R := R) (f56_2 (R := R)) k) (N := 15) (n0 := 2) (c := []) cxOk mixed (f87_2_o_ok k) (body := f87_2_b) (by kernel_rfl : Try.prog.funcs[87]? = some Try.f87) (by kernel_rfl) (by kernel_rfl) (by kernel_rfl) (by kernel_rfl) (of_decide_eq_true (by kernel_rfl)) (L := []) (by kernel_rfl) trivial (J := []) (by kernel_rfl) trivial (LrcNat.no) (fun K => f87_2_e (f56_2 (R := R)) k x y K)

abbrev f95_T (R : Type) : Type := (List Int → Option R) → Option R
abbrev f95_X : Type := (Unit × Unit)
abbrev f95_Y : Type := (Unit)
/-! ## 95: bytes.Clone -/
noncomputable def f95_s {R : Type} (_k : Nat) (K : List Int → Option R) : Option R :=
  K ([] : List Int)
noncomputable def f95_d {R : Type} (g : f95_T R) (e : Dr D R) : Dr D R := door [.nil] [] (fun (_x : f95_X) (_y : f95_Y) K => g (fun z0 => K ⟨.own 0, [some (.row (.int .u8) z0 true)]⟩)) e
noncomputable def f95_o {R : Type} (_k : Nat) : Orc D R := noOrc
theorem f95_o_ok {R : Type} (k : Nat) : OrcOk Try.prog cx (f95_o (R := R) k) := OrcOk.no
noncomputable def f95_b : Code := bodyOf Try.f95
noncomputable def f95_ann : Nat → Option LAnn := fun _key => none
noncomputable def f95_lrc {R : Type} (_k : Nat) : Lrc D R := noLrc
theorem f95_e {R : Type} (k : Nat) (x : f95_X) (y : f95_Y) (K : KR R) : f95_s k  (fun z0 => K ⟨.own 0, [some (.row (.int .u8) z0 true)]⟩) = exec cx (f95_o k) (f95_lrc k) f95_ann kp 8 0 f95_b (entry (gives (D := D) [.nil] x) (giveOs (D := D) [] y)) (fin cx Try.f95.results.toList [(.tmp 2, .own 1099511627776 (.int .u8))] 0 K) := by kernel_rfl
noncomputable def f95 {R : Type} (k : Nat) (K : List Int → Option R) : Option R := f95_s k K
theorem f95_ok {R : Type} (k : Nat) {e : Dr D R} (he : FnOk Try.prog cx 95 e) : FnOk Try.prog cx 95 (f95_d (f95 k) e) :=
  he.door fun x y => body_ok (keep := kp) (ann := f95_ann) (lrc := f95_lrc (R := R) k) (N := 8) (n0 := 0) (c := [(.tmp 2, .own 1099511627776 (.int .u8))]) cxOk mixed (f95_o_ok k) (body := f95_b) (by kernel_rfl : Try.prog.funcs[95]? = some Try.f95) (by kernel_rfl) (by kernel_rfl) (by kernel_rfl) (by kernel_rfl) (of_decide_eq_true (by kernel_rfl)) (L := []) (by kernel_rfl) trivial (J := []) (by kernel_rfl) trivial (LrcNat.no) (fun K => f95_e k x y K)

abbrev f95_2_T (R : Type) : Type := List Int → (List Int → Option R) → Option R
abbrev f95_2_X : Type := (List Int × Unit)
abbrev f95_2_Y : Type := (Unit)
/-! ## 95: bytes.Clone -/
noncomputable def f95_2_s {R : Type} (_k : Nat) (a0 : List Int) (K : List Int → Option R) : Option R :=
  bif room 1 (([] : List Int).length + a0.length) then
    K a0
  else
    none
noncomputable def f95_2_d {R : Type} (g : f95_2_T R) (e : Dr D R) : Dr D R := door [.full (.int .u8)] [] (fun (x : f95_2_X) (_y : f95_2_Y) K => g x.1 (fun z0 => K ⟨.own 0, [some (.row (.int .u8) z0 true)]⟩)) e
noncomputable def f95_2_o {R : Type} (_k : Nat) : Orc D R := noOrc
theorem f95_2_o_ok {R : Type} (k : Nat) : OrcOk Try.prog cx (f95_2_o (R := R) k) := OrcOk.no
noncomputable def f95_2_b : Code := bodyOf Try.f95
noncomputable def f95_2_ann : Nat → Option LAnn := fun _key => none
noncomputable def f95_2_lrc {R : Type} (_k : Nat) : Lrc D R := noLrc
theorem f95_2_e {R : Type} (k : Nat) (x : f95_2_X) (y : f95_2_Y) (K : KR R) : f95_2_s k x.1 (fun z0 => K ⟨.own 0, [some (.row (.int .u8) z0 true)]⟩) = exec cx (f95_2_o k) (f95_2_lrc k) f95_2_ann kp 8 0 f95_2_b (entry (gives (D := D) [.full (.int .u8)] x) (giveOs (D := D) [] y)) (fin cx Try.f95.results.toList [(.tmp 2, .own 1099511627776 (.int .u8))] 0 K) := by kernel_rfl
noncomputable def f95_2 {R : Type} (k : Nat) (a0 : List Int) (K : List Int → Option R) : Option R := f95_2_s k a0 K
theorem f95_2_ok {R : Type} (k : Nat) {e : Dr D R} (he : FnOk Try.prog cx 95 e) : FnOk Try.prog cx 95 (f95_2_d (f95_2 k) e) :=
  he.door fun x y => body_ok (keep := kp) (ann := f95_2_ann) (lrc := f95_2_lrc (R := R) k) (N := 8) (n0 := 0) (c := [(.tmp 2, .own 1099511627776 (.int .u8))]) cxOk mixed (f95_2_o_ok k) (body := f95_2_b) (by kernel_rfl : Try.prog.funcs[95]? = some Try.f95) (by kernel_rfl) (by kernel_rfl) (by kernel_rfl) (by kernel_rfl) (of_decide_eq_true (by kernel_rfl)) (L := []) (by kernel_rfl) trivial (J := []) (by kernel_rfl) trivial (LrcNat.no) (fun K => f95_2_e k x y K)
noncomputable def f95_2L_d {R : Type} (g : f95_2_T R) (e : Dr D R) : Dr D R := door [.list (.int .u8)] [] (fun (x : (List Int × Unit)) (y : Unit) K => g x.1 (fun z0 => K ⟨.own 0, [some (.row (.int .u8) z0 true)]⟩)) e
theorem f95_2L_ok {R : Type} (k : Nat) {e : Dr D R} (he : FnOk Try.prog cx 95 e) : FnOk Try.prog cx 95 (f95_2L_d (f95_2 k) e) :=
  he.door fun x _y => split_ok (fun K r h => (f95_2_ok k FnOk.no).1 [.full (.int .u8) x.1] [] K r h) (fun hx K r h => (f95_ok k FnOk.no).1 [.nil] [] K r (by have hx : x.1 = [] := hx; rw [hx] at h; exact h)) ((f95_2_ok k FnOk.no).2 [.full (.int .u8) x.1] [])

abbrev f99_2_T (R : Type) : Type := List Int → Int → Int → Int → Int → List D1 → (Int → Int → Int → Bool → List Int → Int → Int → Int → Int → List D1 → Option R) → Option R
abbrev f99_2_X : Type := (Unit × Unit)
abbrev f99_2_Y : Type := ((List Int × Int × Int × Unit × Int × Int × Unit) × List D1 × Unit)
/-! ## 99: (*diorama/element.parser).head -/
noncomputable def f99_2_s {R : Type} (g_f63 : Nat → f63_T R) (g_f64 : Nat → f64_T R) (g_f107 : Nat → f107_T R) (g_f60 : Nat → f60_T R) (g_f87_2 : Nat → f87_2_T R) (k : Nat) (a0 : List Int) (a1 : Int) (a2 : Int) (a3 : Int) (a4 : Int) (a5 : List D1) (K : Int → Int → Int → Bool → List Int → Int → Int → Int → Int → List D1 → Option R) : Option R :=
  bif inb a1 a0.length then
    g_f63 k (a0.getD a1.toNat 0) (fun v1 =>
      bif (v1 == 0) then
        g_f87_2 k 40 a0 a1 a2 a3 a4 a5 (fun v2 v3 v4 v5 v6 v7 =>
          K 0 0 0 false v2 v3 v4 v5 v6 v7)
      else
        bif decide ((IntKind.i64.wrap (a1 + v1)) ≥ (a0.length : Int)) then
          g_f87_2 k 3 a0 a1 a2 a3 a4 a5 (fun v8 v9 v10 v11 v12 v13 =>
            K 0 0 0 false v8 v9 v10 v11 v12 v13)
        else
          g_f64 k a0 a1 v1 (fun v14 _v15 =>
            g_f107 k a0 (IntKind.i64.wrap (a1 + v1)) (fun v16 v17 v18 v19 =>
              g_f60 k v14 v1 (fun v20 =>
                bif (!v20) then
                  g_f87_2 k 40 a0 a1 a2 a3 a4 a5 (fun v21 v22 v23 v24 v25 v26 =>
                    K v14 (IntKind.i64.wrap (v1 + v17)) v16 v18 v21 v22 v23 v24 v25 v26)
                else
                  bif (v19 != 0) then
                    g_f87_2 k v19 a0 a1 a2 a3 a4 a5 (fun v27 v28 v29 v30 v31 v32 =>
                      K v14 (IntKind.i64.wrap (v1 + v17)) v16 v18 v27 v28 v29 v30 v31 v32)
                  else
                    K v14 (IntKind.i64.wrap (v1 + v17)) v16 v18 a0 a1 a2 a3 a4 a5))))
  else
    none
noncomputable def f99_2_d {R : Type} (g : f99_2_T R) (e : Dr D R) : Dr D R := door [.ptr 0 0] [.box [.list (.int .u8), .int .i64, .int .i64, .own 1, .int .i64, .int .i64], .row (.named 1) true] (fun (_x : f99_2_X) (y : f99_2_Y) K => g y.1.1 y.1.2.1 y.1.2.2.1 y.1.2.2.2.2.1 y.1.2.2.2.2.2.1 y.2.1 (fun z0 z1 z2 z3 z4 z5 z6 z7 z8 z9 => K ⟨.agg [.int .i64 z0, .int .i64 z1, .int .i64 z2, .bool z3], [some (.box [.list (.int .u8) z4, .int .i64 z5, .int .i64 z6, .own 1, .int .i64 z7, .int .i64 z8]), some (.row (.named 1) z9 true)]⟩)) e
noncomputable def f99_2_o {R : Type} (g_f63 : Nat → f63_T R) (g_f64 : Nat → f64_T R) (g_f107 : Nat → f107_T R) (g_f60 : Nat → f60_T R) (g_f87_2 : Nat → f87_2_T R) (k : Nat) : Orc D R := (orcAdd 87 (f87_2_d (g_f87_2 k) noDr) (orcAdd 60 (f60_d (g_f60 k) noDr) (orcAdd 107 (f107_d (g_f107 k) noDr) (orcAdd 64 (f64_d (g_f64 k) noDr) (orcAdd 63 (f63_d (g_f63 k) noDr) noOrc)))))
theorem f99_2_o_ok {R : Type} (k : Nat) : OrcOk Try.prog cx (f99_2_o (R := R) (f63 (R := R)) (f64 (R := R)) (f107 (R := R)) (f60 (R := R)) (f87_2 (R := R)) k) := (OrcOk.add (f87_2_ok k FnOk.no) (OrcOk.add (f60_ok k FnOk.no) (OrcOk.add (f107_ok k FnOk.no) (OrcOk.add (f64_ok k FnOk.no) (OrcOk.add (f63_ok k FnOk.no) OrcOk.no)))))
noncomputable def f99_2_b : Code := bodyOf Try.f99
noncomputable def f99_2_ann : Nat → Option LAnn := fun _key => none
noncomputable def f99_2_lrc {R : Type} (_g_f63 : Nat → f63_T R) (_g_f64 : Nat → f64_T R) (_g_f107 : Nat → f107_T R) (_g_f60 : Nat → f60_T R) (_g_f87_2 : Nat → f87_2_T R) (_k : Nat) : Lrc D R := noLrc
theorem f99_2_e {R : Type} (g_f63 : Nat → f63_T R) (g_f64 : Nat → f64_T R) (g_f107 : Nat → f107_T R) (g_f60 : Nat → f60_T R) (g_f87_2 : Nat → f87_2_T R) (k : Nat) (x : f99_2_X) (y : f99_2_Y) (K : KR R) : f99_2_s g_f63 g_f64 g_f107 g_f60 g_f87_2 k y.1.1 y.1.2.1 y.1.2.2.1 y.1.2.2.2.2.1 y.1.2.2.2.2.2.1 y.2.1 (fun z0 z1 z2 z3 z4 z5 z6 z7 z8 z9 => K ⟨.agg [.int .i64 z0, .int .i64 z1, .int .i64 z2, .bool z3], [some (.box [.list (.int .u8) z4, .int .i64 z5, .int .i64 z6, .own 1, .int .i64 z7, .int .i64 z8]), some (.row (.named 1) z9 true)]⟩) = exec cx (f99_2_o g_f63 g_f64 g_f107 g_f60 g_f87_2 k) (f99_2_lrc g_f63 g_f64 g_f107 g_f60 g_f87_2 k) f99_2_ann kp 91 2 f99_2_b (entry (gives (D := D) [.ptr 0 0] x) (giveOs (D := D) [.box [.list (.int .u8), .int .i64, .int .i64, .own 1, .int .i64, .int .i64], .row (.named 1) true] y)) (fin cx Try.f99.results.toList [] 2 K) := by kernel_rfl
noncomputable def f99_2 {R : Type} (k : Nat) (a0 : List Int) (a1 : Int) (a2 : Int) (a3 : Int) (a4 : Int) (a5 : List D1) (K : Int → Int → Int → Bool → List Int → Int → Int → Int → Int → List D1 → Option R) : Option R := f99_2_s (f63 (R := R)) (f64 (R := R)) (f107 (R := R)) (f60 (R := R)) (f87_2 (R := R)) k a0 a1 a2 a3 a4 a5 K
theorem f99_2_ok {R : Type} (k : Nat) {e : Dr D R} (he : FnOk Try.prog cx 99 e) : FnOk Try.prog cx 99 (f99_2_d (f99_2 k) e) :=
  he.door fun x y => body_ok (keep := kp) (ann := f99_2_ann) (lrc := f99_2_lrc (R := R) (f63 (R := R)) (f64 (R := R)) (f107 (R := R)) (f60 (R := R)) (f87_2 (R := R)) k) (N := 91) (n0 := 2) (c := []) cxOk mixed (f99_2_o_ok k) (body := f99_2_b) (by kernel_rfl : Try.prog.funcs[99]? = some Try.f99) (by kernel_rfl) (by kernel_rfl) (by kernel_rfl) (by kernel_rfl) (of_decide_eq_true (by kernel_rfl)) (L := []) (by kernel_rfl) trivial (J := []) (by kernel_rfl) trivial (LrcNat.no) (fun K => f99_2_e (f63 (R := R)) (f64 (R := R)) (f107 (R := R)) (f60 (R := R)) (f87_2 (R := R)) k x y K)

abbrev f108_T (R : Type) : Type := List Int → (Int → Option R) → Option R
abbrev f108_X : Type := (List Int × Unit)
abbrev f108_Y : Type := (Unit)
/-! ## 108: diorama/bits.Sum -/
abbrev f108_l7_X : Type := (Int × List Int × Int × Int × Int × Unit)
abbrev f108_l7_Y : Type := (Unit)
noncomputable def f108_l7 {R : Type} : Nat → Int → List Int → Int → Int → Int → (Int → List Int → Int → Int → Option R) → Option R
  | 0, _, _, _, _, _, _ => none
  | k + 1, v5, v6, v7, v8, v9, X0 =>
    bif decide (v9 < 8) then
      bif ((andI .u32 v5 1) == 1) then
        f108_l7 k (xorI .u32 (shrI .u32 v5 1) 3558460437) v6 v7 v8 (IntKind.i64.wrap (v9 + 1)) X0
      else
        f108_l7 k (shrI .u32 v5 1) v6 v7 v8 (IntKind.i64.wrap (v9 + 1)) X0
    else
      X0 v5 v6 v7 v8
abbrev f108_l3_X : Type := (Int × List Int × Int × Int × Unit)
abbrev f108_l3_Y : Type := (Unit)
noncomputable def f108_l3 {R : Type} : Nat → Int → List Int → Int → Int → (Int → Option R) → Option R
  | 0, _, _, _, _, _ => none
  | k + 1, v1, v2, v3, v4, X0 =>
    bif decide (v4 < v3) then
      bif inb v4 v2.length then
        f108_l7 k (xorI .u32 v1 (IntKind.u32.wrap ((v2.getD v4.toNat 0)))) v2 v3 v4 0 (fun v10 v11 v12 v13 =>
          f108_l3 k v10 v11 v12 (IntKind.i64.wrap (v13 + 1)) X0)
      else
        none
    else
      X0 v1
noncomputable def f108_s {R : Type} (k : Nat) (a0 : List Int) (K : Int → Option R) : Option R :=
  f108_l3 k 4294967295 a0 (a0.length : Int) 0 (fun v14 =>
    K (xorI .u32 4294967295 v14))
noncomputable def f108_d {R : Type} (g : f108_T R) (e : Dr D R) : Dr D R := door [.list (.int .u8)] [] (fun (x : f108_X) (_y : f108_Y) K => g x.1 (fun z0 => K ⟨.int .u32 z0, []⟩)) e
noncomputable def f108_o {R : Type} (_k : Nat) : Orc D R := noOrc
theorem f108_o_ok {R : Type} (k : Nat) : OrcOk Try.prog cx (f108_o (R := R) k) := OrcOk.no
noncomputable def f108_b : Code := bodyOf Try.f108
noncomputable def f108_l7_a : LAnn := ⟨⟨[], [3, 7, 8, 9, 17], []⟩, exOf (none) [(2, ⟨[], [3, 7, 8, 9], []⟩)]⟩
noncomputable def f108_l3_a : LAnn := ⟨⟨[], [3, 7, 8, 9], []⟩, exOf (none) [(0, ⟨[], [3], []⟩)]⟩
noncomputable def f108_ann : Nat → Option LAnn := fun key => bif Nat.beq key 3 then some f108_l3_a else bif Nat.beq key 7 then some f108_l7_a else none
noncomputable def f108_l7_b : Code := loopAt f108_b 1
noncomputable def f108_l7_g {R : Type} (k : Nat) (x : f108_l7_X) (_y : f108_l7_Y) (K : KX R) : Option R := f108_l7 k x.1 x.2.1 x.2.2.1 x.2.2.2.1 x.2.2.2.2.1 (fun z0 z1 z2 z3 => K (.exit 2) [.int .u32 z0, .list (.int .u8) z1, .int .i64 z2, .int .i64 z3] [])
noncomputable def f108_l7_d {R : Type} (k : Nat) : Lr D R := ldoor [.int .u32, .list (.int .u8), .int .i64, .int .i64, .int .i64] [] (f108_l7_g k)
noncomputable def f108_l7_lrc {R : Type} (_k : Nat) : Lrc D R := noLrc
theorem f108_l7_e {R : Type} (k : Nat) (x : f108_l7_X) (y : f108_l7_Y) (K : KX R) : f108_l7_g (k + 1) x y K = round cx (f108_o k) (f108_l7_lrc k) f108_ann kp 31 0 f108_l7_a f108_l7_b (gives (D := D) [.int .u32, .list (.int .u8), .int .i64, .int .i64, .int .i64] x) (giveGs (D := D) [] y) (fun vs os => f108_l7_d k vs os K) K := by kernel_rfl
theorem f108_l7_d_ok {R : Type} : ∀ k, LoopOk Try.prog cx 31 0 f108_ann (f108_l7_d (R := R) k) f108_l7_b :=
  loop_ok (keep := kp) (lrc := f108_l7_lrc (R := R)) cxOk mixed (f108_o_ok) (show f108_ann (Am.keyOf f108_l7_b) = some f108_l7_a by kernel_rfl) (L := []) (by kernel_rfl) (fun _k => trivial) (J := []) (by kernel_rfl) (fun _k => trivial) (fun _k => LrcNat.no) (fun _x _y _K => by kernel_rfl) (f108_l7_e)
noncomputable def f108_l3_b : Code := loopAt f108_b 0
noncomputable def f108_l3_g {R : Type} (k : Nat) (x : f108_l3_X) (_y : f108_l3_Y) (K : KX R) : Option R := f108_l3 k x.1 x.2.1 x.2.2.1 x.2.2.2.1 (fun z0 => K (.exit 0) [.int .u32 z0] [])
noncomputable def f108_l3_d {R : Type} (k : Nat) : Lr D R := ldoor [.int .u32, .list (.int .u8), .int .i64, .int .i64] [] (f108_l3_g k)
noncomputable def f108_l3_lrc {R : Type} (k : Nat) : Lrc D R := (lrcAdd 7 (f108_l7_d k) noLrc)
theorem f108_l3_e {R : Type} (k : Nat) (x : f108_l3_X) (y : f108_l3_Y) (K : KX R) : f108_l3_g (k + 1) x y K = round cx (f108_o k) (f108_l3_lrc k) f108_ann kp 31 0 f108_l3_a f108_l3_b (gives (D := D) [.int .u32, .list (.int .u8), .int .i64, .int .i64] x) (giveGs (D := D) [] y) (fun vs os => f108_l3_d k vs os K) K := by kernel_rfl
theorem f108_l3_d_ok {R : Type} : ∀ k, LoopOk Try.prog cx 31 0 f108_ann (f108_l3_d (R := R) k) f108_l3_b :=
  loop_ok (keep := kp) (lrc := f108_l3_lrc (R := R)) cxOk mixed (f108_o_ok) (show f108_ann (Am.keyOf f108_l3_b) = some f108_l3_a by kernel_rfl) (L := [f108_l7_b]) (by kernel_rfl) (fun k => ⟨(f108_l7_d_ok k).use (by kernel_rfl), trivial⟩) (J := []) (by kernel_rfl) (fun _k => trivial) (fun k => (LrcNat.add (f108_l7_d_ok k).2 LrcNat.no)) (fun _x _y _K => by kernel_rfl) (f108_l3_e)
noncomputable def f108_lrc {R : Type} (k : Nat) : Lrc D R := (lrcAdd 7 (f108_l7_d k) (lrcAdd 3 (f108_l3_d k) noLrc))
theorem f108_e {R : Type} (k : Nat) (x : f108_X) (y : f108_Y) (K : KR R) : f108_s k x.1 (fun z0 => K ⟨.int .u32 z0, []⟩) = exec cx (f108_o k) (f108_lrc k) f108_ann kp 31 0 f108_b (entry (gives (D := D) [.list (.int .u8)] x) (giveOs (D := D) [] y)) (fin cx Try.f108.results.toList [] 0 K) := by kernel_rfl
noncomputable def f108 {R : Type} (k : Nat) (a0 : List Int) (K : Int → Option R) : Option R := f108_s k a0 K
theorem f108_ok {R : Type} (k : Nat) {e : Dr D R} (he : FnOk Try.prog cx 108 e) : FnOk Try.prog cx 108 (f108_d (f108 k) e) :=
  he.door fun x y => body_ok (keep := kp) (ann := f108_ann) (lrc := f108_lrc (R := R) k) (N := 31) (n0 := 0) (c := []) cxOk mixed (f108_o_ok k) (body := f108_b) (by kernel_rfl : Try.prog.funcs[108]? = some Try.f108) (by kernel_rfl) (by kernel_rfl) (by kernel_rfl) (by kernel_rfl) (of_decide_eq_true (by kernel_rfl)) (L := [f108_l3_b, f108_l7_b]) (by kernel_rfl) (⟨(f108_l3_d_ok k).use (by kernel_rfl), (f108_l7_d_ok k).use (by kernel_rfl), trivial⟩) (J := []) (by kernel_rfl) trivial ((LrcNat.add (f108_l7_d_ok k).2 (LrcNat.add (f108_l3_d_ok k).2 LrcNat.no))) (fun K => f108_e k x y K)

abbrev f100_T (R : Type) : Type := Int → Int → Int → Bool → Int → Int → Bool → Bool → Int → List Int → Int → Int → Int → Int → List D1 → (List Int → Int → Int → Int → Int → List D1 → Option R) → Option R
abbrev f100_X : Type := (Unit × (Int × Int × Int × Bool × Unit) × (Int × Int × Bool × Bool × Int × Unit) × Unit)
abbrev f100_Y : Type := ((List Int × Int × Int × Unit × Int × Int × Unit) × List D1 × Unit)
/-! ## 100: (*diorama/element.parser).sum -/
noncomputable def f100_s {R : Type} (g_f64 : Nat → f64_T R) (g_f87_2 : Nat → f87_2_T R) (g_f108 : Nat → f108_T R) (k : Nat) (_a0 : Int) (a1 : Int) (a2 : Int) (_a3 : Bool) (_a4 : Int) (a5 : Int) (_a6 : Bool) (a7 : Bool) (_a8 : Int) (a9 : List Int) (a10 : Int) (a11 : Int) (a12 : Int) (a13 : Int) (a14 : List D1) (K : List Int → Int → Int → Int → Int → List D1 → Option R) : Option R :=
  bif (a2 != 4) then
    g_f87_2 k 4 a9 a10 a11 a12 a13 a14 (fun v1 v2 v3 v4 v5 v6 =>
      K v1 v2 v3 v4 v5 v6)
  else
    bif a7 then
      g_f87_2 k 4 a9 a10 a11 a12 a13 a14 (fun v7 v8 v9 v10 v11 v12 =>
        K v7 v8 v9 v10 v11 v12)
    else
      g_f64 k a9 (IntKind.i64.wrap (a10 + a1)) 4 (fun v13 _v14 =>
        bif upto a5 a9.length then
          bif (decide (0 ≤ (IntKind.i64.wrap ((IntKind.i64.wrap (a10 + a1)) + 4)))) && (decide ((IntKind.i64.wrap ((IntKind.i64.wrap (a10 + a1)) + 4)) ≤ a5)) then
            g_f108 k ((a9.take a5.toNat).drop ((IntKind.i64.wrap ((IntKind.i64.wrap (a10 + a1)) + 4)).toNat)) (fun v15 =>
              bif (v13 != (IntKind.i64.wrap (v15))) then
                g_f87_2 k 6 a9 a10 a11 a12 a13 a14 (fun v16 v17 v18 v19 v20 v21 =>
                  K v16 v17 v18 v19 v20 v21)
              else
                K a9 a10 a11 a12 a13 a14)
          else
            none
        else
          none)
noncomputable def f100_d {R : Type} (g : f100_T R) (e : Dr D R) : Dr D R := door [.ptr 0 0, .agg [.int .i64, .int .i64, .int .i64, .bool], .agg [.int .i64, .int .i64, .bool, .bool, .int .i64]] [.box [.list (.int .u8), .int .i64, .int .i64, .own 1, .int .i64, .int .i64], .row (.named 1) true] (fun (x : f100_X) (y : f100_Y) K => g x.2.1.1 x.2.1.2.1 x.2.1.2.2.1 x.2.1.2.2.2.1 x.2.2.1.1 x.2.2.1.2.1 x.2.2.1.2.2.1 x.2.2.1.2.2.2.1 x.2.2.1.2.2.2.2.1 y.1.1 y.1.2.1 y.1.2.2.1 y.1.2.2.2.2.1 y.1.2.2.2.2.2.1 y.2.1 (fun z0 z1 z2 z3 z4 z5 => K ⟨.tup [], [some (.box [.list (.int .u8) z0, .int .i64 z1, .int .i64 z2, .own 1, .int .i64 z3, .int .i64 z4]), some (.row (.named 1) z5 true)]⟩)) e
noncomputable def f100_o {R : Type} (g_f64 : Nat → f64_T R) (g_f87_2 : Nat → f87_2_T R) (g_f108 : Nat → f108_T R) (k : Nat) : Orc D R := (orcAdd 108 (f108_d (g_f108 k) noDr) (orcAdd 87 (f87_2_d (g_f87_2 k) noDr) (orcAdd 64 (f64_d (g_f64 k) noDr) noOrc)))
theorem f100_o_ok {R : Type} (k : Nat) : OrcOk Try.prog cx (f100_o (R := R) (f64 (R := R)) (f87_2 (R := R)) (f108 (R := R)) k) := (OrcOk.add (f108_ok k FnOk.no) (OrcOk.add (f87_2_ok k FnOk.no) (OrcOk.add (f64_ok k FnOk.no) OrcOk.no)))
noncomputable def f100_b : Code := bodyOf Try.f100
noncomputable def f100_ann : Nat → Option LAnn := fun _key => none
noncomputable def f100_lrc {R : Type} (_g_f64 : Nat → f64_T R) (_g_f87_2 : Nat → f87_2_T R) (_g_f108 : Nat → f108_T R) (_k : Nat) : Lrc D R := noLrc
theorem f100_e {R : Type} (g_f64 : Nat → f64_T R) (g_f87_2 : Nat → f87_2_T R) (g_f108 : Nat → f108_T R) (k : Nat) (x : f100_X) (y : f100_Y) (K : KR R) : f100_s g_f64 g_f87_2 g_f108 k x.2.1.1 x.2.1.2.1 x.2.1.2.2.1 x.2.1.2.2.2.1 x.2.2.1.1 x.2.2.1.2.1 x.2.2.1.2.2.1 x.2.2.1.2.2.2.1 x.2.2.1.2.2.2.2.1 y.1.1 y.1.2.1 y.1.2.2.1 y.1.2.2.2.2.1 y.1.2.2.2.2.2.1 y.2.1 (fun z0 z1 z2 z3 z4 z5 => K ⟨.tup [], [some (.box [.list (.int .u8) z0, .int .i64 z1, .int .i64 z2, .own 1, .int .i64 z3, .int .i64 z4]), some (.row (.named 1) z5 true)]⟩) = exec cx (f100_o g_f64 g_f87_2 g_f108 k) (f100_lrc g_f64 g_f87_2 g_f108 k) f100_ann kp 49 2 f100_b (entry (gives (D := D) [.ptr 0 0, .agg [.int .i64, .int .i64, .int .i64, .bool], .agg [.int .i64, .int .i64, .bool, .bool, .int .i64]] x) (giveOs (D := D) [.box [.list (.int .u8), .int .i64, .int .i64, .own 1, .int .i64, .int .i64], .row (.named 1) true] y)) (fin cx Try.f100.results.toList [] 2 K) := by kernel_rfl
noncomputable def f100 {R : Type} (k : Nat) (a0 : Int) (a1 : Int) (a2 : Int) (a3 : Bool) (a4 : Int) (a5 : Int) (a6 : Bool) (a7 : Bool) (a8 : Int) (a9 : List Int) (a10 : Int) (a11 : Int) (a12 : Int) (a13 : Int) (a14 : List D1) (K : List Int → Int → Int → Int → Int → List D1 → Option R) : Option R := f100_s (f64 (R := R)) (f87_2 (R := R)) (f108 (R := R)) k a0 a1 a2 a3 a4 a5 a6 a7 a8 a9 a10 a11 a12 a13 a14 K
theorem f100_ok {R : Type} (k : Nat) {e : Dr D R} (he : FnOk Try.prog cx 100 e) : FnOk Try.prog cx 100 (f100_d (f100 k) e) :=
  he.door fun x y => body_ok (keep := kp) (ann := f100_ann) (lrc := f100_lrc (R := R) (f64 (R := R)) (f87_2 (R := R)) (f108 (R := R)) k) (N := 49) (n0 := 2) (c := []) cxOk mixed (f100_o_ok k) (body := f100_b) (by kernel_rfl : Try.prog.funcs[100]? = some Try.f100) (by kernel_rfl) (by kernel_rfl) (by kernel_rfl) (by kernel_rfl) (of_decide_eq_true (by kernel_rfl)) (L := []) (by kernel_rfl) trivial (J := []) (by kernel_rfl) trivial (LrcNat.no) (fun K => f100_e (f64 (R := R)) (f87_2 (R := R)) (f108 (R := R)) k x y K)

abbrev f68_T (R : Type) : Type := Int → ByteArray → Int → Bool → Bool → Int → (Bool → Option R) → Option R
abbrev f68_X : Type := ((Int × ByteArray × Int × Bool × Bool × Unit) × Int × Unit)
abbrev f68_Y : Type := (Unit)
/-! ## 68: diorama/element.within -/
noncomputable def f68_s {R : Type} (_k : Nat) (a0 : Int) (_a1 : ByteArray) (a2 : Int) (_a3 : Bool) (_a4 : Bool) (a5 : Int) (K : Bool → Option R) : Option R :=
  bif (a2 == a5) then
    K true
  else
    bif (a0 == 227) then
      K (a5 == 227)
    else
      K false
noncomputable def f68_d {R : Type} (g : f68_T R) (e : Dr D R) : Dr D R := door [.agg [.int .i64, .str, .int .i64, .bool, .bool], .int .i64] [] (fun (x : f68_X) (_y : f68_Y) K => g x.1.1 x.1.2.1 x.1.2.2.1 x.1.2.2.2.1 x.1.2.2.2.2.1 x.2.1 (fun z0 => K ⟨.bool z0, []⟩)) e
noncomputable def f68_o {R : Type} (_k : Nat) : Orc D R := noOrc
theorem f68_o_ok {R : Type} (k : Nat) : OrcOk Try.prog cx (f68_o (R := R) k) := OrcOk.no
noncomputable def f68_b : Code := bodyOf Try.f68
noncomputable def f68_ann : Nat → Option LAnn := fun _key => none
noncomputable def f68_lrc {R : Type} (_k : Nat) : Lrc D R := noLrc
theorem f68_e {R : Type} (k : Nat) (x : f68_X) (y : f68_Y) (K : KR R) : f68_s k x.1.1 x.1.2.1 x.1.2.2.1 x.1.2.2.2.1 x.1.2.2.2.2.1 x.2.1 (fun z0 => K ⟨.bool z0, []⟩) = exec cx (f68_o k) (f68_lrc k) f68_ann kp 18 0 f68_b (entry (gives (D := D) [.agg [.int .i64, .str, .int .i64, .bool, .bool], .int .i64] x) (giveOs (D := D) [] y)) (fin cx Try.f68.results.toList [] 0 K) := by kernel_rfl
noncomputable def f68 {R : Type} (k : Nat) (a0 : Int) (a1 : ByteArray) (a2 : Int) (a3 : Bool) (a4 : Bool) (a5 : Int) (K : Bool → Option R) : Option R := f68_s k a0 a1 a2 a3 a4 a5 K
theorem f68_ok {R : Type} (k : Nat) {e : Dr D R} (he : FnOk Try.prog cx 68 e) : FnOk Try.prog cx 68 (f68_d (f68 k) e) :=
  he.door fun x y => body_ok (keep := kp) (ann := f68_ann) (lrc := f68_lrc (R := R) k) (N := 18) (n0 := 0) (c := []) cxOk mixed (f68_o_ok k) (body := f68_b) (by kernel_rfl : Try.prog.funcs[68]? = some Try.f68) (by kernel_rfl) (by kernel_rfl) (by kernel_rfl) (by kernel_rfl) (of_decide_eq_true (by kernel_rfl)) (L := []) (by kernel_rfl) trivial (J := []) (by kernel_rfl) trivial (LrcNat.no) (fun K => f68_e k x y K)


end Go.Proofs.Ytklhjegfkpmdoaa

/-! What the functions do, as plain functions; and that they do. -/
namespace Go.Proofs.Ytklhjegfkpmdoaa
open Go Go.Am
abbrev f101_3_T (R : Type) : Type := Int → Int → Int → Bool → Int → ByteArray → Int → Bool → Bool → Bool → Int → Int → Bool → Bool → Int → List Int → Int → Int → Int → Int → List D1 → (Int → Bool → Bool → List Int → Int → Int → Int → Int → List Int → List D2 → List D1 → Option R) → Option R
abbrev f101_3_X : Type := (Unit × (Int × Int × Int × Bool × Unit) × (Int × ByteArray × Int × Bool × Bool × Unit) × Bool × (Int × Int × Bool × Bool × Int × Unit) × Unit)
abbrev f101_3_Y : Type := ((List Int × Int × Int × Unit × Int × Int × Unit) × List D1 × Unit)
abbrev f88_2_T (R : Type) : Type := Int → Int → Bool → Bool → Int → List Int → Int → Int → Int → Int → List D1 → (List Int → Int → Int → Int → Int → List D2 → List D1 → Option R) → Option R
abbrev f88_2_X : Type := (Unit × (Int × Int × Bool × Bool × Int × Unit) × Unit)
abbrev f88_2_Y : Type := ((List Int × Int × Int × Unit × Int × Int × Unit) × List D1 × Unit)
/-! ## 101: (*diorama/element.parser).element -/
noncomputable def f101_3_s {R : Type} (g_f87_2 : Nat → f87_2_T R) (g_f95_2 : Nat → f95_2_T R) (g_f88_2 : Nat → f88_2_T R) (k : Nat) (a0 : Int) (a1 : Int) (a2 : Int) (a3 : Bool) (_a4 : Int) (_a5 : ByteArray) (_a6 : Int) (a7 : Bool) (_a8 : Bool) (a9 : Bool) (_a10 : Int) (a11 : Int) (a12 : Bool) (_a13 : Bool) (a14 : Int) (a15 : List Int) (a16 : Int) (a17 : Int) (a18 : Int) (a19 : Int) (a20 : List D1) (K : Int → Bool → Bool → List Int → Int → Int → Int → Int → List Int → List D2 → List D1 → Option R) : Option R :=
  bif room 48 (a20.length + ([(a0, a16, a1, a2, a14, a3)]).length) then
    bif a9 then
      K 0 false false a15 (IntKind.i64.wrap (a16 + (IntKind.i64.wrap (a1 + a2)))) a17 a18 a19 ([] : List Int) ([] : List D2) (a20 ++ ([(a0, a16, a1, a2, a14, a3)]))
    else
      bif decide ((IntKind.i64.wrap (a17 + 1)) > 4000) then
        g_f87_2 k 2 a15 a16 (IntKind.i64.wrap (a17 + 1)) a18 a19 (a20 ++ ([(a0, a16, a1, a2, a14, a3)])) (fun v1 v2 v3 v4 v5 v6 =>
          K 0 false false v1 v2 v3 v4 v5 ([] : List Int) ([] : List D2) v6)
      else
        bif (!a7) then
          bif upto (IntKind.i64.wrap ((IntKind.i64.wrap (a16 + a1)) + a2)) a15.length then
            bif (decide (0 ≤ (IntKind.i64.wrap (a16 + a1)))) && (decide ((IntKind.i64.wrap (a16 + a1)) ≤ (IntKind.i64.wrap ((IntKind.i64.wrap (a16 + a1)) + a2)))) then
              g_f95_2 k ((a15.take ((IntKind.i64.wrap ((IntKind.i64.wrap (a16 + a1)) + a2)).toNat)).drop ((IntKind.i64.wrap (a16 + a1)).toNat)) (fun v7 =>
                K a0 a7 true a15 (IntKind.i64.wrap ((IntKind.i64.wrap (a16 + a1)) + a2)) (IntKind.i64.wrap (a17 + 1)) a18 a19 v7 ([] : List D2) (a20 ++ ([(a0, a16, a1, a2, a14, a3)])))
            else
              none
          else
            none
        else
          bif a3 then
            g_f88_2 k a0 a11 a12 true (IntKind.i64.wrap (a14 + 1)) a15 (IntKind.i64.wrap (a16 + a1)) (IntKind.i64.wrap (a17 + 1)) a18 a19 (a20 ++ ([(a0, a16, a1, a2, a14, a3)])) (fun v8 v9 v10 v11 v12 v13 v14 =>
              bif inb (a20.length : Int) v14.length then
                K a0 a7 true v8 v9 v10 v11 v12 ([] : List Int) v13 (v14.set ((a20.length : Int).toNat) ((v14.getD ((a20.length : Int).toNat) zero1).1, (v14.getD ((a20.length : Int).toNat) zero1).2.1, (v14.getD ((a20.length : Int).toNat) zero1).2.2.1, (IntKind.i64.wrap (v9 - (IntKind.i64.wrap (a16 + a1)))), (v14.getD ((a20.length : Int).toNat) zero1).2.2.2.2.1, (v14.getD ((a20.length : Int).toNat) zero1).2.2.2.2.2))
              else
                none)
          else
            g_f88_2 k a0 (IntKind.i64.wrap ((IntKind.i64.wrap (a16 + a1)) + a2)) true false (IntKind.i64.wrap (a14 + 1)) a15 (IntKind.i64.wrap (a16 + a1)) (IntKind.i64.wrap (a17 + 1)) a18 a19 (a20 ++ ([(a0, a16, a1, a2, a14, a3)])) (fun v15 v16 v17 v18 v19 v20 v21 =>
              bif inb (a20.length : Int) v21.length then
                K a0 a7 true v15 v16 v17 v18 v19 ([] : List Int) v20 (v21.set ((a20.length : Int).toNat) ((v21.getD ((a20.length : Int).toNat) zero1).1, (v21.getD ((a20.length : Int).toNat) zero1).2.1, (v21.getD ((a20.length : Int).toNat) zero1).2.2.1, (IntKind.i64.wrap (v16 - (IntKind.i64.wrap (a16 + a1)))), (v21.getD ((a20.length : Int).toNat) zero1).2.2.2.2.1, (v21.getD ((a20.length : Int).toNat) zero1).2.2.2.2.2))
              else
                none)
  else
    none
noncomputable def f101_3_d {R : Type} (g : f101_3_T R) (e : Dr D R) : Dr D R := door [.ptr 0 0, .agg [.int .i64, .int .i64, .int .i64, .bool], .agg [.int .i64, .str, .int .i64, .bool, .bool], .bool, .agg [.int .i64, .int .i64, .bool, .bool, .int .i64]] [.box [.list (.int .u8), .int .i64, .int .i64, .own 1, .int .i64, .int .i64], .row (.named 1) true] (fun (x : f101_3_X) (y : f101_3_Y) K => g x.2.1.1 x.2.1.2.1 x.2.1.2.2.1 x.2.1.2.2.2.1 x.2.2.1.1 x.2.2.1.2.1 x.2.2.1.2.2.1 x.2.2.1.2.2.2.1 x.2.2.1.2.2.2.2.1 x.2.2.2.1 x.2.2.2.2.1.1 x.2.2.2.2.1.2.1 x.2.2.2.2.1.2.2.1 x.2.2.2.2.1.2.2.2.1 x.2.2.2.2.1.2.2.2.2.1 y.1.1 y.1.2.1 y.1.2.2.1 y.1.2.2.2.2.1 y.1.2.2.2.2.2.1 y.2.1 (fun z0 z1 z2 z3 z4 z5 z6 z7 z8 z9 z10 => K ⟨.tup [.agg [.int .i64 z0, .own 2, .own 3, .bool z1], .bool z2], [some (.box [.list (.int .u8) z3, .int .i64 z4, .int .i64 z5, .own 4, .int .i64 z6, .int .i64 z7]), none, some (.row (.int .u8) z8 true), some (.row (.named 2) z9 true), some (.row (.named 1) z10 true)]⟩)) e
/-! ## 88: (*diorama/element.parser).level -/
abbrev f88_2_j12_T (R : Type) : Type := Bool → Bool → Int → Bool → List Int → Int → Int → Int → Int → List D1 → Int → Int → Bool → Bool → Int → List D2 → Int → Int → Int → Bool → Int → ByteArray → Int → Bool → Bool → (Bool → Bool → Int → Bool → List Int → Int → Int → Int → Int → List D1 → Int → Int → Bool → Bool → Int → List D2 → Int → Int → Int → Bool → Int → ByteArray → Int → Bool → Bool → Option R) → Option R
abbrev f88_2_j12_X : Type := (Unit × Unit × Unit × Bool × Unit × Unit × Bool × Int × Bool × Unit)
abbrev f88_2_j12_Y : Type := ((List Int × Int × Int × Unit × Int × Int × Unit) × List D1 × (Int × Int × Bool × Bool × Int × Unit) × List D2 × (Int × Int × Int × Bool × Unit) × (Int × ByteArray × Int × Bool × Bool × Unit) × Unit)
noncomputable def f88_2_j12 {R : Type} (_g_f25 : Nat → f25_T R) (_g_f56_2 : Nat → f56_2_T R) (_g_f87_2 : Nat → f87_2_T R) (_g_f99_2 : Nat → f99_2_T R) (_g_f100 : Nat → f100_T R) (_g_f68 : Nat → f68_T R) (_g_f101_3 : Nat → f101_3_T R) (_k : Nat) (v104 : Bool) (v105 : Bool) (v106 : Int) (v107 : Bool) (v108 : List Int) (v109 : Int) (v110 : Int) (v111 : Int) (v112 : Int) (v113 : List D1) (v114 : Int) (v115 : Int) (v116 : Bool) (v117 : Bool) (v118 : Int) (v119 : List D2) (v120 : Int) (v121 : Int) (v122 : Int) (v123 : Bool) (v124 : Int) (v125 : ByteArray) (v126 : Int) (v127 : Bool) (v128 : Bool) (X0 : Bool → Bool → Int → Bool → List Int → Int → Int → Int → Int → List D1 → Int → Int → Bool → Bool → Int → List D2 → Int → Int → Int → Bool → Int → ByteArray → Int → Bool → Bool → Option R) : Option R :=
  bif v107 then
    X0 v104 v105 v106 v107 v108 v109 v110 v111 v112 v113 v114 v115 v116 v117 v118 v119 v120 v121 v122 v123 v124 v125 v126 v127 v128
  else
    bif v116 then
      bif decide (v106 > v115) then
        X0 v104 v105 v106 true v108 v109 v110 v111 v112 v113 v114 v115 v116 v117 v118 v119 v120 v121 v122 v123 v124 v125 v126 v127 v128
      else
        X0 v104 v105 v106 (decide (v122 > v115)) v108 v109 v110 v111 v112 v113 v114 v115 v116 v117 v118 v119 v120 v121 v122 v123 v124 v125 v126 v127 v128
    else
      X0 v104 v105 v106 false v108 v109 v110 v111 v112 v113 v114 v115 v116 v117 v118 v119 v120 v121 v122 v123 v124 v125 v126 v127 v128
abbrev f88_2_j17_T (R : Type) : Type := Bool → Bool → Bool → List Int → Int → Int → Int → Int → List D1 → Int → Int → Bool → Bool → Int → List D2 → Int → Int → Int → Bool → Int → ByteArray → Int → Bool → Bool → (Bool → Bool → List Int → Int → Int → Int → Int → List D1 → Int → Int → Bool → Bool → Int → List D2 → Int → Int → Int → Bool → Int → ByteArray → Int → Bool → Bool → Option R) → Option R
abbrev f88_2_j17_X : Type := (Unit × Unit × Unit × Bool × Unit × Unit × Bool × Bool × Unit)
abbrev f88_2_j17_Y : Type := ((List Int × Int × Int × Unit × Int × Int × Unit) × List D1 × (Int × Int × Bool × Bool × Int × Unit) × List D2 × (Int × Int × Int × Bool × Unit) × (Int × ByteArray × Int × Bool × Bool × Unit) × Unit)
noncomputable def f88_2_j17 {R : Type} (_g_f25 : Nat → f25_T R) (_g_f56_2 : Nat → f56_2_T R) (_g_f87_2 : Nat → f87_2_T R) (_g_f99_2 : Nat → f99_2_T R) (_g_f100 : Nat → f100_T R) (_g_f68 : Nat → f68_T R) (_g_f101_3 : Nat → f101_3_T R) (_g_f88_2_j12 : Nat → f88_2_j12_T R) (_k : Nat) (v216 : Bool) (v217 : Bool) (v218 : Bool) (v219 : List Int) (v220 : Int) (v221 : Int) (v222 : Int) (v223 : Int) (v224 : List D1) (v225 : Int) (v226 : Int) (v227 : Bool) (v228 : Bool) (v229 : Int) (v230 : List D2) (v231 : Int) (v232 : Int) (v233 : Int) (v234 : Bool) (v235 : Int) (v236 : ByteArray) (v237 : Int) (v238 : Bool) (v239 : Bool) (X0 : Bool → Bool → List Int → Int → Int → Int → Int → List D1 → Int → Int → Bool → Bool → Int → List D2 → Int → Int → Int → Bool → Int → ByteArray → Int → Bool → Bool → Option R) : Option R :=
  bif v218 then
    X0 v217 v218 v219 v220 v221 v222 v223 v224 v225 v226 v227 v228 v229 v230 v231 v232 v233 v234 v235 v236 v237 v238 v239
  else
    bif (v235 == 237) then
      bif (v225 == 0) then
        X0 v217 true v219 v220 v221 v222 v223 v224 v225 v226 v227 v228 v229 v230 v231 v232 v233 v234 v235 v236 v237 v238 v239
      else
        X0 v217 (!v216) v219 v220 v221 v222 v223 v224 v225 v226 v227 v228 v229 v230 v231 v232 v233 v234 v235 v236 v237 v238 v239
    else
      X0 v217 false v219 v220 v221 v222 v223 v224 v225 v226 v227 v228 v229 v230 v231 v232 v233 v234 v235 v236 v237 v238 v239
abbrev f88_2_j18_T (R : Type) : Type := Bool → Bool → List Int → Int → Int → Int → Int → List D1 → Int → Int → Bool → Bool → Int → List D2 → Int → Int → Int → Bool → Int → ByteArray → Int → Bool → Bool → (Bool → List Int → Int → Int → Int → Int → List D1 → Int → Int → Bool → Bool → Int → List D2 → Int → Int → Int → Bool → Int → ByteArray → Int → Bool → Bool → Option R) → Option R
abbrev f88_2_j18_X : Type := (Unit × Unit × Unit × Unit × Unit × Bool × Bool × Unit)
abbrev f88_2_j18_Y : Type := ((List Int × Int × Int × Unit × Int × Int × Unit) × List D1 × (Int × Int × Bool × Bool × Int × Unit) × List D2 × (Int × Int × Int × Bool × Unit) × (Int × ByteArray × Int × Bool × Bool × Unit) × Unit)
noncomputable def f88_2_j18 {R : Type} (_g_f25 : Nat → f25_T R) (_g_f56_2 : Nat → f56_2_T R) (g_f87_2 : Nat → f87_2_T R) (_g_f99_2 : Nat → f99_2_T R) (g_f100 : Nat → f100_T R) (_g_f68 : Nat → f68_T R) (_g_f101_3 : Nat → f101_3_T R) (_g_f88_2_j12 : Nat → f88_2_j12_T R) (_g_f88_2_j17 : Nat → f88_2_j17_T R) (k : Nat) (v263 : Bool) (v264 : Bool) (v265 : List Int) (v266 : Int) (v267 : Int) (v268 : Int) (v269 : Int) (v270 : List D1) (v271 : Int) (v272 : Int) (v273 : Bool) (v274 : Bool) (v275 : Int) (v276 : List D2) (v277 : Int) (v278 : Int) (v279 : Int) (v280 : Bool) (v281 : Int) (v282 : ByteArray) (v283 : Int) (v284 : Bool) (v285 : Bool) (X0 : Bool → List Int → Int → Int → Int → Int → List D1 → Int → Int → Bool → Bool → Int → List D2 → Int → Int → Int → Bool → Int → ByteArray → Int → Bool → Bool → Option R) : Option R :=
  bif v264 then
    g_f87_2 k 42 v265 v266 v267 v268 v269 v270 (fun v286 v287 v288 v289 v290 v291 =>
      X0 v263 v286 v287 v288 v289 v290 v291 v271 v272 v273 v274 v275 v276 v277 v278 v279 v280 v281 v282 v283 v284 v285)
  else
    bif decide (v275 > 8) then
      g_f87_2 k 43 v265 v266 v267 v268 v269 v270 (fun v292 v293 v294 v295 v296 v297 =>
        X0 v263 v292 v293 v294 v295 v296 v297 v271 v272 v273 v274 v275 v276 v277 v278 v279 v280 v281 v282 v283 v284 v285)
    else
      bif (v281 == 237) then
        g_f100 k v277 v278 v279 v280 v271 v272 v273 v274 v275 v265 v266 v267 v268 v269 v270 (fun v298 v299 v300 v301 v302 v303 =>
          X0 v263 v298 v299 v300 v301 v302 v303 v271 v272 v273 v274 v275 v276 v277 v278 v279 v280 v281 v282 v283 v284 v285)
      else
        X0 v263 v265 v266 v267 v268 v269 v270 v271 v272 v273 v274 v275 v276 v277 v278 v279 v280 v281 v282 v283 v284 v285
abbrev f88_2_j15_T (R : Type) : Type := Bool → Bool → Bool → List Int → Int → Int → Int → Int → List D1 → Int → Int → Bool → Bool → Int → List D2 → Int → Int → Int → Bool → Int → ByteArray → Int → Bool → Bool → (Bool → List Int → Int → Int → Int → Int → List D1 → Int → Int → Bool → Bool → Int → List D2 → Int → Int → Int → Bool → Int → ByteArray → Int → Bool → Bool → Option R) → Option R
abbrev f88_2_j15_X : Type := (Unit × Unit × Unit × Bool × Unit × Unit × Bool × Bool × Unit)
abbrev f88_2_j15_Y : Type := ((List Int × Int × Int × Unit × Int × Int × Unit) × List D1 × (Int × Int × Bool × Bool × Int × Unit) × List D2 × (Int × Int × Int × Bool × Unit) × (Int × ByteArray × Int × Bool × Bool × Unit) × Unit)
noncomputable def f88_2_j15 {R : Type} (_g_f25 : Nat → f25_T R) (_g_f56_2 : Nat → f56_2_T R) (g_f87_2 : Nat → f87_2_T R) (_g_f99_2 : Nat → f99_2_T R) (_g_f100 : Nat → f100_T R) (g_f68 : Nat → f68_T R) (_g_f101_3 : Nat → f101_3_T R) (_g_f88_2_j12 : Nat → f88_2_j12_T R) (g_f88_2_j17 : Nat → f88_2_j17_T R) (g_f88_2_j18 : Nat → f88_2_j18_T R) (k : Nat) (v185 : Bool) (v186 : Bool) (v187 : Bool) (v188 : List Int) (v189 : Int) (v190 : Int) (v191 : Int) (v192 : Int) (v193 : List D1) (v194 : Int) (v195 : Int) (v196 : Bool) (v197 : Bool) (v198 : Int) (v199 : List D2) (v200 : Int) (v201 : Int) (v202 : Int) (v203 : Bool) (v204 : Int) (v205 : ByteArray) (v206 : Int) (v207 : Bool) (v208 : Bool) (X0 : Bool → List Int → Int → Int → Int → Int → List D1 → Int → Int → Bool → Bool → Int → List D2 → Int → Int → Int → Bool → Int → ByteArray → Int → Bool → Bool → Option R) : Option R :=
  bif v187 then
    g_f87_2 k 3 v188 v189 v190 v191 v192 v193 (fun v209 v210 v211 v212 v213 v214 =>
      X0 v186 v209 v210 v211 v212 v213 v214 v194 v195 v196 v197 v198 v199 v200 v201 v202 v203 v204 v205 v206 v207 v208)
  else
    bif (!v186) then
      g_f68 k v204 v205 v206 v207 v208 v194 (fun v215 =>
        g_f88_2_j17 k v185 v186 (!v215) v188 v189 v190 v191 v192 v193 v194 v195 v196 v197 v198 v199 v200 v201 v202 v203 v204 v205 v206 v207 v208 (fun v240 v241 v242 v243 v244 v245 v246 v247 v248 v249 v250 v251 v252 v253 v254 v255 v256 v257 v258 v259 v260 v261 v262 =>
          g_f88_2_j18 k v240 v241 v242 v243 v244 v245 v246 v247 v248 v249 v250 v251 v252 v253 v254 v255 v256 v257 v258 v259 v260 v261 v262 (fun v304 v305 v306 v307 v308 v309 v310 v311 v312 v313 v314 v315 v316 v317 v318 v319 v320 v321 v322 v323 v324 v325 =>
            X0 v304 v305 v306 v307 v308 v309 v310 v311 v312 v313 v314 v315 v316 v317 v318 v319 v320 v321 v322 v323 v324 v325)))
    else
      g_f88_2_j17 k v185 v186 false v188 v189 v190 v191 v192 v193 v194 v195 v196 v197 v198 v199 v200 v201 v202 v203 v204 v205 v206 v207 v208 (fun v326 v327 v328 v329 v330 v331 v332 v333 v334 v335 v336 v337 v338 v339 v340 v341 v342 v343 v344 v345 v346 v347 v348 =>
        g_f88_2_j18 k v326 v327 v328 v329 v330 v331 v332 v333 v334 v335 v336 v337 v338 v339 v340 v341 v342 v343 v344 v345 v346 v347 v348 (fun v349 v350 v351 v352 v353 v354 v355 v356 v357 v358 v359 v360 v361 v362 v363 v364 v365 v366 v367 v368 v369 v370 =>
          X0 v349 v350 v351 v352 v353 v354 v355 v356 v357 v358 v359 v360 v361 v362 v363 v364 v365 v366 v367 v368 v369 v370))
abbrev f88_2_j13_T (R : Type) : Type := Bool → Bool → Int → Bool → List Int → Int → Int → Int → Int → List D1 → Int → Int → Bool → Bool → Int → List D2 → Int → Int → Int → Bool → Int → ByteArray → Int → Bool → Bool → (Bool → List Int → Int → Int → Int → Int → List D1 → Int → Int → Bool → Bool → Int → List D2 → Int → Int → Int → Bool → Int → ByteArray → Int → Bool → Bool → Option R) → Option R
abbrev f88_2_j13_X : Type := (Unit × Unit × Unit × Bool × Unit × Unit × Bool × Int × Bool × Unit)
abbrev f88_2_j13_Y : Type := ((List Int × Int × Int × Unit × Int × Int × Unit) × List D1 × (Int × Int × Bool × Bool × Int × Unit) × List D2 × (Int × Int × Int × Bool × Unit) × (Int × ByteArray × Int × Bool × Bool × Unit) × Unit)
noncomputable def f88_2_j13 {R : Type} (_g_f25 : Nat → f25_T R) (_g_f56_2 : Nat → f56_2_T R) (g_f87_2 : Nat → f87_2_T R) (_g_f99_2 : Nat → f99_2_T R) (_g_f100 : Nat → f100_T R) (_g_f68 : Nat → f68_T R) (_g_f101_3 : Nat → f101_3_T R) (_g_f88_2_j12 : Nat → f88_2_j12_T R) (_g_f88_2_j17 : Nat → f88_2_j17_T R) (_g_f88_2_j18 : Nat → f88_2_j18_T R) (g_f88_2_j15 : Nat → f88_2_j15_T R) (k : Nat) (v154 : Bool) (v155 : Bool) (v156 : Int) (v157 : Bool) (v158 : List Int) (v159 : Int) (v160 : Int) (v161 : Int) (v162 : Int) (v163 : List D1) (v164 : Int) (v165 : Int) (v166 : Bool) (v167 : Bool) (v168 : Int) (v169 : List D2) (v170 : Int) (v171 : Int) (v172 : Int) (v173 : Bool) (v174 : Int) (v175 : ByteArray) (v176 : Int) (v177 : Bool) (v178 : Bool) (X0 : Bool → List Int → Int → Int → Int → Int → List D1 → Int → Int → Bool → Bool → Int → List D2 → Int → Int → Int → Bool → Int → ByteArray → Int → Bool → Bool → Option R) : Option R :=
  bif v157 then
    g_f87_2 k 41 v158 v159 v160 v161 v162 v163 (fun v179 v180 v181 v182 v183 v184 =>
      X0 v155 v179 v180 v181 v182 v183 v184 v164 v165 v166 v167 v168 v169 v170 v171 v172 v173 v174 v175 v176 v177 v178)
  else
    bif decide (v156 > (v158.length : Int)) then
      g_f88_2_j15 k v154 v155 true v158 v159 v160 v161 v162 v163 v164 v165 v166 v167 v168 v169 v170 v171 v172 v173 v174 v175 v176 v177 v178 (fun v371 v372 v373 v374 v375 v376 v377 v378 v379 v380 v381 v382 v383 v384 v385 v386 v387 v388 v389 v390 v391 v392 =>
        X0 v371 v372 v373 v374 v375 v376 v377 v378 v379 v380 v381 v382 v383 v384 v385 v386 v387 v388 v389 v390 v391 v392)
    else
      g_f88_2_j15 k v154 v155 (decide (v172 > (v158.length : Int))) v158 v159 v160 v161 v162 v163 v164 v165 v166 v167 v168 v169 v170 v171 v172 v173 v174 v175 v176 v177 v178 (fun v393 v394 v395 v396 v397 v398 v399 v400 v401 v402 v403 v404 v405 v406 v407 v408 v409 v410 v411 v412 v413 v414 =>
        X0 v393 v394 v395 v396 v397 v398 v399 v400 v401 v402 v403 v404 v405 v406 v407 v408 v409 v410 v411 v412 v413 v414)
abbrev f88_2_j23_T (R : Type) : Type := Bool → List Int → Int → Int → Int → Int → List D1 → Int → Int → Bool → Bool → Int → List D2 → Int → Int → Int → Bool → Int → ByteArray → Int → Bool → Bool → (List D2 → List Int → Int → Int → Int → Int → List D1 → Option R) → (List Int → Int → Int → Int → Int → List D1 → Int → Int → Bool → Bool → Int → List D2 → Option R) → Option R
abbrev f88_2_j23_X : Type := (Unit × Unit × Unit × Unit × Unit × Bool × Unit)
abbrev f88_2_j23_Y : Type := ((List Int × Int × Int × Unit × Int × Int × Unit) × List D1 × (Int × Int × Bool × Bool × Int × Unit) × List D2 × (Int × Int × Int × Bool × Unit) × (Int × ByteArray × Int × Bool × Bool × Unit) × Unit)
noncomputable def f88_2_j23 {R : Type} (_g_f25 : Nat → f25_T R) (g_f56_2 : Nat → f56_2_T R) (_g_f87_2 : Nat → f87_2_T R) (_g_f99_2 : Nat → f99_2_T R) (_g_f100 : Nat → f100_T R) (_g_f68 : Nat → f68_T R) (g_f101_3 : Nat → f101_3_T R) (_g_f88_2_j12 : Nat → f88_2_j12_T R) (_g_f88_2_j17 : Nat → f88_2_j17_T R) (_g_f88_2_j18 : Nat → f88_2_j18_T R) (_g_f88_2_j15 : Nat → f88_2_j15_T R) (_g_f88_2_j13 : Nat → f88_2_j13_T R) (k : Nat) (v437 : Bool) (v438 : List Int) (v439 : Int) (v440 : Int) (v441 : Int) (v442 : Int) (v443 : List D1) (v444 : Int) (v445 : Int) (v446 : Bool) (v447 : Bool) (v448 : Int) (v449 : List D2) (v450 : Int) (v451 : Int) (v452 : Int) (v453 : Bool) (v454 : Int) (v455 : ByteArray) (v456 : Int) (v457 : Bool) (v458 : Bool) (X0 : List D2 → List Int → Int → Int → Int → Int → List D1 → Option R) (X1 : List Int → Int → Int → Int → Int → List D1 → Int → Int → Bool → Bool → Int → List D2 → Option R) : Option R :=
  g_f56_2 k v438 v439 v440 v441 v442 v443 (fun v459 v460 v461 v462 v463 v464 v465 =>
    bif (!v459) then
      X0 v449 v460 v461 v462 v463 v464 v465
    else
      g_f101_3 k v450 v451 v452 v453 v454 v455 v456 v457 v458 v437 v444 v445 v446 v447 v448 v460 v461 v462 v463 v464 v465 (fun v466 v467 v468 v469 v470 v471 v472 v473 v474 v475 v476 =>
        bif v468 then
          bif room 64 (v449.length + ([(D2.mk v466 v474 v475 v467)]).length) then
            X1 v469 v470 v471 v472 v473 v476 v444 v445 v446 v447 v448 (v449 ++ ([(D2.mk v466 v474 v475 v467)]))
          else
            none
        else
          X1 v469 v470 v471 v472 v473 v476 v444 v445 v446 v447 v448 v449))
abbrev f88_2_j10_T (R : Type) : Type := Bool → Bool → List Int → Int → Int → Int → Int → List D1 → Int → Int → Bool → Bool → Int → List D2 → Int → Int → Int → Bool → Int → ByteArray → Int → Bool → Bool → (List D2 → List Int → Int → Int → Int → Int → List D1 → Option R) → (List Int → Int → Int → Int → Int → List D1 → Int → Int → Bool → Bool → Int → List D2 → Option R) → Option R
abbrev f88_2_j10_X : Type := (Unit × Unit × Unit × Bool × Unit × Unit × Bool × Unit)
abbrev f88_2_j10_Y : Type := ((List Int × Int × Int × Unit × Int × Int × Unit) × List D1 × (Int × Int × Bool × Bool × Int × Unit) × List D2 × (Int × Int × Int × Bool × Unit) × (Int × ByteArray × Int × Bool × Bool × Unit) × Unit)
noncomputable def f88_2_j10 {R : Type} (_g_f25 : Nat → f25_T R) (_g_f56_2 : Nat → f56_2_T R) (_g_f87_2 : Nat → f87_2_T R) (_g_f99_2 : Nat → f99_2_T R) (_g_f100 : Nat → f100_T R) (_g_f68 : Nat → f68_T R) (_g_f101_3 : Nat → f101_3_T R) (g_f88_2_j12 : Nat → f88_2_j12_T R) (_g_f88_2_j17 : Nat → f88_2_j17_T R) (_g_f88_2_j18 : Nat → f88_2_j18_T R) (_g_f88_2_j15 : Nat → f88_2_j15_T R) (g_f88_2_j13 : Nat → f88_2_j13_T R) (g_f88_2_j23 : Nat → f88_2_j23_T R) (k : Nat) (v81 : Bool) (v82 : Bool) (v83 : List Int) (v84 : Int) (v85 : Int) (v86 : Int) (v87 : Int) (v88 : List D1) (v89 : Int) (v90 : Int) (v91 : Bool) (v92 : Bool) (v93 : Int) (v94 : List D2) (v95 : Int) (v96 : Int) (v97 : Int) (v98 : Bool) (v99 : Int) (v100 : ByteArray) (v101 : Int) (v102 : Bool) (v103 : Bool) (X0 : List D2 → List Int → Int → Int → Int → Int → List D1 → Option R) (X1 : List Int → Int → Int → Int → Int → List D1 → Int → Int → Bool → Bool → Int → List D2 → Option R) : Option R :=
  bif v98 then
    g_f88_2_j12 k v81 v82 (IntKind.i64.wrap ((IntKind.i64.wrap (v84 + v96)) + v97)) (!v103) v83 v84 v85 v86 v87 v88 v89 v90 v91 v92 v93 v94 v95 v96 v97 v98 v99 v100 v101 v102 v103 (fun v129 v130 v131 v132 v133 v134 v135 v136 v137 v138 v139 v140 v141 v142 v143 v144 v145 v146 v147 v148 v149 v150 v151 v152 v153 =>
      g_f88_2_j13 k v129 v130 v131 v132 v133 v134 v135 v136 v137 v138 v139 v140 v141 v142 v143 v144 v145 v146 v147 v148 v149 v150 v151 v152 v153 (fun v415 v416 v417 v418 v419 v420 v421 v422 v423 v424 v425 v426 v427 v428 v429 v430 v431 v432 v433 v434 v435 v436 =>
        g_f88_2_j23 k v415 v416 v417 v418 v419 v420 v421 v422 v423 v424 v425 v426 v427 v428 v429 v430 v431 v432 v433 v434 v435 v436 (fun v477 v478 v479 v480 v481 v482 v483 =>
          X0 v477 v478 v479 v480 v481 v482 v483) (fun v484 v485 v486 v487 v488 v489 v490 v491 v492 v493 v494 v495 =>
          X1 v484 v485 v486 v487 v488 v489 v490 v491 v492 v493 v494 v495)))
  else
    g_f88_2_j12 k v81 v82 (IntKind.i64.wrap ((IntKind.i64.wrap (v84 + v96)) + v97)) false v83 v84 v85 v86 v87 v88 v89 v90 v91 v92 v93 v94 v95 v96 v97 v98 v99 v100 v101 v102 v103 (fun v496 v497 v498 v499 v500 v501 v502 v503 v504 v505 v506 v507 v508 v509 v510 v511 v512 v513 v514 v515 v516 v517 v518 v519 v520 =>
      g_f88_2_j13 k v496 v497 v498 v499 v500 v501 v502 v503 v504 v505 v506 v507 v508 v509 v510 v511 v512 v513 v514 v515 v516 v517 v518 v519 v520 (fun v521 v522 v523 v524 v525 v526 v527 v528 v529 v530 v531 v532 v533 v534 v535 v536 v537 v538 v539 v540 v541 v542 =>
        g_f88_2_j23 k v521 v522 v523 v524 v525 v526 v527 v528 v529 v530 v531 v532 v533 v534 v535 v536 v537 v538 v539 v540 v541 v542 (fun v543 v544 v545 v546 v547 v548 v549 =>
          X0 v543 v544 v545 v546 v547 v548 v549) (fun v550 v551 v552 v553 v554 v555 v556 v557 v558 v559 v560 v561 =>
          X1 v550 v551 v552 v553 v554 v555 v556 v557 v558 v559 v560 v561)))
abbrev f88_2_j9_T (R : Type) : Type := Bool → Bool → List Int → Int → Int → Int → Int → List D1 → Int → Int → Bool → Bool → Int → List D2 → Int → Int → Int → Bool → Int → ByteArray → Int → Bool → Bool → (List D2 → List Int → Int → Int → Int → Int → List D1 → Option R) → (List Int → Int → Int → Int → Int → List D1 → Int → Int → Bool → Bool → Int → List D2 → Option R) → Option R
abbrev f88_2_j9_X : Type := (Unit × Unit × Unit × Bool × Unit × Unit × Bool × Unit)
abbrev f88_2_j9_Y : Type := ((List Int × Int × Int × Unit × Int × Int × Unit) × List D1 × (Int × Int × Bool × Bool × Int × Unit) × List D2 × (Int × Int × Int × Bool × Unit) × (Int × ByteArray × Int × Bool × Bool × Unit) × Unit)
noncomputable def f88_2_j9 {R : Type} (_g_f25 : Nat → f25_T R) (_g_f56_2 : Nat → f56_2_T R) (_g_f87_2 : Nat → f87_2_T R) (_g_f99_2 : Nat → f99_2_T R) (_g_f100 : Nat → f100_T R) (g_f68 : Nat → f68_T R) (_g_f101_3 : Nat → f101_3_T R) (_g_f88_2_j12 : Nat → f88_2_j12_T R) (_g_f88_2_j17 : Nat → f88_2_j17_T R) (_g_f88_2_j18 : Nat → f88_2_j18_T R) (_g_f88_2_j15 : Nat → f88_2_j15_T R) (_g_f88_2_j13 : Nat → f88_2_j13_T R) (_g_f88_2_j23 : Nat → f88_2_j23_T R) (g_f88_2_j10 : Nat → f88_2_j10_T R) (k : Nat) (v57 : Bool) (v58 : Bool) (v59 : List Int) (v60 : Int) (v61 : Int) (v62 : Int) (v63 : Int) (v64 : List D1) (v65 : Int) (v66 : Int) (v67 : Bool) (v68 : Bool) (v69 : Int) (v70 : List D2) (v71 : Int) (v72 : Int) (v73 : Int) (v74 : Bool) (v75 : Int) (v76 : ByteArray) (v77 : Int) (v78 : Bool) (v79 : Bool) (X0 : List D2 → List Int → Int → Int → Int → Int → List D1 → Option R) (X1 : List Int → Int → Int → Int → Int → List D1 → Int → Int → Bool → Bool → Int → List D2 → Option R) : Option R :=
  bif v68 then
    bif (!v58) then
      g_f68 k v75 v76 v77 v78 v79 v65 (fun v80 =>
        bif (!v80) then
          X0 v70 v59 v60 v61 v62 v63 v64
        else
          g_f88_2_j10 k v57 v58 v59 v60 v61 v62 v63 v64 v65 v66 v67 v68 v69 v70 v71 v72 v73 v74 v75 v76 v77 v78 v79 (fun v562 v563 v564 v565 v566 v567 v568 =>
            X0 v562 v563 v564 v565 v566 v567 v568) (fun v569 v570 v571 v572 v573 v574 v575 v576 v577 v578 v579 v580 =>
            X1 v569 v570 v571 v572 v573 v574 v575 v576 v577 v578 v579 v580))
    else
      g_f88_2_j10 k v57 v58 v59 v60 v61 v62 v63 v64 v65 v66 v67 v68 v69 v70 v71 v72 v73 v74 v75 v76 v77 v78 v79 (fun v581 v582 v583 v584 v585 v586 v587 =>
        X0 v581 v582 v583 v584 v585 v586 v587) (fun v588 v589 v590 v591 v592 v593 v594 v595 v596 v597 v598 v599 =>
        X1 v588 v589 v590 v591 v592 v593 v594 v595 v596 v597 v598 v599)
  else
    g_f88_2_j10 k v57 v58 v59 v60 v61 v62 v63 v64 v65 v66 v67 v68 v69 v70 v71 v72 v73 v74 v75 v76 v77 v78 v79 (fun v600 v601 v602 v603 v604 v605 v606 =>
      X0 v600 v601 v602 v603 v604 v605 v606) (fun v607 v608 v609 v610 v611 v612 v613 v614 v615 v616 v617 v618 =>
      X1 v607 v608 v609 v610 v611 v612 v613 v614 v615 v616 v617 v618)
abbrev f88_2_j5_T (R : Type) : Type := Bool → List Int → Int → Int → Int → Int → List D1 → Int → Int → Bool → Bool → Int → List D2 → (List D2 → List Int → Int → Int → Int → Int → List D1 → Option R) → (Bool → List Int → Int → Int → Int → Int → List D1 → Int → Int → Bool → Bool → Int → List D2 → Option R) → Option R
abbrev f88_2_j5_X : Type := (Unit × Unit × Unit × Bool × Unit)
abbrev f88_2_j5_Y : Type := ((List Int × Int × Int × Unit × Int × Int × Unit) × List D1 × (Int × Int × Bool × Bool × Int × Unit) × List D2 × Unit)
noncomputable def f88_2_j5 {R : Type} (g_f25 : Nat → f25_T R) (g_f56_2 : Nat → f56_2_T R) (_g_f87_2 : Nat → f87_2_T R) (g_f99_2 : Nat → f99_2_T R) (_g_f100 : Nat → f100_T R) (_g_f68 : Nat → f68_T R) (_g_f101_3 : Nat → f101_3_T R) (_g_f88_2_j12 : Nat → f88_2_j12_T R) (_g_f88_2_j17 : Nat → f88_2_j17_T R) (_g_f88_2_j18 : Nat → f88_2_j18_T R) (_g_f88_2_j15 : Nat → f88_2_j15_T R) (_g_f88_2_j13 : Nat → f88_2_j13_T R) (_g_f88_2_j23 : Nat → f88_2_j23_T R) (_g_f88_2_j10 : Nat → f88_2_j10_T R) (g_f88_2_j9 : Nat → f88_2_j9_T R) (k : Nat) (v21 : Bool) (v22 : List Int) (v23 : Int) (v24 : Int) (v25 : Int) (v26 : Int) (v27 : List D1) (v28 : Int) (v29 : Int) (v30 : Bool) (v31 : Bool) (v32 : Int) (v33 : List D2) (X0 : List D2 → List Int → Int → Int → Int → Int → List D1 → Option R) (X1 : Bool → List Int → Int → Int → Int → Int → List D1 → Int → Int → Bool → Bool → Int → List D2 → Option R) : Option R :=
  g_f99_2 k v22 v23 v24 v25 v26 v27 (fun v34 v35 v36 v37 v38 v39 v40 v41 v42 v43 =>
    g_f56_2 k v38 v39 v40 v41 v42 v43 (fun v44 v45 v46 v47 v48 v49 v50 =>
      bif (!v44) then
        X0 v33 v45 v46 v47 v48 v49 v50
      else
        g_f25 k v34 (fun v51 v52 v53 v54 v55 v56 =>
          bif (!v56) then
            g_f88_2_j9 k v21 true v45 v46 v47 v48 v49 v50 v28 v29 v30 v31 v32 v33 v34 v35 v36 v37 v51 v52 v53 v54 v55 (fun v619 v620 v621 v622 v623 v624 v625 =>
              X0 v619 v620 v621 v622 v623 v624 v625) (fun v626 v627 v628 v629 v630 v631 v632 v633 v634 v635 v636 v637 =>
              X1 false v626 v627 v628 v629 v630 v631 v632 v633 v634 v635 v636 v637)
          else
            g_f88_2_j9 k v21 (decide (v53 < 0)) v45 v46 v47 v48 v49 v50 v28 v29 v30 v31 v32 v33 v34 v35 v36 v37 v51 v52 v53 v54 v55 (fun v638 v639 v640 v641 v642 v643 v644 =>
              X0 v638 v639 v640 v641 v642 v643 v644) (fun v645 v646 v647 v648 v649 v650 v651 v652 v653 v654 v655 v656 =>
              X1 false v645 v646 v647 v648 v649 v650 v651 v652 v653 v654 v655 v656))))
abbrev f88_2_l3_X : Type := (Unit × Unit × Unit × Bool × Unit)
abbrev f88_2_l3_Y : Type := ((List Int × Int × Int × Unit × Int × Int × Unit) × List D1 × (Int × Int × Bool × Bool × Int × Unit) × List D2 × Unit)
noncomputable def f88_2_l3 {R : Type} (g_f25 : Nat → f25_T R) (g_f56_2 : Nat → f56_2_T R) (g_f87_2 : Nat → f87_2_T R) (g_f99_2 : Nat → f99_2_T R) (g_f100 : Nat → f100_T R) (g_f68 : Nat → f68_T R) (g_f101_3 : Nat → f101_3_T R) (g_f88_2_j12 : Nat → f88_2_j12_T R) (g_f88_2_j17 : Nat → f88_2_j17_T R) (g_f88_2_j18 : Nat → f88_2_j18_T R) (g_f88_2_j15 : Nat → f88_2_j15_T R) (g_f88_2_j13 : Nat → f88_2_j13_T R) (g_f88_2_j23 : Nat → f88_2_j23_T R) (g_f88_2_j10 : Nat → f88_2_j10_T R) (g_f88_2_j9 : Nat → f88_2_j9_T R) (g_f88_2_j5 : Nat → f88_2_j5_T R) : Nat → Bool → List Int → Int → Int → Int → Int → List D1 → Int → Int → Bool → Bool → Int → List D2 → (List D2 → List Int → Int → Int → Int → Int → List D1 → Option R) → Option R
  | 0, _, _, _, _, _, _, _, _, _, _, _, _, _, _ => none
  | k + 1, v1, v2, v3, v4, v5, v6, v7, v8, v9, v10, v11, v12, v13, X0 =>
    bif decide (v3 < v9) then
      g_f56_2 k v2 v3 v4 v5 v6 v7 (fun v14 v15 v16 v17 v18 v19 v20 =>
        bif v14 then
          g_f88_2_j5 k v1 v15 v16 v17 v18 v19 v20 v8 v9 v10 v11 v12 v13 (fun v657 v658 v659 v660 v661 v662 v663 =>
            X0 v657 v658 v659 v660 v661 v662 v663) (fun v664 v665 v666 v667 v668 v669 v670 v671 v672 v673 v674 v675 v676 =>
            f88_2_l3 g_f25 g_f56_2 g_f87_2 g_f99_2 g_f100 g_f68 g_f101_3 g_f88_2_j12 g_f88_2_j17 g_f88_2_j18 g_f88_2_j15 g_f88_2_j13 g_f88_2_j23 g_f88_2_j10 g_f88_2_j9 g_f88_2_j5 k v664 v665 v666 v667 v668 v669 v670 v671 v672 v673 v674 v675 v676 X0)
        else
          X0 v13 v15 v16 v17 v18 v19 v20)
    else
      X0 v13 v2 v3 v4 v5 v6 v7
noncomputable def f88_2_s {R : Type} (g_f25 : Nat → f25_T R) (g_f56_2 : Nat → f56_2_T R) (g_f87_2 : Nat → f87_2_T R) (g_f99_2 : Nat → f99_2_T R) (g_f100 : Nat → f100_T R) (g_f68 : Nat → f68_T R) (g_f101_3 : Nat → f101_3_T R) (g_f88_2_j12 : Nat → f88_2_j12_T R) (g_f88_2_j17 : Nat → f88_2_j17_T R) (g_f88_2_j18 : Nat → f88_2_j18_T R) (g_f88_2_j15 : Nat → f88_2_j15_T R) (g_f88_2_j13 : Nat → f88_2_j13_T R) (g_f88_2_j23 : Nat → f88_2_j23_T R) (g_f88_2_j10 : Nat → f88_2_j10_T R) (g_f88_2_j9 : Nat → f88_2_j9_T R) (g_f88_2_j5 : Nat → f88_2_j5_T R) (k : Nat) (a0 : Int) (a1 : Int) (a2 : Bool) (a3 : Bool) (a4 : Int) (a5 : List Int) (a6 : Int) (a7 : Int) (a8 : Int) (a9 : Int) (a10 : List D1) (K : List Int → Int → Int → Int → Int → List D2 → List D1 → Option R) : Option R :=
  f88_2_l3 g_f25 g_f56_2 g_f87_2 g_f99_2 g_f100 g_f68 g_f101_3 g_f88_2_j12 g_f88_2_j17 g_f88_2_j18 g_f88_2_j15 g_f88_2_j13 g_f88_2_j23 g_f88_2_j10 g_f88_2_j9 g_f88_2_j5 k true a5 a6 a7 a8 a9 a10 a0 a1 a2 a3 a4 ([] : List D2) (fun v677 v678 v679 v680 v681 v682 v683 =>
    K v678 v679 v680 v681 v682 v677 v683)
noncomputable def f88_2_j12_c {R : Type} (g_f101_3 : Nat → f101_3_T R) : Nat → f88_2_j12_T R := f88_2_j12 (f25 (R := R)) (f56_2 (R := R)) (f87_2 (R := R)) (f99_2 (R := R)) (f100 (R := R)) (f68 (R := R)) g_f101_3
noncomputable def f88_2_j17_c {R : Type} (g_f101_3 : Nat → f101_3_T R) : Nat → f88_2_j17_T R := f88_2_j17 (f25 (R := R)) (f56_2 (R := R)) (f87_2 (R := R)) (f99_2 (R := R)) (f100 (R := R)) (f68 (R := R)) g_f101_3 (f88_2_j12_c (R := R) g_f101_3)
noncomputable def f88_2_j18_c {R : Type} (g_f101_3 : Nat → f101_3_T R) : Nat → f88_2_j18_T R := f88_2_j18 (f25 (R := R)) (f56_2 (R := R)) (f87_2 (R := R)) (f99_2 (R := R)) (f100 (R := R)) (f68 (R := R)) g_f101_3 (f88_2_j12_c (R := R) g_f101_3) (f88_2_j17_c (R := R) g_f101_3)
noncomputable def f88_2_j15_c {R : Type} (g_f101_3 : Nat → f101_3_T R) : Nat → f88_2_j15_T R := f88_2_j15 (f25 (R := R)) (f56_2 (R := R)) (f87_2 (R := R)) (f99_2 (R := R)) (f100 (R := R)) (f68 (R := R)) g_f101_3 (f88_2_j12_c (R := R) g_f101_3) (f88_2_j17_c (R := R) g_f101_3) (f88_2_j18_c (R := R) g_f101_3)
noncomputable def f88_2_j13_c {R : Type} (g_f101_3 : Nat → f101_3_T R) : Nat → f88_2_j13_T R := f88_2_j13 (f25 (R := R)) (f56_2 (R := R)) (f87_2 (R := R)) (f99_2 (R := R)) (f100 (R := R)) (f68 (R := R)) g_f101_3 (f88_2_j12_c (R := R) g_f101_3) (f88_2_j17_c (R := R) g_f101_3) (f88_2_j18_c (R := R) g_f101_3) (f88_2_j15_c (R := R) g_f101_3)
noncomputable def f88_2_j23_c {R : Type} (g_f101_3 : Nat → f101_3_T R) : Nat → f88_2_j23_T R := f88_2_j23 (f25 (R := R)) (f56_2 (R := R)) (f87_2 (R := R)) (f99_2 (R := R)) (f100 (R := R)) (f68 (R := R)) g_f101_3 (f88_2_j12_c (R := R) g_f101_3) (f88_2_j17_c (R := R) g_f101_3) (f88_2_j18_c (R := R) g_f101_3) (f88_2_j15_c (R := R) g_f101_3) (f88_2_j13_c (R := R) g_f101_3)
noncomputable def f88_2_j10_c {R : Type} (g_f101_3 : Nat → f101_3_T R) : Nat → f88_2_j10_T R := f88_2_j10 (f25 (R := R)) (f56_2 (R := R)) (f87_2 (R := R)) (f99_2 (R := R)) (f100 (R := R)) (f68 (R := R)) g_f101_3 (f88_2_j12_c (R := R) g_f101_3) (f88_2_j17_c (R := R) g_f101_3) (f88_2_j18_c (R := R) g_f101_3) (f88_2_j15_c (R := R) g_f101_3) (f88_2_j13_c (R := R) g_f101_3) (f88_2_j23_c (R := R) g_f101_3)
noncomputable def f88_2_j9_c {R : Type} (g_f101_3 : Nat → f101_3_T R) : Nat → f88_2_j9_T R := f88_2_j9 (f25 (R := R)) (f56_2 (R := R)) (f87_2 (R := R)) (f99_2 (R := R)) (f100 (R := R)) (f68 (R := R)) g_f101_3 (f88_2_j12_c (R := R) g_f101_3) (f88_2_j17_c (R := R) g_f101_3) (f88_2_j18_c (R := R) g_f101_3) (f88_2_j15_c (R := R) g_f101_3) (f88_2_j13_c (R := R) g_f101_3) (f88_2_j23_c (R := R) g_f101_3) (f88_2_j10_c (R := R) g_f101_3)
noncomputable def f88_2_j5_c {R : Type} (g_f101_3 : Nat → f101_3_T R) : Nat → f88_2_j5_T R := f88_2_j5 (f25 (R := R)) (f56_2 (R := R)) (f87_2 (R := R)) (f99_2 (R := R)) (f100 (R := R)) (f68 (R := R)) g_f101_3 (f88_2_j12_c (R := R) g_f101_3) (f88_2_j17_c (R := R) g_f101_3) (f88_2_j18_c (R := R) g_f101_3) (f88_2_j15_c (R := R) g_f101_3) (f88_2_j13_c (R := R) g_f101_3) (f88_2_j23_c (R := R) g_f101_3) (f88_2_j10_c (R := R) g_f101_3) (f88_2_j9_c (R := R) g_f101_3)
noncomputable def f88_2_d {R : Type} (g : f88_2_T R) (e : Dr D R) : Dr D R := door [.ptr 0 0, .agg [.int .i64, .int .i64, .bool, .bool, .int .i64]] [.box [.list (.int .u8), .int .i64, .int .i64, .own 1, .int .i64, .int .i64], .row (.named 1) true] (fun (x : f88_2_X) (y : f88_2_Y) K => g x.2.1.1 x.2.1.2.1 x.2.1.2.2.1 x.2.1.2.2.2.1 x.2.1.2.2.2.2.1 y.1.1 y.1.2.1 y.1.2.2.1 y.1.2.2.2.2.1 y.1.2.2.2.2.2.1 y.2.1 (fun z0 z1 z2 z3 z4 z5 z6 => K ⟨.own 2, [some (.box [.list (.int .u8) z0, .int .i64 z1, .int .i64 z2, .own 3, .int .i64 z3, .int .i64 z4]), none, some (.row (.named 2) z5 true), some (.row (.named 1) z6 true)]⟩)) e
noncomputable def f101_3_o {R : Type} (g_f87_2 : Nat → f87_2_T R) (g_f95_2 : Nat → f95_2_T R) (g_f88_2 : Nat → f88_2_T R) (k : Nat) : Orc D R := (orcAdd 88 (f88_2_d (g_f88_2 k) noDr) (orcAdd 95 (f95_2L_d (g_f95_2 k) noDr) (orcAdd 87 (f87_2_d (g_f87_2 k) noDr) noOrc)))
theorem f101_3_o_ok {R : Type} (g_f88_2 : Nat → f88_2_T R) (h_f88_2 : ∀ (k : Nat) (e : Dr D R), FnOk Try.prog cx 88 e → FnOk Try.prog cx 88 (f88_2_d (g_f88_2 k) e)) (k : Nat) : OrcOk Try.prog cx (f101_3_o (R := R) (f87_2 (R := R)) (f95_2 (R := R)) g_f88_2 k) := (OrcOk.add (h_f88_2 k _ FnOk.no) (OrcOk.add (f95_2L_ok k FnOk.no) (OrcOk.add (f87_2_ok k FnOk.no) OrcOk.no)))
noncomputable def f101_3_b : Code := bodyOf Try.f101
noncomputable def f101_3_ann : Nat → Option LAnn := fun _key => none
noncomputable def f101_3_lrc {R : Type} (_g_f87_2 : Nat → f87_2_T R) (_g_f95_2 : Nat → f95_2_T R) (_g_f88_2 : Nat → f88_2_T R) (_k : Nat) : Lrc D R := noLrc
theorem f101_3_e {R : Type} (g_f87_2 : Nat → f87_2_T R) (g_f95_2 : Nat → f95_2_T R) (g_f88_2 : Nat → f88_2_T R) (k : Nat) (x : f101_3_X) (y : f101_3_Y) (K : KR R) : f101_3_s g_f87_2 g_f95_2 g_f88_2 k x.2.1.1 x.2.1.2.1 x.2.1.2.2.1 x.2.1.2.2.2.1 x.2.2.1.1 x.2.2.1.2.1 x.2.2.1.2.2.1 x.2.2.1.2.2.2.1 x.2.2.1.2.2.2.2.1 x.2.2.2.1 x.2.2.2.2.1.1 x.2.2.2.2.1.2.1 x.2.2.2.2.1.2.2.1 x.2.2.2.2.1.2.2.2.1 x.2.2.2.2.1.2.2.2.2.1 y.1.1 y.1.2.1 y.1.2.2.1 y.1.2.2.2.2.1 y.1.2.2.2.2.2.1 y.2.1 (fun z0 z1 z2 z3 z4 z5 z6 z7 z8 z9 z10 => K ⟨.tup [.agg [.int .i64 z0, .own 2, .own 3, .bool z1], .bool z2], [some (.box [.list (.int .u8) z3, .int .i64 z4, .int .i64 z5, .own 4, .int .i64 z6, .int .i64 z7]), none, some (.row (.int .u8) z8 true), some (.row (.named 2) z9 true), some (.row (.named 1) z10 true)]⟩) = exec cx (f101_3_o g_f87_2 g_f95_2 g_f88_2 k) (f101_3_lrc g_f87_2 g_f95_2 g_f88_2 k) f101_3_ann kp 154 2 f101_3_b (entry (gives (D := D) [.ptr 0 0, .agg [.int .i64, .int .i64, .int .i64, .bool], .agg [.int .i64, .str, .int .i64, .bool, .bool], .bool, .agg [.int .i64, .int .i64, .bool, .bool, .int .i64]] x) (giveOs (D := D) [.box [.list (.int .u8), .int .i64, .int .i64, .own 1, .int .i64, .int .i64], .row (.named 1) true] y)) (fin cx Try.f101.results.toList [(.cell 65712 1, .own 1099511627776 (.int .u8)), (.cell 65712 2, .own 1099511627777 (.named 2)), (.cell 0 3, .own 1099511627778 (.named 1))] 2 K) := by kernel_rfl
noncomputable def f88_2_o {R : Type} (g_f25 : Nat → f25_T R) (g_f56_2 : Nat → f56_2_T R) (g_f87_2 : Nat → f87_2_T R) (g_f99_2 : Nat → f99_2_T R) (g_f100 : Nat → f100_T R) (g_f68 : Nat → f68_T R) (g_f101_3 : Nat → f101_3_T R) (k : Nat) : Orc D R := (orcAdd 101 (f101_3_d (g_f101_3 k) noDr) (orcAdd 68 (f68_d (g_f68 k) noDr) (orcAdd 100 (f100_d (g_f100 k) noDr) (orcAdd 99 (f99_2_d (g_f99_2 k) noDr) (orcAdd 87 (f87_2_d (g_f87_2 k) noDr) (orcAdd 56 (f56_2_d (g_f56_2 k) noDr) (orcAdd 25 (f25_d (g_f25 k) noDr) noOrc)))))))
theorem f88_2_o_ok {R : Type} (g_f101_3 : Nat → f101_3_T R) (h_f101_3 : ∀ (k : Nat) (e : Dr D R), FnOk Try.prog cx 101 e → FnOk Try.prog cx 101 (f101_3_d (g_f101_3 k) e)) (k : Nat) : OrcOk Try.prog cx (f88_2_o (R := R) (f25 (R := R)) (f56_2 (R := R)) (f87_2 (R := R)) (f99_2 (R := R)) (f100 (R := R)) (f68 (R := R)) g_f101_3 k) := (OrcOk.add (h_f101_3 k _ FnOk.no) (OrcOk.add (f68_ok k FnOk.no) (OrcOk.add (f100_ok k FnOk.no) (OrcOk.add (f99_2_ok k FnOk.no) (OrcOk.add (f87_2_ok k FnOk.no) (OrcOk.add (f56_2_ok k FnOk.no) (OrcOk.add (f25_ok k FnOk.no) OrcOk.no)))))))
noncomputable def f88_2_b : Code := bodyOf Try.f88
noncomputable def f88_2_j12_a : LAnn := ⟨⟨[(.tmp 5, .own 137439002624 (.named 2)), (.cell 0 3, .own 137439002625 (.named 1)), (.cell 1 0, .drop)], [0, 3, 5, 6, 7, 8, 10, 11, 66], [0, 137439002625, 65600, 137439002624, 393344, 524432]⟩, exOfJ (some ⟨[(.tmp 5, .own 137439003648 (.named 2)), (.cell 0 3, .own 137439003649 (.named 1)), (.cell 1 0, .drop)], [0, 3, 5, 6, 7, 8, 10, 11, 66], [0, 137439003649, 65600, 137439003648, 393344, 524432]⟩) (none) []⟩
noncomputable def f88_2_j17_a : LAnn := ⟨⟨[(.tmp 5, .own 137439023104 (.named 2)), (.cell 0 3, .own 137439023105 (.named 1)), (.cell 1 0, .drop)], [0, 3, 5, 6, 7, 8, 10, 111], [0, 137439023105, 65600, 137439023104, 393344, 524432]⟩, exOfJ (some ⟨[(.tmp 5, .own 137439024128 (.named 2)), (.cell 0 3, .own 137439024129 (.named 1)), (.cell 1 0, .drop)], [0, 3, 5, 7, 8, 10, 111], [0, 137439024129, 65600, 137439024128, 393344, 524432]⟩) (none) []⟩
noncomputable def f88_2_j18_a : LAnn := ⟨⟨[(.tmp 5, .own 137439027200 (.named 2)), (.cell 0 3, .own 137439027201 (.named 1)), (.cell 1 0, .drop)], [0, 3, 5, 7, 8, 10, 111], [0, 137439027201, 65600, 137439027200, 393344, 524432]⟩, exOfJ (some ⟨[(.tmp 5, .own 137439028224 (.named 2)), (.cell 0 3, .own 137439028225 (.named 1)), (.cell 1 0, .drop)], [0, 3, 5, 7, 8, 10], [0, 137439028225, 65600, 137439028224, 393344, 524432]⟩) (none) []⟩
noncomputable def f88_2_j15_a : LAnn := ⟨⟨[(.tmp 5, .own 137439014912 (.named 2)), (.cell 0 3, .own 137439014913 (.named 1)), (.cell 1 0, .drop)], [0, 3, 5, 6, 7, 8, 10, 91], [0, 137439014913, 65600, 137439014912, 393344, 524432]⟩, exOfJ (some ⟨[(.tmp 5, .own 137439015936 (.named 2)), (.cell 0 3, .own 137439015937 (.named 1)), (.cell 1 0, .drop)], [0, 3, 5, 7, 8, 10], [0, 137439015937, 65600, 137439015936, 393344, 524432]⟩) (none) []⟩
noncomputable def f88_2_j13_a : LAnn := ⟨⟨[(.tmp 5, .own 137439006720 (.named 2)), (.cell 0 3, .own 137439006721 (.named 1)), (.cell 1 0, .drop)], [0, 3, 5, 6, 7, 8, 10, 11, 66], [0, 137439006721, 65600, 137439006720, 393344, 524432]⟩, exOfJ (some ⟨[(.tmp 5, .own 137439007744 (.named 2)), (.cell 0 3, .own 137439007745 (.named 1)), (.cell 1 0, .drop)], [0, 3, 5, 7, 8, 10], [0, 137439007745, 65600, 137439007744, 393344, 524432]⟩) (none) []⟩
noncomputable def f88_2_j23_a : LAnn := ⟨⟨[(.tmp 5, .own 137439047680 (.named 2)), (.cell 0 3, .own 137439047681 (.named 1)), (.cell 1 0, .drop)], [0, 3, 5, 7, 8, 10], [0, 137439047681, 65600, 137439047680, 393344, 524432]⟩, exOfJ (some ⟨[(.tmp 5, .own 137439049728 (.named 2))], [0, 3, 5], [0, 1640946, 65600, 137439049728]⟩) (none) [(0, ⟨[(.tmp 5, .own 137439048704 (.named 2)), (.cell 0 3, .own 137439048705 (.named 1)), (.cell 1 0, .drop)], [5], [137439048704, 0, 137439048705]⟩)]⟩
noncomputable def f88_2_j10_a : LAnn := ⟨⟨[(.tmp 5, .own 137438994432 (.named 2)), (.cell 0 3, .own 137438994433 (.named 1)), (.cell 1 0, .drop)], [0, 3, 5, 6, 7, 8, 10], [0, 137438994433, 65600, 137438994432, 393344, 524432]⟩, exOfJ (some ⟨[], [0, 3, 5], [0, 1640946, 65600, 137439049728]⟩) (none) [(0, ⟨[(.tmp 5, .own 137438995456 (.named 2)), (.cell 0 3, .own 137438995457 (.named 1)), (.cell 1 0, .drop)], [5], [137438995456, 0, 137438995457]⟩)]⟩
noncomputable def f88_2_j9_a : LAnn := ⟨⟨[(.tmp 5, .own 137438990336 (.named 2)), (.cell 0 3, .own 137438990337 (.named 1)), (.cell 1 0, .drop)], [0, 3, 5, 6, 7, 8, 10], [0, 137438990337, 65600, 137438990336, 393344, 524432]⟩, exOfJ (some ⟨[], [0, 3, 5], [0, 1640946, 65600, 137439049728]⟩) (none) [(0, ⟨[(.tmp 5, .own 137438991360 (.named 2)), (.cell 0 3, .own 137438991361 (.named 1)), (.cell 1 0, .drop)], [5], [137438991360, 0, 137438991361]⟩)]⟩
noncomputable def f88_2_j5_a : LAnn := ⟨⟨[(.tmp 5, .own 137438973952 (.named 2)), (.cell 0 3, .own 137438973953 (.named 1)), (.cell 1 0, .drop)], [0, 3, 5, 6], [0, 137438973953, 65600, 137438973952]⟩, exOfJ (some ⟨[], [0, 3, 5, 6], [0, 1640946, 65600, 137439049728]⟩) (none) [(0, ⟨[(.tmp 5, .own 137438974976 (.named 2)), (.cell 0 3, .own 137438974977 (.named 1)), (.cell 1 0, .drop)], [5], [137438974976, 0, 137438974977]⟩)]⟩
noncomputable def f88_2_l3_a : LAnn := ⟨⟨[(.tmp 5, .own 68719489024 (.named 2)), (.cell 0 3, .own 68719489025 (.named 1)), (.cell 1 0, .drop)], [0, 3, 5, 6], [0, 68719489025, 65600, 68719489024]⟩, exOf (none) [(0, ⟨[(.tmp 5, .own 68719490048 (.named 2)), (.cell 0 3, .own 68719490049 (.named 1)), (.cell 1 0, .drop)], [5], [68719490048, 0, 68719490049]⟩)]⟩
noncomputable def f88_2_ann : Nat → Option LAnn := fun key => bif Nat.beq key 3 then some f88_2_l3_a else bif Nat.beq key 1000005 then some f88_2_j5_a else bif Nat.beq key 1000009 then some f88_2_j9_a else bif Nat.beq key 1000010 then some f88_2_j10_a else bif Nat.beq key 1000023 then some f88_2_j23_a else bif Nat.beq key 1000013 then some f88_2_j13_a else bif Nat.beq key 1000015 then some f88_2_j15_a else bif Nat.beq key 1000018 then some f88_2_j18_a else bif Nat.beq key 1000017 then some f88_2_j17_a else bif Nat.beq key 1000012 then some f88_2_j12_a else none
noncomputable def f88_2_j12_b : Code := joinAt f88_2_ann f88_2_b 3
noncomputable def f88_2_j12_g {R : Type} (g : Nat → f88_2_j12_T R) (k : Nat) (x : f88_2_j12_X) (y : f88_2_j12_Y) (K : KX R) : Option R := g k x.2.2.2.1 x.2.2.2.2.2.2.1 x.2.2.2.2.2.2.2.1 x.2.2.2.2.2.2.2.2.1 y.1.1 y.1.2.1 y.1.2.2.1 y.1.2.2.2.2.1 y.1.2.2.2.2.2.1 y.2.1 y.2.2.1.1 y.2.2.1.2.1 y.2.2.1.2.2.1 y.2.2.1.2.2.2.1 y.2.2.1.2.2.2.2.1 y.2.2.2.1 y.2.2.2.2.1.1 y.2.2.2.2.1.2.1 y.2.2.2.2.1.2.2.1 y.2.2.2.2.1.2.2.2.1 y.2.2.2.2.2.1.1 y.2.2.2.2.2.1.2.1 y.2.2.2.2.2.1.2.2.1 y.2.2.2.2.2.1.2.2.2.1 y.2.2.2.2.2.1.2.2.2.2.1 (fun z0 z1 z2 z3 z4 z5 z6 z7 z8 z9 z10 z11 z12 z13 z14 z15 z16 z17 z18 z19 z20 z21 z22 z23 z24 => K (.normal) [.ptr 0 0, .ptr 65600 0, .own 137439003648, .bool z0, .ptr 393344 0, .ptr 524432 0, .bool z1, .int .i64 z2, .bool z3] [some (.box [.list (.int .u8) z4, .int .i64 z5, .int .i64 z6, .own 137439003649, .int .i64 z7, .int .i64 z8]), some (.row (.named 1) z9 true), some (.box [.int .i64 z10, .int .i64 z11, .bool z12, .bool z13, .int .i64 z14]), some (.row (.named 2) z15 true), some (.box [.int .i64 z16, .int .i64 z17, .int .i64 z18, .bool z19]), some (.box [.int .i64 z20, .str z21, .int .i64 z22, .bool z23, .bool z24])])
noncomputable def f88_2_j12_d {R : Type} (g : Nat → f88_2_j12_T R) (k : Nat) : Lr D R := ldoor [.ptr 0 0, .ptr 65600 0, .own 137439002624, .bool, .ptr 393344 0, .ptr 524432 0, .bool, .int .i64, .bool] [some (.box [.list (.int .u8), .int .i64, .int .i64, .own 137439002625, .int .i64, .int .i64]), some (.row (.named 1) true), some (.box [.int .i64, .int .i64, .bool, .bool, .int .i64]), some (.row (.named 2) true), some (.box [.int .i64, .int .i64, .int .i64, .bool]), some (.box [.int .i64, .str, .int .i64, .bool, .bool])] (f88_2_j12_g g k)
noncomputable def f88_2_j12_lrc {R : Type} (_g_f25 : Nat → f25_T R) (_g_f56_2 : Nat → f56_2_T R) (_g_f87_2 : Nat → f87_2_T R) (_g_f99_2 : Nat → f99_2_T R) (_g_f100 : Nat → f100_T R) (_g_f68 : Nat → f68_T R) (_g_f101_3 : Nat → f101_3_T R) (_k : Nat) : Lrc D R := noLrc
theorem f88_2_j12_e {R : Type} (g_f25 : Nat → f25_T R) (g_f56_2 : Nat → f56_2_T R) (g_f87_2 : Nat → f87_2_T R) (g_f99_2 : Nat → f99_2_T R) (g_f100 : Nat → f100_T R) (g_f68 : Nat → f68_T R) (g_f101_3 : Nat → f101_3_T R) (k : Nat) (x : f88_2_j12_X) (y : f88_2_j12_Y) (K : KX R) : f88_2_j12_g (f88_2_j12 g_f25 g_f56_2 g_f87_2 g_f99_2 g_f100 g_f68 g_f101_3) k x y K = tailR cx (f88_2_o g_f25 g_f56_2 g_f87_2 g_f99_2 g_f100 g_f68 g_f101_3 k) (f88_2_j12_lrc g_f25 g_f56_2 g_f87_2 g_f99_2 g_f100 g_f68 g_f101_3 k) f88_2_ann kp 167 2 f88_2_j12_a f88_2_j12_b (gives (D := D) [.ptr 0 0, .ptr 65600 0, .own 137439002624, .bool, .ptr 393344 0, .ptr 524432 0, .bool, .int .i64, .bool] x) (giveGs (D := D) [some (.box [.list (.int .u8), .int .i64, .int .i64, .own 137439002625, .int .i64, .int .i64]), some (.row (.named 1) true), some (.box [.int .i64, .int .i64, .bool, .bool, .int .i64]), some (.row (.named 2) true), some (.box [.int .i64, .int .i64, .int .i64, .bool]), some (.box [.int .i64, .str, .int .i64, .bool, .bool])] y) K := by kernel_rfl
theorem f88_2_j12_d_ok {R : Type} (g_f101_3 : Nat → f101_3_T R) (h_f101_3 : ∀ (k : Nat) (e : Dr D R), FnOk Try.prog cx 101 e → FnOk Try.prog cx 101 (f101_3_d (g_f101_3 k) e)) (k : Nat) : JoinOk Try.prog cx 167 2 f88_2_ann (f88_2_j12_d (R := R) (f88_2_j12_c (R := R) g_f101_3) k) f88_2_j12_b :=
  join_ok (keep := kp) (lrc := f88_2_j12_lrc (R := R) (f25 (R := R)) (f56_2 (R := R)) (f87_2 (R := R)) (f99_2 (R := R)) (f100 (R := R)) (f68 (R := R)) g_f101_3 k) cxOk mixed (f88_2_o_ok g_f101_3 h_f101_3 k) (show f88_2_ann (Am.keyOf f88_2_j12_b + 1000000) = some f88_2_j12_a by kernel_rfl) (L := []) (by kernel_rfl) trivial (J := []) (by kernel_rfl) trivial (LrcNat.no) (fun x y K => f88_2_j12_e (f25 (R := R)) (f56_2 (R := R)) (f87_2 (R := R)) (f99_2 (R := R)) (f100 (R := R)) (f68 (R := R)) g_f101_3 k x y K)
noncomputable def f88_2_j17_b : Code := joinAt f88_2_ann f88_2_b 6
noncomputable def f88_2_j17_g {R : Type} (g : Nat → f88_2_j17_T R) (k : Nat) (x : f88_2_j17_X) (y : f88_2_j17_Y) (K : KX R) : Option R := g k x.2.2.2.1 x.2.2.2.2.2.2.1 x.2.2.2.2.2.2.2.1 y.1.1 y.1.2.1 y.1.2.2.1 y.1.2.2.2.2.1 y.1.2.2.2.2.2.1 y.2.1 y.2.2.1.1 y.2.2.1.2.1 y.2.2.1.2.2.1 y.2.2.1.2.2.2.1 y.2.2.1.2.2.2.2.1 y.2.2.2.1 y.2.2.2.2.1.1 y.2.2.2.2.1.2.1 y.2.2.2.2.1.2.2.1 y.2.2.2.2.1.2.2.2.1 y.2.2.2.2.2.1.1 y.2.2.2.2.2.1.2.1 y.2.2.2.2.2.1.2.2.1 y.2.2.2.2.2.1.2.2.2.1 y.2.2.2.2.2.1.2.2.2.2.1 (fun z0 z1 z2 z3 z4 z5 z6 z7 z8 z9 z10 z11 z12 z13 z14 z15 z16 z17 z18 z19 z20 z21 z22 => K (.normal) [.ptr 0 0, .ptr 65600 0, .own 137439024128, .ptr 393344 0, .ptr 524432 0, .bool z0, .bool z1] [some (.box [.list (.int .u8) z2, .int .i64 z3, .int .i64 z4, .own 137439024129, .int .i64 z5, .int .i64 z6]), some (.row (.named 1) z7 true), some (.box [.int .i64 z8, .int .i64 z9, .bool z10, .bool z11, .int .i64 z12]), some (.row (.named 2) z13 true), some (.box [.int .i64 z14, .int .i64 z15, .int .i64 z16, .bool z17]), some (.box [.int .i64 z18, .str z19, .int .i64 z20, .bool z21, .bool z22])])
noncomputable def f88_2_j17_d {R : Type} (g : Nat → f88_2_j17_T R) (k : Nat) : Lr D R := ldoor [.ptr 0 0, .ptr 65600 0, .own 137439023104, .bool, .ptr 393344 0, .ptr 524432 0, .bool, .bool] [some (.box [.list (.int .u8), .int .i64, .int .i64, .own 137439023105, .int .i64, .int .i64]), some (.row (.named 1) true), some (.box [.int .i64, .int .i64, .bool, .bool, .int .i64]), some (.row (.named 2) true), some (.box [.int .i64, .int .i64, .int .i64, .bool]), some (.box [.int .i64, .str, .int .i64, .bool, .bool])] (f88_2_j17_g g k)
noncomputable def f88_2_j17_lrc {R : Type} (_g_f25 : Nat → f25_T R) (_g_f56_2 : Nat → f56_2_T R) (_g_f87_2 : Nat → f87_2_T R) (_g_f99_2 : Nat → f99_2_T R) (_g_f100 : Nat → f100_T R) (_g_f68 : Nat → f68_T R) (_g_f101_3 : Nat → f101_3_T R) (_g_f88_2_j12 : Nat → f88_2_j12_T R) (_k : Nat) : Lrc D R := noLrc
theorem f88_2_j17_e {R : Type} (g_f25 : Nat → f25_T R) (g_f56_2 : Nat → f56_2_T R) (g_f87_2 : Nat → f87_2_T R) (g_f99_2 : Nat → f99_2_T R) (g_f100 : Nat → f100_T R) (g_f68 : Nat → f68_T R) (g_f101_3 : Nat → f101_3_T R) (g_f88_2_j12 : Nat → f88_2_j12_T R) (k : Nat) (x : f88_2_j17_X) (y : f88_2_j17_Y) (K : KX R) : f88_2_j17_g (f88_2_j17 g_f25 g_f56_2 g_f87_2 g_f99_2 g_f100 g_f68 g_f101_3 g_f88_2_j12) k x y K = tailR cx (f88_2_o g_f25 g_f56_2 g_f87_2 g_f99_2 g_f100 g_f68 g_f101_3 k) (f88_2_j17_lrc g_f25 g_f56_2 g_f87_2 g_f99_2 g_f100 g_f68 g_f101_3 g_f88_2_j12 k) f88_2_ann kp 167 2 f88_2_j17_a f88_2_j17_b (gives (D := D) [.ptr 0 0, .ptr 65600 0, .own 137439023104, .bool, .ptr 393344 0, .ptr 524432 0, .bool, .bool] x) (giveGs (D := D) [some (.box [.list (.int .u8), .int .i64, .int .i64, .own 137439023105, .int .i64, .int .i64]), some (.row (.named 1) true), some (.box [.int .i64, .int .i64, .bool, .bool, .int .i64]), some (.row (.named 2) true), some (.box [.int .i64, .int .i64, .int .i64, .bool]), some (.box [.int .i64, .str, .int .i64, .bool, .bool])] y) K := by kernel_rfl
theorem f88_2_j17_d_ok {R : Type} (g_f101_3 : Nat → f101_3_T R) (h_f101_3 : ∀ (k : Nat) (e : Dr D R), FnOk Try.prog cx 101 e → FnOk Try.prog cx 101 (f101_3_d (g_f101_3 k) e)) (k : Nat) : JoinOk Try.prog cx 167 2 f88_2_ann (f88_2_j17_d (R := R) (f88_2_j17_c (R := R) g_f101_3) k) f88_2_j17_b :=
  join_ok (keep := kp) (lrc := f88_2_j17_lrc (R := R) (f25 (R := R)) (f56_2 (R := R)) (f87_2 (R := R)) (f99_2 (R := R)) (f100 (R := R)) (f68 (R := R)) g_f101_3 (f88_2_j12_c (R := R) g_f101_3) k) cxOk mixed (f88_2_o_ok g_f101_3 h_f101_3 k) (show f88_2_ann (Am.keyOf f88_2_j17_b + 1000000) = some f88_2_j17_a by kernel_rfl) (L := []) (by kernel_rfl) trivial (J := []) (by kernel_rfl) trivial (LrcNat.no) (fun x y K => f88_2_j17_e (f25 (R := R)) (f56_2 (R := R)) (f87_2 (R := R)) (f99_2 (R := R)) (f100 (R := R)) (f68 (R := R)) g_f101_3 (f88_2_j12_c (R := R) g_f101_3) k x y K)
noncomputable def f88_2_j18_b : Code := joinAt f88_2_ann f88_2_b 7
noncomputable def f88_2_j18_g {R : Type} (g : Nat → f88_2_j18_T R) (k : Nat) (x : f88_2_j18_X) (y : f88_2_j18_Y) (K : KX R) : Option R := g k x.2.2.2.2.2.1 x.2.2.2.2.2.2.1 y.1.1 y.1.2.1 y.1.2.2.1 y.1.2.2.2.2.1 y.1.2.2.2.2.2.1 y.2.1 y.2.2.1.1 y.2.2.1.2.1 y.2.2.1.2.2.1 y.2.2.1.2.2.2.1 y.2.2.1.2.2.2.2.1 y.2.2.2.1 y.2.2.2.2.1.1 y.2.2.2.2.1.2.1 y.2.2.2.2.1.2.2.1 y.2.2.2.2.1.2.2.2.1 y.2.2.2.2.2.1.1 y.2.2.2.2.2.1.2.1 y.2.2.2.2.2.1.2.2.1 y.2.2.2.2.2.1.2.2.2.1 y.2.2.2.2.2.1.2.2.2.2.1 (fun z0 z1 z2 z3 z4 z5 z6 z7 z8 z9 z10 z11 z12 z13 z14 z15 z16 z17 z18 z19 z20 z21 => K (.normal) [.ptr 0 0, .ptr 65600 0, .own 137439028224, .ptr 393344 0, .ptr 524432 0, .bool z0] [some (.box [.list (.int .u8) z1, .int .i64 z2, .int .i64 z3, .own 137439028225, .int .i64 z4, .int .i64 z5]), some (.row (.named 1) z6 true), some (.box [.int .i64 z7, .int .i64 z8, .bool z9, .bool z10, .int .i64 z11]), some (.row (.named 2) z12 true), some (.box [.int .i64 z13, .int .i64 z14, .int .i64 z15, .bool z16]), some (.box [.int .i64 z17, .str z18, .int .i64 z19, .bool z20, .bool z21])])
noncomputable def f88_2_j18_d {R : Type} (g : Nat → f88_2_j18_T R) (k : Nat) : Lr D R := ldoor [.ptr 0 0, .ptr 65600 0, .own 137439027200, .ptr 393344 0, .ptr 524432 0, .bool, .bool] [some (.box [.list (.int .u8), .int .i64, .int .i64, .own 137439027201, .int .i64, .int .i64]), some (.row (.named 1) true), some (.box [.int .i64, .int .i64, .bool, .bool, .int .i64]), some (.row (.named 2) true), some (.box [.int .i64, .int .i64, .int .i64, .bool]), some (.box [.int .i64, .str, .int .i64, .bool, .bool])] (f88_2_j18_g g k)
noncomputable def f88_2_j18_lrc {R : Type} (_g_f25 : Nat → f25_T R) (_g_f56_2 : Nat → f56_2_T R) (_g_f87_2 : Nat → f87_2_T R) (_g_f99_2 : Nat → f99_2_T R) (_g_f100 : Nat → f100_T R) (_g_f68 : Nat → f68_T R) (_g_f101_3 : Nat → f101_3_T R) (_g_f88_2_j12 : Nat → f88_2_j12_T R) (_g_f88_2_j17 : Nat → f88_2_j17_T R) (_k : Nat) : Lrc D R := noLrc
theorem f88_2_j18_e {R : Type} (g_f25 : Nat → f25_T R) (g_f56_2 : Nat → f56_2_T R) (g_f87_2 : Nat → f87_2_T R) (g_f99_2 : Nat → f99_2_T R) (g_f100 : Nat → f100_T R) (g_f68 : Nat → f68_T R) (g_f101_3 : Nat → f101_3_T R) (g_f88_2_j12 : Nat → f88_2_j12_T R) (g_f88_2_j17 : Nat → f88_2_j17_T R) (k : Nat) (x : f88_2_j18_X) (y : f88_2_j18_Y) (K : KX R) : f88_2_j18_g (f88_2_j18 g_f25 g_f56_2 g_f87_2 g_f99_2 g_f100 g_f68 g_f101_3 g_f88_2_j12 g_f88_2_j17) k x y K = tailR cx (f88_2_o g_f25 g_f56_2 g_f87_2 g_f99_2 g_f100 g_f68 g_f101_3 k) (f88_2_j18_lrc g_f25 g_f56_2 g_f87_2 g_f99_2 g_f100 g_f68 g_f101_3 g_f88_2_j12 g_f88_2_j17 k) f88_2_ann kp 167 2 f88_2_j18_a f88_2_j18_b (gives (D := D) [.ptr 0 0, .ptr 65600 0, .own 137439027200, .ptr 393344 0, .ptr 524432 0, .bool, .bool] x) (giveGs (D := D) [some (.box [.list (.int .u8), .int .i64, .int .i64, .own 137439027201, .int .i64, .int .i64]), some (.row (.named 1) true), some (.box [.int .i64, .int .i64, .bool, .bool, .int .i64]), some (.row (.named 2) true), some (.box [.int .i64, .int .i64, .int .i64, .bool]), some (.box [.int .i64, .str, .int .i64, .bool, .bool])] y) K := by kernel_rfl
theorem f88_2_j18_d_ok {R : Type} (g_f101_3 : Nat → f101_3_T R) (h_f101_3 : ∀ (k : Nat) (e : Dr D R), FnOk Try.prog cx 101 e → FnOk Try.prog cx 101 (f101_3_d (g_f101_3 k) e)) (k : Nat) : JoinOk Try.prog cx 167 2 f88_2_ann (f88_2_j18_d (R := R) (f88_2_j18_c (R := R) g_f101_3) k) f88_2_j18_b :=
  join_ok (keep := kp) (lrc := f88_2_j18_lrc (R := R) (f25 (R := R)) (f56_2 (R := R)) (f87_2 (R := R)) (f99_2 (R := R)) (f100 (R := R)) (f68 (R := R)) g_f101_3 (f88_2_j12_c (R := R) g_f101_3) (f88_2_j17_c (R := R) g_f101_3) k) cxOk mixed (f88_2_o_ok g_f101_3 h_f101_3 k) (show f88_2_ann (Am.keyOf f88_2_j18_b + 1000000) = some f88_2_j18_a by kernel_rfl) (L := []) (by kernel_rfl) trivial (J := []) (by kernel_rfl) trivial (LrcNat.no) (fun x y K => f88_2_j18_e (f25 (R := R)) (f56_2 (R := R)) (f87_2 (R := R)) (f99_2 (R := R)) (f100 (R := R)) (f68 (R := R)) g_f101_3 (f88_2_j12_c (R := R) g_f101_3) (f88_2_j17_c (R := R) g_f101_3) k x y K)
noncomputable def f88_2_j15_b : Code := joinAt f88_2_ann f88_2_b 5
noncomputable def f88_2_j15_g {R : Type} (g : Nat → f88_2_j15_T R) (k : Nat) (x : f88_2_j15_X) (y : f88_2_j15_Y) (K : KX R) : Option R := g k x.2.2.2.1 x.2.2.2.2.2.2.1 x.2.2.2.2.2.2.2.1 y.1.1 y.1.2.1 y.1.2.2.1 y.1.2.2.2.2.1 y.1.2.2.2.2.2.1 y.2.1 y.2.2.1.1 y.2.2.1.2.1 y.2.2.1.2.2.1 y.2.2.1.2.2.2.1 y.2.2.1.2.2.2.2.1 y.2.2.2.1 y.2.2.2.2.1.1 y.2.2.2.2.1.2.1 y.2.2.2.2.1.2.2.1 y.2.2.2.2.1.2.2.2.1 y.2.2.2.2.2.1.1 y.2.2.2.2.2.1.2.1 y.2.2.2.2.2.1.2.2.1 y.2.2.2.2.2.1.2.2.2.1 y.2.2.2.2.2.1.2.2.2.2.1 (fun z0 z1 z2 z3 z4 z5 z6 z7 z8 z9 z10 z11 z12 z13 z14 z15 z16 z17 z18 z19 z20 z21 => K (.normal) [.ptr 0 0, .ptr 65600 0, .own 137439015936, .ptr 393344 0, .ptr 524432 0, .bool z0] [some (.box [.list (.int .u8) z1, .int .i64 z2, .int .i64 z3, .own 137439015937, .int .i64 z4, .int .i64 z5]), some (.row (.named 1) z6 true), some (.box [.int .i64 z7, .int .i64 z8, .bool z9, .bool z10, .int .i64 z11]), some (.row (.named 2) z12 true), some (.box [.int .i64 z13, .int .i64 z14, .int .i64 z15, .bool z16]), some (.box [.int .i64 z17, .str z18, .int .i64 z19, .bool z20, .bool z21])])
noncomputable def f88_2_j15_d {R : Type} (g : Nat → f88_2_j15_T R) (k : Nat) : Lr D R := ldoor [.ptr 0 0, .ptr 65600 0, .own 137439014912, .bool, .ptr 393344 0, .ptr 524432 0, .bool, .bool] [some (.box [.list (.int .u8), .int .i64, .int .i64, .own 137439014913, .int .i64, .int .i64]), some (.row (.named 1) true), some (.box [.int .i64, .int .i64, .bool, .bool, .int .i64]), some (.row (.named 2) true), some (.box [.int .i64, .int .i64, .int .i64, .bool]), some (.box [.int .i64, .str, .int .i64, .bool, .bool])] (f88_2_j15_g g k)
noncomputable def f88_2_j15_lrc {R : Type} (_g_f25 : Nat → f25_T R) (_g_f56_2 : Nat → f56_2_T R) (_g_f87_2 : Nat → f87_2_T R) (_g_f99_2 : Nat → f99_2_T R) (_g_f100 : Nat → f100_T R) (_g_f68 : Nat → f68_T R) (_g_f101_3 : Nat → f101_3_T R) (_g_f88_2_j12 : Nat → f88_2_j12_T R) (g_f88_2_j17 : Nat → f88_2_j17_T R) (g_f88_2_j18 : Nat → f88_2_j18_T R) (k : Nat) : Lrc D R := (lrcAdd 1000018 (f88_2_j18_d g_f88_2_j18 k) (lrcAdd 1000017 (f88_2_j17_d g_f88_2_j17 k) noLrc))
theorem f88_2_j15_e {R : Type} (g_f25 : Nat → f25_T R) (g_f56_2 : Nat → f56_2_T R) (g_f87_2 : Nat → f87_2_T R) (g_f99_2 : Nat → f99_2_T R) (g_f100 : Nat → f100_T R) (g_f68 : Nat → f68_T R) (g_f101_3 : Nat → f101_3_T R) (g_f88_2_j12 : Nat → f88_2_j12_T R) (g_f88_2_j17 : Nat → f88_2_j17_T R) (g_f88_2_j18 : Nat → f88_2_j18_T R) (k : Nat) (x : f88_2_j15_X) (y : f88_2_j15_Y) (K : KX R) : f88_2_j15_g (f88_2_j15 g_f25 g_f56_2 g_f87_2 g_f99_2 g_f100 g_f68 g_f101_3 g_f88_2_j12 g_f88_2_j17 g_f88_2_j18) k x y K = tailR cx (f88_2_o g_f25 g_f56_2 g_f87_2 g_f99_2 g_f100 g_f68 g_f101_3 k) (f88_2_j15_lrc g_f25 g_f56_2 g_f87_2 g_f99_2 g_f100 g_f68 g_f101_3 g_f88_2_j12 g_f88_2_j17 g_f88_2_j18 k) f88_2_ann kp 167 2 f88_2_j15_a f88_2_j15_b (gives (D := D) [.ptr 0 0, .ptr 65600 0, .own 137439014912, .bool, .ptr 393344 0, .ptr 524432 0, .bool, .bool] x) (giveGs (D := D) [some (.box [.list (.int .u8), .int .i64, .int .i64, .own 137439014913, .int .i64, .int .i64]), some (.row (.named 1) true), some (.box [.int .i64, .int .i64, .bool, .bool, .int .i64]), some (.row (.named 2) true), some (.box [.int .i64, .int .i64, .int .i64, .bool]), some (.box [.int .i64, .str, .int .i64, .bool, .bool])] y) K := by kernel_rfl
theorem f88_2_j15_d_ok {R : Type} (g_f101_3 : Nat → f101_3_T R) (h_f101_3 : ∀ (k : Nat) (e : Dr D R), FnOk Try.prog cx 101 e → FnOk Try.prog cx 101 (f101_3_d (g_f101_3 k) e)) (k : Nat) : JoinOk Try.prog cx 167 2 f88_2_ann (f88_2_j15_d (R := R) (f88_2_j15_c (R := R) g_f101_3) k) f88_2_j15_b :=
  join_ok (keep := kp) (lrc := f88_2_j15_lrc (R := R) (f25 (R := R)) (f56_2 (R := R)) (f87_2 (R := R)) (f99_2 (R := R)) (f100 (R := R)) (f68 (R := R)) g_f101_3 (f88_2_j12_c (R := R) g_f101_3) (f88_2_j17_c (R := R) g_f101_3) (f88_2_j18_c (R := R) g_f101_3) k) cxOk mixed (f88_2_o_ok g_f101_3 h_f101_3 k) (show f88_2_ann (Am.keyOf f88_2_j15_b + 1000000) = some f88_2_j15_a by kernel_rfl) (L := []) (by kernel_rfl) trivial (J := [f88_2_j17_b, f88_2_j18_b]) (by kernel_rfl) (⟨(f88_2_j17_d_ok g_f101_3 h_f101_3 k).use (by kernel_rfl), (f88_2_j18_d_ok g_f101_3 h_f101_3 k).use (by kernel_rfl), trivial⟩) ((LrcNat.add (f88_2_j18_d_ok g_f101_3 h_f101_3 k).2 (LrcNat.add (f88_2_j17_d_ok g_f101_3 h_f101_3 k).2 LrcNat.no))) (fun x y K => f88_2_j15_e (f25 (R := R)) (f56_2 (R := R)) (f87_2 (R := R)) (f99_2 (R := R)) (f100 (R := R)) (f68 (R := R)) g_f101_3 (f88_2_j12_c (R := R) g_f101_3) (f88_2_j17_c (R := R) g_f101_3) (f88_2_j18_c (R := R) g_f101_3) k x y K)
noncomputable def f88_2_j13_b : Code := joinAt f88_2_ann f88_2_b 4
noncomputable def f88_2_j13_g {R : Type} (g : Nat → f88_2_j13_T R) (k : Nat) (x : f88_2_j13_X) (y : f88_2_j13_Y) (K : KX R) : Option R := g k x.2.2.2.1 x.2.2.2.2.2.2.1 x.2.2.2.2.2.2.2.1 x.2.2.2.2.2.2.2.2.1 y.1.1 y.1.2.1 y.1.2.2.1 y.1.2.2.2.2.1 y.1.2.2.2.2.2.1 y.2.1 y.2.2.1.1 y.2.2.1.2.1 y.2.2.1.2.2.1 y.2.2.1.2.2.2.1 y.2.2.1.2.2.2.2.1 y.2.2.2.1 y.2.2.2.2.1.1 y.2.2.2.2.1.2.1 y.2.2.2.2.1.2.2.1 y.2.2.2.2.1.2.2.2.1 y.2.2.2.2.2.1.1 y.2.2.2.2.2.1.2.1 y.2.2.2.2.2.1.2.2.1 y.2.2.2.2.2.1.2.2.2.1 y.2.2.2.2.2.1.2.2.2.2.1 (fun z0 z1 z2 z3 z4 z5 z6 z7 z8 z9 z10 z11 z12 z13 z14 z15 z16 z17 z18 z19 z20 z21 => K (.normal) [.ptr 0 0, .ptr 65600 0, .own 137439007744, .ptr 393344 0, .ptr 524432 0, .bool z0] [some (.box [.list (.int .u8) z1, .int .i64 z2, .int .i64 z3, .own 137439007745, .int .i64 z4, .int .i64 z5]), some (.row (.named 1) z6 true), some (.box [.int .i64 z7, .int .i64 z8, .bool z9, .bool z10, .int .i64 z11]), some (.row (.named 2) z12 true), some (.box [.int .i64 z13, .int .i64 z14, .int .i64 z15, .bool z16]), some (.box [.int .i64 z17, .str z18, .int .i64 z19, .bool z20, .bool z21])])
noncomputable def f88_2_j13_d {R : Type} (g : Nat → f88_2_j13_T R) (k : Nat) : Lr D R := ldoor [.ptr 0 0, .ptr 65600 0, .own 137439006720, .bool, .ptr 393344 0, .ptr 524432 0, .bool, .int .i64, .bool] [some (.box [.list (.int .u8), .int .i64, .int .i64, .own 137439006721, .int .i64, .int .i64]), some (.row (.named 1) true), some (.box [.int .i64, .int .i64, .bool, .bool, .int .i64]), some (.row (.named 2) true), some (.box [.int .i64, .int .i64, .int .i64, .bool]), some (.box [.int .i64, .str, .int .i64, .bool, .bool])] (f88_2_j13_g g k)
noncomputable def f88_2_j13_lrc {R : Type} (_g_f25 : Nat → f25_T R) (_g_f56_2 : Nat → f56_2_T R) (_g_f87_2 : Nat → f87_2_T R) (_g_f99_2 : Nat → f99_2_T R) (_g_f100 : Nat → f100_T R) (_g_f68 : Nat → f68_T R) (_g_f101_3 : Nat → f101_3_T R) (_g_f88_2_j12 : Nat → f88_2_j12_T R) (g_f88_2_j17 : Nat → f88_2_j17_T R) (g_f88_2_j18 : Nat → f88_2_j18_T R) (g_f88_2_j15 : Nat → f88_2_j15_T R) (k : Nat) : Lrc D R := (lrcAdd 1000018 (f88_2_j18_d g_f88_2_j18 k) (lrcAdd 1000017 (f88_2_j17_d g_f88_2_j17 k) (lrcAdd 1000015 (f88_2_j15_d g_f88_2_j15 k) noLrc)))
theorem f88_2_j13_e {R : Type} (g_f25 : Nat → f25_T R) (g_f56_2 : Nat → f56_2_T R) (g_f87_2 : Nat → f87_2_T R) (g_f99_2 : Nat → f99_2_T R) (g_f100 : Nat → f100_T R) (g_f68 : Nat → f68_T R) (g_f101_3 : Nat → f101_3_T R) (g_f88_2_j12 : Nat → f88_2_j12_T R) (g_f88_2_j17 : Nat → f88_2_j17_T R) (g_f88_2_j18 : Nat → f88_2_j18_T R) (g_f88_2_j15 : Nat → f88_2_j15_T R) (k : Nat) (x : f88_2_j13_X) (y : f88_2_j13_Y) (K : KX R) : f88_2_j13_g (f88_2_j13 g_f25 g_f56_2 g_f87_2 g_f99_2 g_f100 g_f68 g_f101_3 g_f88_2_j12 g_f88_2_j17 g_f88_2_j18 g_f88_2_j15) k x y K = tailR cx (f88_2_o g_f25 g_f56_2 g_f87_2 g_f99_2 g_f100 g_f68 g_f101_3 k) (f88_2_j13_lrc g_f25 g_f56_2 g_f87_2 g_f99_2 g_f100 g_f68 g_f101_3 g_f88_2_j12 g_f88_2_j17 g_f88_2_j18 g_f88_2_j15 k) f88_2_ann kp 167 2 f88_2_j13_a f88_2_j13_b (gives (D := D) [.ptr 0 0, .ptr 65600 0, .own 137439006720, .bool, .ptr 393344 0, .ptr 524432 0, .bool, .int .i64, .bool] x) (giveGs (D := D) [some (.box [.list (.int .u8), .int .i64, .int .i64, .own 137439006721, .int .i64, .int .i64]), some (.row (.named 1) true), some (.box [.int .i64, .int .i64, .bool, .bool, .int .i64]), some (.row (.named 2) true), some (.box [.int .i64, .int .i64, .int .i64, .bool]), some (.box [.int .i64, .str, .int .i64, .bool, .bool])] y) K := by kernel_rfl
theorem f88_2_j13_d_ok {R : Type} (g_f101_3 : Nat → f101_3_T R) (h_f101_3 : ∀ (k : Nat) (e : Dr D R), FnOk Try.prog cx 101 e → FnOk Try.prog cx 101 (f101_3_d (g_f101_3 k) e)) (k : Nat) : JoinOk Try.prog cx 167 2 f88_2_ann (f88_2_j13_d (R := R) (f88_2_j13_c (R := R) g_f101_3) k) f88_2_j13_b :=
  join_ok (keep := kp) (lrc := f88_2_j13_lrc (R := R) (f25 (R := R)) (f56_2 (R := R)) (f87_2 (R := R)) (f99_2 (R := R)) (f100 (R := R)) (f68 (R := R)) g_f101_3 (f88_2_j12_c (R := R) g_f101_3) (f88_2_j17_c (R := R) g_f101_3) (f88_2_j18_c (R := R) g_f101_3) (f88_2_j15_c (R := R) g_f101_3) k) cxOk mixed (f88_2_o_ok g_f101_3 h_f101_3 k) (show f88_2_ann (Am.keyOf f88_2_j13_b + 1000000) = some f88_2_j13_a by kernel_rfl) (L := []) (by kernel_rfl) trivial (J := [f88_2_j15_b, f88_2_j17_b, f88_2_j18_b]) (by kernel_rfl) (⟨(f88_2_j15_d_ok g_f101_3 h_f101_3 k).use (by kernel_rfl), (f88_2_j17_d_ok g_f101_3 h_f101_3 k).use (by kernel_rfl), (f88_2_j18_d_ok g_f101_3 h_f101_3 k).use (by kernel_rfl), trivial⟩) ((LrcNat.add (f88_2_j18_d_ok g_f101_3 h_f101_3 k).2 (LrcNat.add (f88_2_j17_d_ok g_f101_3 h_f101_3 k).2 (LrcNat.add (f88_2_j15_d_ok g_f101_3 h_f101_3 k).2 LrcNat.no)))) (fun x y K => f88_2_j13_e (f25 (R := R)) (f56_2 (R := R)) (f87_2 (R := R)) (f99_2 (R := R)) (f100 (R := R)) (f68 (R := R)) g_f101_3 (f88_2_j12_c (R := R) g_f101_3) (f88_2_j17_c (R := R) g_f101_3) (f88_2_j18_c (R := R) g_f101_3) (f88_2_j15_c (R := R) g_f101_3) k x y K)
noncomputable def f88_2_j23_b : Code := joinAt f88_2_ann f88_2_b 8
noncomputable def f88_2_j23_g {R : Type} (g : Nat → f88_2_j23_T R) (k : Nat) (x : f88_2_j23_X) (y : f88_2_j23_Y) (K : KX R) : Option R := g k x.2.2.2.2.2.1 y.1.1 y.1.2.1 y.1.2.2.1 y.1.2.2.2.2.1 y.1.2.2.2.2.2.1 y.2.1 y.2.2.1.1 y.2.2.1.2.1 y.2.2.1.2.2.1 y.2.2.1.2.2.2.1 y.2.2.1.2.2.2.2.1 y.2.2.2.1 y.2.2.2.2.1.1 y.2.2.2.2.1.2.1 y.2.2.2.2.1.2.2.1 y.2.2.2.2.1.2.2.2.1 y.2.2.2.2.2.1.1 y.2.2.2.2.2.1.2.1 y.2.2.2.2.2.1.2.2.1 y.2.2.2.2.2.1.2.2.2.1 y.2.2.2.2.2.1.2.2.2.2.1 (fun z0 z1 z2 z3 z4 z5 z6 => K (.exit 0) [.own 137439048704] [some (.row (.named 2) z0 true), some (.box [.list (.int .u8) z1, .int .i64 z2, .int .i64 z3, .own 137439048705, .int .i64 z4, .int .i64 z5]), some (.row (.named 1) z6 true)]) (fun z0 z1 z2 z3 z4 z5 z6 z7 z8 z9 z10 z11 => K (.normal) [.ptr 0 0, .ptr 65600 0, .own 137439049728] [some (.box [.list (.int .u8) z0, .int .i64 z1, .int .i64 z2, .own 1640946, .int .i64 z3, .int .i64 z4]), some (.row (.named 1) z5 true), some (.box [.int .i64 z6, .int .i64 z7, .bool z8, .bool z9, .int .i64 z10]), some (.row (.named 2) z11 true)])
noncomputable def f88_2_j23_d {R : Type} (g : Nat → f88_2_j23_T R) (k : Nat) : Lr D R := ldoor [.ptr 0 0, .ptr 65600 0, .own 137439047680, .ptr 393344 0, .ptr 524432 0, .bool] [some (.box [.list (.int .u8), .int .i64, .int .i64, .own 137439047681, .int .i64, .int .i64]), some (.row (.named 1) true), some (.box [.int .i64, .int .i64, .bool, .bool, .int .i64]), some (.row (.named 2) true), some (.box [.int .i64, .int .i64, .int .i64, .bool]), some (.box [.int .i64, .str, .int .i64, .bool, .bool])] (f88_2_j23_g g k)
noncomputable def f88_2_j23_lrc {R : Type} (_g_f25 : Nat → f25_T R) (_g_f56_2 : Nat → f56_2_T R) (_g_f87_2 : Nat → f87_2_T R) (_g_f99_2 : Nat → f99_2_T R) (_g_f100 : Nat → f100_T R) (_g_f68 : Nat → f68_T R) (_g_f101_3 : Nat → f101_3_T R) (_g_f88_2_j12 : Nat → f88_2_j12_T R) (_g_f88_2_j17 : Nat → f88_2_j17_T R) (_g_f88_2_j18 : Nat → f88_2_j18_T R) (_g_f88_2_j15 : Nat → f88_2_j15_T R) (_g_f88_2_j13 : Nat → f88_2_j13_T R) (_k : Nat) : Lrc D R := noLrc
theorem f88_2_j23_e {R : Type} (g_f25 : Nat → f25_T R) (g_f56_2 : Nat → f56_2_T R) (g_f87_2 : Nat → f87_2_T R) (g_f99_2 : Nat → f99_2_T R) (g_f100 : Nat → f100_T R) (g_f68 : Nat → f68_T R) (g_f101_3 : Nat → f101_3_T R) (g_f88_2_j12 : Nat → f88_2_j12_T R) (g_f88_2_j17 : Nat → f88_2_j17_T R) (g_f88_2_j18 : Nat → f88_2_j18_T R) (g_f88_2_j15 : Nat → f88_2_j15_T R) (g_f88_2_j13 : Nat → f88_2_j13_T R) (k : Nat) (x : f88_2_j23_X) (y : f88_2_j23_Y) (K : KX R) : f88_2_j23_g (f88_2_j23 g_f25 g_f56_2 g_f87_2 g_f99_2 g_f100 g_f68 g_f101_3 g_f88_2_j12 g_f88_2_j17 g_f88_2_j18 g_f88_2_j15 g_f88_2_j13) k x y K = tailR cx (f88_2_o g_f25 g_f56_2 g_f87_2 g_f99_2 g_f100 g_f68 g_f101_3 k) (f88_2_j23_lrc g_f25 g_f56_2 g_f87_2 g_f99_2 g_f100 g_f68 g_f101_3 g_f88_2_j12 g_f88_2_j17 g_f88_2_j18 g_f88_2_j15 g_f88_2_j13 k) f88_2_ann kp 167 2 f88_2_j23_a f88_2_j23_b (gives (D := D) [.ptr 0 0, .ptr 65600 0, .own 137439047680, .ptr 393344 0, .ptr 524432 0, .bool] x) (giveGs (D := D) [some (.box [.list (.int .u8), .int .i64, .int .i64, .own 137439047681, .int .i64, .int .i64]), some (.row (.named 1) true), some (.box [.int .i64, .int .i64, .bool, .bool, .int .i64]), some (.row (.named 2) true), some (.box [.int .i64, .int .i64, .int .i64, .bool]), some (.box [.int .i64, .str, .int .i64, .bool, .bool])] y) K := by kernel_rfl
theorem f88_2_j23_d_ok {R : Type} (g_f101_3 : Nat → f101_3_T R) (h_f101_3 : ∀ (k : Nat) (e : Dr D R), FnOk Try.prog cx 101 e → FnOk Try.prog cx 101 (f101_3_d (g_f101_3 k) e)) (k : Nat) : JoinOk Try.prog cx 167 2 f88_2_ann (f88_2_j23_d (R := R) (f88_2_j23_c (R := R) g_f101_3) k) f88_2_j23_b :=
  join_ok (keep := kp) (lrc := f88_2_j23_lrc (R := R) (f25 (R := R)) (f56_2 (R := R)) (f87_2 (R := R)) (f99_2 (R := R)) (f100 (R := R)) (f68 (R := R)) g_f101_3 (f88_2_j12_c (R := R) g_f101_3) (f88_2_j17_c (R := R) g_f101_3) (f88_2_j18_c (R := R) g_f101_3) (f88_2_j15_c (R := R) g_f101_3) (f88_2_j13_c (R := R) g_f101_3) k) cxOk mixed (f88_2_o_ok g_f101_3 h_f101_3 k) (show f88_2_ann (Am.keyOf f88_2_j23_b + 1000000) = some f88_2_j23_a by kernel_rfl) (L := []) (by kernel_rfl) trivial (J := []) (by kernel_rfl) trivial (LrcNat.no) (fun x y K => f88_2_j23_e (f25 (R := R)) (f56_2 (R := R)) (f87_2 (R := R)) (f99_2 (R := R)) (f100 (R := R)) (f68 (R := R)) g_f101_3 (f88_2_j12_c (R := R) g_f101_3) (f88_2_j17_c (R := R) g_f101_3) (f88_2_j18_c (R := R) g_f101_3) (f88_2_j15_c (R := R) g_f101_3) (f88_2_j13_c (R := R) g_f101_3) k x y K)
noncomputable def f88_2_j10_b : Code := joinAt f88_2_ann f88_2_b 2
noncomputable def f88_2_j10_g {R : Type} (g : Nat → f88_2_j10_T R) (k : Nat) (x : f88_2_j10_X) (y : f88_2_j10_Y) (K : KX R) : Option R := g k x.2.2.2.1 x.2.2.2.2.2.2.1 y.1.1 y.1.2.1 y.1.2.2.1 y.1.2.2.2.2.1 y.1.2.2.2.2.2.1 y.2.1 y.2.2.1.1 y.2.2.1.2.1 y.2.2.1.2.2.1 y.2.2.1.2.2.2.1 y.2.2.1.2.2.2.2.1 y.2.2.2.1 y.2.2.2.2.1.1 y.2.2.2.2.1.2.1 y.2.2.2.2.1.2.2.1 y.2.2.2.2.1.2.2.2.1 y.2.2.2.2.2.1.1 y.2.2.2.2.2.1.2.1 y.2.2.2.2.2.1.2.2.1 y.2.2.2.2.2.1.2.2.2.1 y.2.2.2.2.2.1.2.2.2.2.1 (fun z0 z1 z2 z3 z4 z5 z6 => K (.exit 0) [.own 137438995456] [some (.row (.named 2) z0 true), some (.box [.list (.int .u8) z1, .int .i64 z2, .int .i64 z3, .own 137438995457, .int .i64 z4, .int .i64 z5]), some (.row (.named 1) z6 true)]) (fun z0 z1 z2 z3 z4 z5 z6 z7 z8 z9 z10 z11 => K (.normal) [.ptr 0 0, .ptr 65600 0, .own 137439049728] [some (.box [.list (.int .u8) z0, .int .i64 z1, .int .i64 z2, .own 1640946, .int .i64 z3, .int .i64 z4]), some (.row (.named 1) z5 true), some (.box [.int .i64 z6, .int .i64 z7, .bool z8, .bool z9, .int .i64 z10]), some (.row (.named 2) z11 true)])
noncomputable def f88_2_j10_d {R : Type} (g : Nat → f88_2_j10_T R) (k : Nat) : Lr D R := ldoor [.ptr 0 0, .ptr 65600 0, .own 137438994432, .bool, .ptr 393344 0, .ptr 524432 0, .bool] [some (.box [.list (.int .u8), .int .i64, .int .i64, .own 137438994433, .int .i64, .int .i64]), some (.row (.named 1) true), some (.box [.int .i64, .int .i64, .bool, .bool, .int .i64]), some (.row (.named 2) true), some (.box [.int .i64, .int .i64, .int .i64, .bool]), some (.box [.int .i64, .str, .int .i64, .bool, .bool])] (f88_2_j10_g g k)
noncomputable def f88_2_j10_lrc {R : Type} (_g_f25 : Nat → f25_T R) (_g_f56_2 : Nat → f56_2_T R) (_g_f87_2 : Nat → f87_2_T R) (_g_f99_2 : Nat → f99_2_T R) (_g_f100 : Nat → f100_T R) (_g_f68 : Nat → f68_T R) (_g_f101_3 : Nat → f101_3_T R) (g_f88_2_j12 : Nat → f88_2_j12_T R) (g_f88_2_j17 : Nat → f88_2_j17_T R) (g_f88_2_j18 : Nat → f88_2_j18_T R) (g_f88_2_j15 : Nat → f88_2_j15_T R) (g_f88_2_j13 : Nat → f88_2_j13_T R) (g_f88_2_j23 : Nat → f88_2_j23_T R) (k : Nat) : Lrc D R := (lrcAdd 1000023 (f88_2_j23_d g_f88_2_j23 k) (lrcAdd 1000018 (f88_2_j18_d g_f88_2_j18 k) (lrcAdd 1000017 (f88_2_j17_d g_f88_2_j17 k) (lrcAdd 1000015 (f88_2_j15_d g_f88_2_j15 k) (lrcAdd 1000013 (f88_2_j13_d g_f88_2_j13 k) (lrcAdd 1000012 (f88_2_j12_d g_f88_2_j12 k) noLrc))))))
theorem f88_2_j10_e {R : Type} (g_f25 : Nat → f25_T R) (g_f56_2 : Nat → f56_2_T R) (g_f87_2 : Nat → f87_2_T R) (g_f99_2 : Nat → f99_2_T R) (g_f100 : Nat → f100_T R) (g_f68 : Nat → f68_T R) (g_f101_3 : Nat → f101_3_T R) (g_f88_2_j12 : Nat → f88_2_j12_T R) (g_f88_2_j17 : Nat → f88_2_j17_T R) (g_f88_2_j18 : Nat → f88_2_j18_T R) (g_f88_2_j15 : Nat → f88_2_j15_T R) (g_f88_2_j13 : Nat → f88_2_j13_T R) (g_f88_2_j23 : Nat → f88_2_j23_T R) (k : Nat) (x : f88_2_j10_X) (y : f88_2_j10_Y) (K : KX R) : f88_2_j10_g (f88_2_j10 g_f25 g_f56_2 g_f87_2 g_f99_2 g_f100 g_f68 g_f101_3 g_f88_2_j12 g_f88_2_j17 g_f88_2_j18 g_f88_2_j15 g_f88_2_j13 g_f88_2_j23) k x y K = tailR cx (f88_2_o g_f25 g_f56_2 g_f87_2 g_f99_2 g_f100 g_f68 g_f101_3 k) (f88_2_j10_lrc g_f25 g_f56_2 g_f87_2 g_f99_2 g_f100 g_f68 g_f101_3 g_f88_2_j12 g_f88_2_j17 g_f88_2_j18 g_f88_2_j15 g_f88_2_j13 g_f88_2_j23 k) f88_2_ann kp 167 2 f88_2_j10_a f88_2_j10_b (gives (D := D) [.ptr 0 0, .ptr 65600 0, .own 137438994432, .bool, .ptr 393344 0, .ptr 524432 0, .bool] x) (giveGs (D := D) [some (.box [.list (.int .u8), .int .i64, .int .i64, .own 137438994433, .int .i64, .int .i64]), some (.row (.named 1) true), some (.box [.int .i64, .int .i64, .bool, .bool, .int .i64]), some (.row (.named 2) true), some (.box [.int .i64, .int .i64, .int .i64, .bool]), some (.box [.int .i64, .str, .int .i64, .bool, .bool])] y) K := by kernel_rfl
theorem f88_2_j10_d_ok {R : Type} (g_f101_3 : Nat → f101_3_T R) (h_f101_3 : ∀ (k : Nat) (e : Dr D R), FnOk Try.prog cx 101 e → FnOk Try.prog cx 101 (f101_3_d (g_f101_3 k) e)) (k : Nat) : JoinOk Try.prog cx 167 2 f88_2_ann (f88_2_j10_d (R := R) (f88_2_j10_c (R := R) g_f101_3) k) f88_2_j10_b :=
  join_ok (keep := kp) (lrc := f88_2_j10_lrc (R := R) (f25 (R := R)) (f56_2 (R := R)) (f87_2 (R := R)) (f99_2 (R := R)) (f100 (R := R)) (f68 (R := R)) g_f101_3 (f88_2_j12_c (R := R) g_f101_3) (f88_2_j17_c (R := R) g_f101_3) (f88_2_j18_c (R := R) g_f101_3) (f88_2_j15_c (R := R) g_f101_3) (f88_2_j13_c (R := R) g_f101_3) (f88_2_j23_c (R := R) g_f101_3) k) cxOk mixed (f88_2_o_ok g_f101_3 h_f101_3 k) (show f88_2_ann (Am.keyOf f88_2_j10_b + 1000000) = some f88_2_j10_a by kernel_rfl) (L := []) (by kernel_rfl) trivial (J := [f88_2_j12_b, f88_2_j13_b, f88_2_j15_b, f88_2_j17_b, f88_2_j18_b, f88_2_j23_b]) (by kernel_rfl) (⟨(f88_2_j12_d_ok g_f101_3 h_f101_3 k).use (by kernel_rfl), (f88_2_j13_d_ok g_f101_3 h_f101_3 k).use (by kernel_rfl), (f88_2_j15_d_ok g_f101_3 h_f101_3 k).use (by kernel_rfl), (f88_2_j17_d_ok g_f101_3 h_f101_3 k).use (by kernel_rfl), (f88_2_j18_d_ok g_f101_3 h_f101_3 k).use (by kernel_rfl), (f88_2_j23_d_ok g_f101_3 h_f101_3 k).use (by kernel_rfl), trivial⟩) ((LrcNat.add (f88_2_j23_d_ok g_f101_3 h_f101_3 k).2 (LrcNat.add (f88_2_j18_d_ok g_f101_3 h_f101_3 k).2 (LrcNat.add (f88_2_j17_d_ok g_f101_3 h_f101_3 k).2 (LrcNat.add (f88_2_j15_d_ok g_f101_3 h_f101_3 k).2 (LrcNat.add (f88_2_j13_d_ok g_f101_3 h_f101_3 k).2 (LrcNat.add (f88_2_j12_d_ok g_f101_3 h_f101_3 k).2 LrcNat.no))))))) (fun x y K => f88_2_j10_e (f25 (R := R)) (f56_2 (R := R)) (f87_2 (R := R)) (f99_2 (R := R)) (f100 (R := R)) (f68 (R := R)) g_f101_3 (f88_2_j12_c (R := R) g_f101_3) (f88_2_j17_c (R := R) g_f101_3) (f88_2_j18_c (R := R) g_f101_3) (f88_2_j15_c (R := R) g_f101_3) (f88_2_j13_c (R := R) g_f101_3) (f88_2_j23_c (R := R) g_f101_3) k x y K)
noncomputable def f88_2_j9_b : Code := joinAt f88_2_ann f88_2_b 1
noncomputable def f88_2_j9_g {R : Type} (g : Nat → f88_2_j9_T R) (k : Nat) (x : f88_2_j9_X) (y : f88_2_j9_Y) (K : KX R) : Option R := g k x.2.2.2.1 x.2.2.2.2.2.2.1 y.1.1 y.1.2.1 y.1.2.2.1 y.1.2.2.2.2.1 y.1.2.2.2.2.2.1 y.2.1 y.2.2.1.1 y.2.2.1.2.1 y.2.2.1.2.2.1 y.2.2.1.2.2.2.1 y.2.2.1.2.2.2.2.1 y.2.2.2.1 y.2.2.2.2.1.1 y.2.2.2.2.1.2.1 y.2.2.2.2.1.2.2.1 y.2.2.2.2.1.2.2.2.1 y.2.2.2.2.2.1.1 y.2.2.2.2.2.1.2.1 y.2.2.2.2.2.1.2.2.1 y.2.2.2.2.2.1.2.2.2.1 y.2.2.2.2.2.1.2.2.2.2.1 (fun z0 z1 z2 z3 z4 z5 z6 => K (.exit 0) [.own 137438991360] [some (.row (.named 2) z0 true), some (.box [.list (.int .u8) z1, .int .i64 z2, .int .i64 z3, .own 137438991361, .int .i64 z4, .int .i64 z5]), some (.row (.named 1) z6 true)]) (fun z0 z1 z2 z3 z4 z5 z6 z7 z8 z9 z10 z11 => K (.normal) [.ptr 0 0, .ptr 65600 0, .own 137439049728] [some (.box [.list (.int .u8) z0, .int .i64 z1, .int .i64 z2, .own 1640946, .int .i64 z3, .int .i64 z4]), some (.row (.named 1) z5 true), some (.box [.int .i64 z6, .int .i64 z7, .bool z8, .bool z9, .int .i64 z10]), some (.row (.named 2) z11 true)])
noncomputable def f88_2_j9_d {R : Type} (g : Nat → f88_2_j9_T R) (k : Nat) : Lr D R := ldoor [.ptr 0 0, .ptr 65600 0, .own 137438990336, .bool, .ptr 393344 0, .ptr 524432 0, .bool] [some (.box [.list (.int .u8), .int .i64, .int .i64, .own 137438990337, .int .i64, .int .i64]), some (.row (.named 1) true), some (.box [.int .i64, .int .i64, .bool, .bool, .int .i64]), some (.row (.named 2) true), some (.box [.int .i64, .int .i64, .int .i64, .bool]), some (.box [.int .i64, .str, .int .i64, .bool, .bool])] (f88_2_j9_g g k)
noncomputable def f88_2_j9_lrc {R : Type} (_g_f25 : Nat → f25_T R) (_g_f56_2 : Nat → f56_2_T R) (_g_f87_2 : Nat → f87_2_T R) (_g_f99_2 : Nat → f99_2_T R) (_g_f100 : Nat → f100_T R) (_g_f68 : Nat → f68_T R) (_g_f101_3 : Nat → f101_3_T R) (g_f88_2_j12 : Nat → f88_2_j12_T R) (g_f88_2_j17 : Nat → f88_2_j17_T R) (g_f88_2_j18 : Nat → f88_2_j18_T R) (g_f88_2_j15 : Nat → f88_2_j15_T R) (g_f88_2_j13 : Nat → f88_2_j13_T R) (g_f88_2_j23 : Nat → f88_2_j23_T R) (g_f88_2_j10 : Nat → f88_2_j10_T R) (k : Nat) : Lrc D R := (lrcAdd 1000023 (f88_2_j23_d g_f88_2_j23 k) (lrcAdd 1000018 (f88_2_j18_d g_f88_2_j18 k) (lrcAdd 1000017 (f88_2_j17_d g_f88_2_j17 k) (lrcAdd 1000015 (f88_2_j15_d g_f88_2_j15 k) (lrcAdd 1000013 (f88_2_j13_d g_f88_2_j13 k) (lrcAdd 1000012 (f88_2_j12_d g_f88_2_j12 k) (lrcAdd 1000010 (f88_2_j10_d g_f88_2_j10 k) noLrc)))))))
theorem f88_2_j9_e {R : Type} (g_f25 : Nat → f25_T R) (g_f56_2 : Nat → f56_2_T R) (g_f87_2 : Nat → f87_2_T R) (g_f99_2 : Nat → f99_2_T R) (g_f100 : Nat → f100_T R) (g_f68 : Nat → f68_T R) (g_f101_3 : Nat → f101_3_T R) (g_f88_2_j12 : Nat → f88_2_j12_T R) (g_f88_2_j17 : Nat → f88_2_j17_T R) (g_f88_2_j18 : Nat → f88_2_j18_T R) (g_f88_2_j15 : Nat → f88_2_j15_T R) (g_f88_2_j13 : Nat → f88_2_j13_T R) (g_f88_2_j23 : Nat → f88_2_j23_T R) (g_f88_2_j10 : Nat → f88_2_j10_T R) (k : Nat) (x : f88_2_j9_X) (y : f88_2_j9_Y) (K : KX R) : f88_2_j9_g (f88_2_j9 g_f25 g_f56_2 g_f87_2 g_f99_2 g_f100 g_f68 g_f101_3 g_f88_2_j12 g_f88_2_j17 g_f88_2_j18 g_f88_2_j15 g_f88_2_j13 g_f88_2_j23 g_f88_2_j10) k x y K = tailR cx (f88_2_o g_f25 g_f56_2 g_f87_2 g_f99_2 g_f100 g_f68 g_f101_3 k) (f88_2_j9_lrc g_f25 g_f56_2 g_f87_2 g_f99_2 g_f100 g_f68 g_f101_3 g_f88_2_j12 g_f88_2_j17 g_f88_2_j18 g_f88_2_j15 g_f88_2_j13 g_f88_2_j23 g_f88_2_j10 k) f88_2_ann kp 167 2 f88_2_j9_a f88_2_j9_b (gives (D := D) [.ptr 0 0, .ptr 65600 0, .own 137438990336, .bool, .ptr 393344 0, .ptr 524432 0, .bool] x) (giveGs (D := D) [some (.box [.list (.int .u8), .int .i64, .int .i64, .own 137438990337, .int .i64, .int .i64]), some (.row (.named 1) true), some (.box [.int .i64, .int .i64, .bool, .bool, .int .i64]), some (.row (.named 2) true), some (.box [.int .i64, .int .i64, .int .i64, .bool]), some (.box [.int .i64, .str, .int .i64, .bool, .bool])] y) K := by kernel_rfl
theorem f88_2_j9_d_ok {R : Type} (g_f101_3 : Nat → f101_3_T R) (h_f101_3 : ∀ (k : Nat) (e : Dr D R), FnOk Try.prog cx 101 e → FnOk Try.prog cx 101 (f101_3_d (g_f101_3 k) e)) (k : Nat) : JoinOk Try.prog cx 167 2 f88_2_ann (f88_2_j9_d (R := R) (f88_2_j9_c (R := R) g_f101_3) k) f88_2_j9_b :=
  join_ok (keep := kp) (lrc := f88_2_j9_lrc (R := R) (f25 (R := R)) (f56_2 (R := R)) (f87_2 (R := R)) (f99_2 (R := R)) (f100 (R := R)) (f68 (R := R)) g_f101_3 (f88_2_j12_c (R := R) g_f101_3) (f88_2_j17_c (R := R) g_f101_3) (f88_2_j18_c (R := R) g_f101_3) (f88_2_j15_c (R := R) g_f101_3) (f88_2_j13_c (R := R) g_f101_3) (f88_2_j23_c (R := R) g_f101_3) (f88_2_j10_c (R := R) g_f101_3) k) cxOk mixed (f88_2_o_ok g_f101_3 h_f101_3 k) (show f88_2_ann (Am.keyOf f88_2_j9_b + 1000000) = some f88_2_j9_a by kernel_rfl) (L := []) (by kernel_rfl) trivial (J := [f88_2_j10_b, f88_2_j12_b, f88_2_j13_b, f88_2_j15_b, f88_2_j17_b, f88_2_j18_b, f88_2_j23_b]) (by kernel_rfl) (⟨(f88_2_j10_d_ok g_f101_3 h_f101_3 k).use (by kernel_rfl), (f88_2_j12_d_ok g_f101_3 h_f101_3 k).use (by kernel_rfl), (f88_2_j13_d_ok g_f101_3 h_f101_3 k).use (by kernel_rfl), (f88_2_j15_d_ok g_f101_3 h_f101_3 k).use (by kernel_rfl), (f88_2_j17_d_ok g_f101_3 h_f101_3 k).use (by kernel_rfl), (f88_2_j18_d_ok g_f101_3 h_f101_3 k).use (by kernel_rfl), (f88_2_j23_d_ok g_f101_3 h_f101_3 k).use (by kernel_rfl), trivial⟩) ((LrcNat.add (f88_2_j23_d_ok g_f101_3 h_f101_3 k).2 (LrcNat.add (f88_2_j18_d_ok g_f101_3 h_f101_3 k).2 (LrcNat.add (f88_2_j17_d_ok g_f101_3 h_f101_3 k).2 (LrcNat.add (f88_2_j15_d_ok g_f101_3 h_f101_3 k).2 (LrcNat.add (f88_2_j13_d_ok g_f101_3 h_f101_3 k).2 (LrcNat.add (f88_2_j12_d_ok g_f101_3 h_f101_3 k).2 (LrcNat.add (f88_2_j10_d_ok g_f101_3 h_f101_3 k).2 LrcNat.no)))))))) (fun x y K => f88_2_j9_e (f25 (R := R)) (f56_2 (R := R)) (f87_2 (R := R)) (f99_2 (R := R)) (f100 (R := R)) (f68 (R := R)) g_f101_3 (f88_2_j12_c (R := R) g_f101_3) (f88_2_j17_c (R := R) g_f101_3) (f88_2_j18_c (R := R) g_f101_3) (f88_2_j15_c (R := R) g_f101_3) (f88_2_j13_c (R := R) g_f101_3) (f88_2_j23_c (R := R) g_f101_3) (f88_2_j10_c (R := R) g_f101_3) k x y K)
noncomputable def f88_2_j5_b : Code := joinAt f88_2_ann f88_2_b 0
noncomputable def f88_2_j5_g {R : Type} (g : Nat → f88_2_j5_T R) (k : Nat) (x : f88_2_j5_X) (y : f88_2_j5_Y) (K : KX R) : Option R := g k x.2.2.2.1 y.1.1 y.1.2.1 y.1.2.2.1 y.1.2.2.2.2.1 y.1.2.2.2.2.2.1 y.2.1 y.2.2.1.1 y.2.2.1.2.1 y.2.2.1.2.2.1 y.2.2.1.2.2.2.1 y.2.2.1.2.2.2.2.1 y.2.2.2.1 (fun z0 z1 z2 z3 z4 z5 z6 => K (.exit 0) [.own 137438974976] [some (.row (.named 2) z0 true), some (.box [.list (.int .u8) z1, .int .i64 z2, .int .i64 z3, .own 137438974977, .int .i64 z4, .int .i64 z5]), some (.row (.named 1) z6 true)]) (fun z0 z1 z2 z3 z4 z5 z6 z7 z8 z9 z10 z11 z12 => K (.normal) [.ptr 0 0, .ptr 65600 0, .own 137439049728, .bool z0] [some (.box [.list (.int .u8) z1, .int .i64 z2, .int .i64 z3, .own 1640946, .int .i64 z4, .int .i64 z5]), some (.row (.named 1) z6 true), some (.box [.int .i64 z7, .int .i64 z8, .bool z9, .bool z10, .int .i64 z11]), some (.row (.named 2) z12 true)])
noncomputable def f88_2_j5_d {R : Type} (g : Nat → f88_2_j5_T R) (k : Nat) : Lr D R := ldoor [.ptr 0 0, .ptr 65600 0, .own 137438973952, .bool] [some (.box [.list (.int .u8), .int .i64, .int .i64, .own 137438973953, .int .i64, .int .i64]), some (.row (.named 1) true), some (.box [.int .i64, .int .i64, .bool, .bool, .int .i64]), some (.row (.named 2) true)] (f88_2_j5_g g k)
noncomputable def f88_2_j5_lrc {R : Type} (_g_f25 : Nat → f25_T R) (_g_f56_2 : Nat → f56_2_T R) (_g_f87_2 : Nat → f87_2_T R) (_g_f99_2 : Nat → f99_2_T R) (_g_f100 : Nat → f100_T R) (_g_f68 : Nat → f68_T R) (_g_f101_3 : Nat → f101_3_T R) (g_f88_2_j12 : Nat → f88_2_j12_T R) (g_f88_2_j17 : Nat → f88_2_j17_T R) (g_f88_2_j18 : Nat → f88_2_j18_T R) (g_f88_2_j15 : Nat → f88_2_j15_T R) (g_f88_2_j13 : Nat → f88_2_j13_T R) (g_f88_2_j23 : Nat → f88_2_j23_T R) (g_f88_2_j10 : Nat → f88_2_j10_T R) (g_f88_2_j9 : Nat → f88_2_j9_T R) (k : Nat) : Lrc D R := (lrcAdd 1000023 (f88_2_j23_d g_f88_2_j23 k) (lrcAdd 1000018 (f88_2_j18_d g_f88_2_j18 k) (lrcAdd 1000017 (f88_2_j17_d g_f88_2_j17 k) (lrcAdd 1000015 (f88_2_j15_d g_f88_2_j15 k) (lrcAdd 1000013 (f88_2_j13_d g_f88_2_j13 k) (lrcAdd 1000012 (f88_2_j12_d g_f88_2_j12 k) (lrcAdd 1000010 (f88_2_j10_d g_f88_2_j10 k) (lrcAdd 1000009 (f88_2_j9_d g_f88_2_j9 k) noLrc))))))))
theorem f88_2_j5_e {R : Type} (g_f25 : Nat → f25_T R) (g_f56_2 : Nat → f56_2_T R) (g_f87_2 : Nat → f87_2_T R) (g_f99_2 : Nat → f99_2_T R) (g_f100 : Nat → f100_T R) (g_f68 : Nat → f68_T R) (g_f101_3 : Nat → f101_3_T R) (g_f88_2_j12 : Nat → f88_2_j12_T R) (g_f88_2_j17 : Nat → f88_2_j17_T R) (g_f88_2_j18 : Nat → f88_2_j18_T R) (g_f88_2_j15 : Nat → f88_2_j15_T R) (g_f88_2_j13 : Nat → f88_2_j13_T R) (g_f88_2_j23 : Nat → f88_2_j23_T R) (g_f88_2_j10 : Nat → f88_2_j10_T R) (g_f88_2_j9 : Nat → f88_2_j9_T R) (k : Nat) (x : f88_2_j5_X) (y : f88_2_j5_Y) (K : KX R) : f88_2_j5_g (f88_2_j5 g_f25 g_f56_2 g_f87_2 g_f99_2 g_f100 g_f68 g_f101_3 g_f88_2_j12 g_f88_2_j17 g_f88_2_j18 g_f88_2_j15 g_f88_2_j13 g_f88_2_j23 g_f88_2_j10 g_f88_2_j9) k x y K = tailR cx (f88_2_o g_f25 g_f56_2 g_f87_2 g_f99_2 g_f100 g_f68 g_f101_3 k) (f88_2_j5_lrc g_f25 g_f56_2 g_f87_2 g_f99_2 g_f100 g_f68 g_f101_3 g_f88_2_j12 g_f88_2_j17 g_f88_2_j18 g_f88_2_j15 g_f88_2_j13 g_f88_2_j23 g_f88_2_j10 g_f88_2_j9 k) f88_2_ann kp 167 2 f88_2_j5_a f88_2_j5_b (gives (D := D) [.ptr 0 0, .ptr 65600 0, .own 137438973952, .bool] x) (giveGs (D := D) [some (.box [.list (.int .u8), .int .i64, .int .i64, .own 137438973953, .int .i64, .int .i64]), some (.row (.named 1) true), some (.box [.int .i64, .int .i64, .bool, .bool, .int .i64]), some (.row (.named 2) true)] y) K := by kernel_rfl
theorem f88_2_j5_d_ok {R : Type} (g_f101_3 : Nat → f101_3_T R) (h_f101_3 : ∀ (k : Nat) (e : Dr D R), FnOk Try.prog cx 101 e → FnOk Try.prog cx 101 (f101_3_d (g_f101_3 k) e)) (k : Nat) : JoinOk Try.prog cx 167 2 f88_2_ann (f88_2_j5_d (R := R) (f88_2_j5_c (R := R) g_f101_3) k) f88_2_j5_b :=
  join_ok (keep := kp) (lrc := f88_2_j5_lrc (R := R) (f25 (R := R)) (f56_2 (R := R)) (f87_2 (R := R)) (f99_2 (R := R)) (f100 (R := R)) (f68 (R := R)) g_f101_3 (f88_2_j12_c (R := R) g_f101_3) (f88_2_j17_c (R := R) g_f101_3) (f88_2_j18_c (R := R) g_f101_3) (f88_2_j15_c (R := R) g_f101_3) (f88_2_j13_c (R := R) g_f101_3) (f88_2_j23_c (R := R) g_f101_3) (f88_2_j10_c (R := R) g_f101_3) (f88_2_j9_c (R := R) g_f101_3) k) cxOk mixed (f88_2_o_ok g_f101_3 h_f101_3 k) (show f88_2_ann (Am.keyOf f88_2_j5_b + 1000000) = some f88_2_j5_a by kernel_rfl) (L := []) (by kernel_rfl) trivial (J := [f88_2_j9_b, f88_2_j10_b, f88_2_j12_b, f88_2_j13_b, f88_2_j15_b, f88_2_j17_b, f88_2_j18_b, f88_2_j23_b]) (by kernel_rfl) (⟨(f88_2_j9_d_ok g_f101_3 h_f101_3 k).use (by kernel_rfl), (f88_2_j10_d_ok g_f101_3 h_f101_3 k).use (by kernel_rfl), (f88_2_j12_d_ok g_f101_3 h_f101_3 k).use (by kernel_rfl), (f88_2_j13_d_ok g_f101_3 h_f101_3 k).use (by kernel_rfl), (f88_2_j15_d_ok g_f101_3 h_f101_3 k).use (by kernel_rfl), (f88_2_j17_d_ok g_f101_3 h_f101_3 k).use (by kernel_rfl), (f88_2_j18_d_ok g_f101_3 h_f101_3 k).use (by kernel_rfl), (f88_2_j23_d_ok g_f101_3 h_f101_3 k).use (by kernel_rfl), trivial⟩) ((LrcNat.add (f88_2_j23_d_ok g_f101_3 h_f101_3 k).2 (LrcNat.add (f88_2_j18_d_ok g_f101_3 h_f101_3 k).2 (LrcNat.add (f88_2_j17_d_ok g_f101_3 h_f101_3 k).2 (LrcNat.add (f88_2_j15_d_ok g_f101_3 h_f101_3 k).2 (LrcNat.add (f88_2_j13_d_ok g_f101_3 h_f101_3 k).2 (LrcNat.add (f88_2_j12_d_ok g_f101_3 h_f101_3 k).2 (LrcNat.add (f88_2_j10_d_ok g_f101_3 h_f101_3 k).2 (LrcNat.add (f88_2_j9_d_ok g_f101_3 h_f101_3 k).2 LrcNat.no))))))))) (fun x y K => f88_2_j5_e (f25 (R := R)) (f56_2 (R := R)) (f87_2 (R := R)) (f99_2 (R := R)) (f100 (R := R)) (f68 (R := R)) g_f101_3 (f88_2_j12_c (R := R) g_f101_3) (f88_2_j17_c (R := R) g_f101_3) (f88_2_j18_c (R := R) g_f101_3) (f88_2_j15_c (R := R) g_f101_3) (f88_2_j13_c (R := R) g_f101_3) (f88_2_j23_c (R := R) g_f101_3) (f88_2_j10_c (R := R) g_f101_3) (f88_2_j9_c (R := R) g_f101_3) k x y K)
noncomputable def f88_2_l3_b : Code := loopAt f88_2_b 0
noncomputable def f88_2_l3_g {R : Type} (g_f25 : Nat → f25_T R) (g_f56_2 : Nat → f56_2_T R) (g_f87_2 : Nat → f87_2_T R) (g_f99_2 : Nat → f99_2_T R) (g_f100 : Nat → f100_T R) (g_f68 : Nat → f68_T R) (g_f101_3 : Nat → f101_3_T R) (g_f88_2_j12 : Nat → f88_2_j12_T R) (g_f88_2_j17 : Nat → f88_2_j17_T R) (g_f88_2_j18 : Nat → f88_2_j18_T R) (g_f88_2_j15 : Nat → f88_2_j15_T R) (g_f88_2_j13 : Nat → f88_2_j13_T R) (g_f88_2_j23 : Nat → f88_2_j23_T R) (g_f88_2_j10 : Nat → f88_2_j10_T R) (g_f88_2_j9 : Nat → f88_2_j9_T R) (g_f88_2_j5 : Nat → f88_2_j5_T R) (k : Nat) (x : f88_2_l3_X) (y : f88_2_l3_Y) (K : KX R) : Option R := f88_2_l3 g_f25 g_f56_2 g_f87_2 g_f99_2 g_f100 g_f68 g_f101_3 g_f88_2_j12 g_f88_2_j17 g_f88_2_j18 g_f88_2_j15 g_f88_2_j13 g_f88_2_j23 g_f88_2_j10 g_f88_2_j9 g_f88_2_j5 k x.2.2.2.1 y.1.1 y.1.2.1 y.1.2.2.1 y.1.2.2.2.2.1 y.1.2.2.2.2.2.1 y.2.1 y.2.2.1.1 y.2.2.1.2.1 y.2.2.1.2.2.1 y.2.2.1.2.2.2.1 y.2.2.1.2.2.2.2.1 y.2.2.2.1 (fun z0 z1 z2 z3 z4 z5 z6 => K (.exit 0) [.own 68719490048] [some (.row (.named 2) z0 true), some (.box [.list (.int .u8) z1, .int .i64 z2, .int .i64 z3, .own 68719490049, .int .i64 z4, .int .i64 z5]), some (.row (.named 1) z6 true)])
noncomputable def f88_2_l3_d {R : Type} (g_f25 : Nat → f25_T R) (g_f56_2 : Nat → f56_2_T R) (g_f87_2 : Nat → f87_2_T R) (g_f99_2 : Nat → f99_2_T R) (g_f100 : Nat → f100_T R) (g_f68 : Nat → f68_T R) (g_f101_3 : Nat → f101_3_T R) (g_f88_2_j12 : Nat → f88_2_j12_T R) (g_f88_2_j17 : Nat → f88_2_j17_T R) (g_f88_2_j18 : Nat → f88_2_j18_T R) (g_f88_2_j15 : Nat → f88_2_j15_T R) (g_f88_2_j13 : Nat → f88_2_j13_T R) (g_f88_2_j23 : Nat → f88_2_j23_T R) (g_f88_2_j10 : Nat → f88_2_j10_T R) (g_f88_2_j9 : Nat → f88_2_j9_T R) (g_f88_2_j5 : Nat → f88_2_j5_T R) (k : Nat) : Lr D R := ldoor [.ptr 0 0, .ptr 65600 0, .own 68719489024, .bool] [some (.box [.list (.int .u8), .int .i64, .int .i64, .own 68719489025, .int .i64, .int .i64]), some (.row (.named 1) true), some (.box [.int .i64, .int .i64, .bool, .bool, .int .i64]), some (.row (.named 2) true)] (f88_2_l3_g g_f25 g_f56_2 g_f87_2 g_f99_2 g_f100 g_f68 g_f101_3 g_f88_2_j12 g_f88_2_j17 g_f88_2_j18 g_f88_2_j15 g_f88_2_j13 g_f88_2_j23 g_f88_2_j10 g_f88_2_j9 g_f88_2_j5 k)
noncomputable def f88_2_l3_lrc {R : Type} (_g_f25 : Nat → f25_T R) (_g_f56_2 : Nat → f56_2_T R) (_g_f87_2 : Nat → f87_2_T R) (_g_f99_2 : Nat → f99_2_T R) (_g_f100 : Nat → f100_T R) (_g_f68 : Nat → f68_T R) (_g_f101_3 : Nat → f101_3_T R) (g_f88_2_j12 : Nat → f88_2_j12_T R) (g_f88_2_j17 : Nat → f88_2_j17_T R) (g_f88_2_j18 : Nat → f88_2_j18_T R) (g_f88_2_j15 : Nat → f88_2_j15_T R) (g_f88_2_j13 : Nat → f88_2_j13_T R) (g_f88_2_j23 : Nat → f88_2_j23_T R) (g_f88_2_j10 : Nat → f88_2_j10_T R) (g_f88_2_j9 : Nat → f88_2_j9_T R) (g_f88_2_j5 : Nat → f88_2_j5_T R) (k : Nat) : Lrc D R := (lrcAdd 1000023 (f88_2_j23_d g_f88_2_j23 k) (lrcAdd 1000018 (f88_2_j18_d g_f88_2_j18 k) (lrcAdd 1000017 (f88_2_j17_d g_f88_2_j17 k) (lrcAdd 1000015 (f88_2_j15_d g_f88_2_j15 k) (lrcAdd 1000013 (f88_2_j13_d g_f88_2_j13 k) (lrcAdd 1000012 (f88_2_j12_d g_f88_2_j12 k) (lrcAdd 1000010 (f88_2_j10_d g_f88_2_j10 k) (lrcAdd 1000009 (f88_2_j9_d g_f88_2_j9 k) (lrcAdd 1000005 (f88_2_j5_d g_f88_2_j5 k) noLrc)))))))))
theorem f88_2_l3_e {R : Type} (g_f25 : Nat → f25_T R) (g_f56_2 : Nat → f56_2_T R) (g_f87_2 : Nat → f87_2_T R) (g_f99_2 : Nat → f99_2_T R) (g_f100 : Nat → f100_T R) (g_f68 : Nat → f68_T R) (g_f101_3 : Nat → f101_3_T R) (g_f88_2_j12 : Nat → f88_2_j12_T R) (g_f88_2_j17 : Nat → f88_2_j17_T R) (g_f88_2_j18 : Nat → f88_2_j18_T R) (g_f88_2_j15 : Nat → f88_2_j15_T R) (g_f88_2_j13 : Nat → f88_2_j13_T R) (g_f88_2_j23 : Nat → f88_2_j23_T R) (g_f88_2_j10 : Nat → f88_2_j10_T R) (g_f88_2_j9 : Nat → f88_2_j9_T R) (g_f88_2_j5 : Nat → f88_2_j5_T R) (k : Nat) (x : f88_2_l3_X) (y : f88_2_l3_Y) (K : KX R) : f88_2_l3_g g_f25 g_f56_2 g_f87_2 g_f99_2 g_f100 g_f68 g_f101_3 g_f88_2_j12 g_f88_2_j17 g_f88_2_j18 g_f88_2_j15 g_f88_2_j13 g_f88_2_j23 g_f88_2_j10 g_f88_2_j9 g_f88_2_j5 (k + 1) x y K = round cx (f88_2_o g_f25 g_f56_2 g_f87_2 g_f99_2 g_f100 g_f68 g_f101_3 k) (f88_2_l3_lrc g_f25 g_f56_2 g_f87_2 g_f99_2 g_f100 g_f68 g_f101_3 g_f88_2_j12 g_f88_2_j17 g_f88_2_j18 g_f88_2_j15 g_f88_2_j13 g_f88_2_j23 g_f88_2_j10 g_f88_2_j9 g_f88_2_j5 k) f88_2_ann kp 167 2 f88_2_l3_a f88_2_l3_b (gives (D := D) [.ptr 0 0, .ptr 65600 0, .own 68719489024, .bool] x) (giveGs (D := D) [some (.box [.list (.int .u8), .int .i64, .int .i64, .own 68719489025, .int .i64, .int .i64]), some (.row (.named 1) true), some (.box [.int .i64, .int .i64, .bool, .bool, .int .i64]), some (.row (.named 2) true)] y) (fun vs os => f88_2_l3_d g_f25 g_f56_2 g_f87_2 g_f99_2 g_f100 g_f68 g_f101_3 g_f88_2_j12 g_f88_2_j17 g_f88_2_j18 g_f88_2_j15 g_f88_2_j13 g_f88_2_j23 g_f88_2_j10 g_f88_2_j9 g_f88_2_j5 k vs os K) K := by kernel_rfl
theorem f88_2_l3_d_ok {R : Type} (g_f101_3 : Nat → f101_3_T R) (h_f101_3 : ∀ (k : Nat) (e : Dr D R), FnOk Try.prog cx 101 e → FnOk Try.prog cx 101 (f101_3_d (g_f101_3 k) e)) : ∀ k, LoopOk Try.prog cx 167 2 f88_2_ann (f88_2_l3_d (R := R) (f25 (R := R)) (f56_2 (R := R)) (f87_2 (R := R)) (f99_2 (R := R)) (f100 (R := R)) (f68 (R := R)) g_f101_3 (f88_2_j12_c (R := R) g_f101_3) (f88_2_j17_c (R := R) g_f101_3) (f88_2_j18_c (R := R) g_f101_3) (f88_2_j15_c (R := R) g_f101_3) (f88_2_j13_c (R := R) g_f101_3) (f88_2_j23_c (R := R) g_f101_3) (f88_2_j10_c (R := R) g_f101_3) (f88_2_j9_c (R := R) g_f101_3) (f88_2_j5_c (R := R) g_f101_3) k) f88_2_l3_b :=
  loop_ok (keep := kp) (lrc := f88_2_l3_lrc (R := R) (f25 (R := R)) (f56_2 (R := R)) (f87_2 (R := R)) (f99_2 (R := R)) (f100 (R := R)) (f68 (R := R)) g_f101_3 (f88_2_j12_c (R := R) g_f101_3) (f88_2_j17_c (R := R) g_f101_3) (f88_2_j18_c (R := R) g_f101_3) (f88_2_j15_c (R := R) g_f101_3) (f88_2_j13_c (R := R) g_f101_3) (f88_2_j23_c (R := R) g_f101_3) (f88_2_j10_c (R := R) g_f101_3) (f88_2_j9_c (R := R) g_f101_3) (f88_2_j5_c (R := R) g_f101_3)) cxOk mixed (f88_2_o_ok g_f101_3 h_f101_3) (show f88_2_ann (Am.keyOf f88_2_l3_b) = some f88_2_l3_a by kernel_rfl) (L := []) (by kernel_rfl) (fun _k => trivial) (J := [f88_2_j5_b, f88_2_j9_b, f88_2_j10_b, f88_2_j12_b, f88_2_j13_b, f88_2_j15_b, f88_2_j17_b, f88_2_j18_b, f88_2_j23_b]) (by kernel_rfl) (fun k => ⟨(f88_2_j5_d_ok g_f101_3 h_f101_3 k).use (by kernel_rfl), (f88_2_j9_d_ok g_f101_3 h_f101_3 k).use (by kernel_rfl), (f88_2_j10_d_ok g_f101_3 h_f101_3 k).use (by kernel_rfl), (f88_2_j12_d_ok g_f101_3 h_f101_3 k).use (by kernel_rfl), (f88_2_j13_d_ok g_f101_3 h_f101_3 k).use (by kernel_rfl), (f88_2_j15_d_ok g_f101_3 h_f101_3 k).use (by kernel_rfl), (f88_2_j17_d_ok g_f101_3 h_f101_3 k).use (by kernel_rfl), (f88_2_j18_d_ok g_f101_3 h_f101_3 k).use (by kernel_rfl), (f88_2_j23_d_ok g_f101_3 h_f101_3 k).use (by kernel_rfl), trivial⟩) (fun k => (LrcNat.add (f88_2_j23_d_ok g_f101_3 h_f101_3 k).2 (LrcNat.add (f88_2_j18_d_ok g_f101_3 h_f101_3 k).2 (LrcNat.add (f88_2_j17_d_ok g_f101_3 h_f101_3 k).2 (LrcNat.add (f88_2_j15_d_ok g_f101_3 h_f101_3 k).2 (LrcNat.add (f88_2_j13_d_ok g_f101_3 h_f101_3 k).2 (LrcNat.add (f88_2_j12_d_ok g_f101_3 h_f101_3 k).2 (LrcNat.add (f88_2_j10_d_ok g_f101_3 h_f101_3 k).2 (LrcNat.add (f88_2_j9_d_ok g_f101_3 h_f101_3 k).2 (LrcNat.add (f88_2_j5_d_ok g_f101_3 h_f101_3 k).2 LrcNat.no)))))))))) (fun _x _y _K => by kernel_rfl) (f88_2_l3_e (f25 (R := R)) (f56_2 (R := R)) (f87_2 (R := R)) (f99_2 (R := R)) (f100 (R := R)) (f68 (R := R)) g_f101_3 (f88_2_j12_c (R := R) g_f101_3) (f88_2_j17_c (R := R) g_f101_3) (f88_2_j18_c (R := R) g_f101_3) (f88_2_j15_c (R := R) g_f101_3) (f88_2_j13_c (R := R) g_f101_3) (f88_2_j23_c (R := R) g_f101_3) (f88_2_j10_c (R := R) g_f101_3) (f88_2_j9_c (R := R) g_f101_3) (f88_2_j5_c (R := R) g_f101_3))
noncomputable def f88_2_lrc {R : Type} (g_f25 : Nat → f25_T R) (g_f56_2 : Nat → f56_2_T R) (g_f87_2 : Nat → f87_2_T R) (g_f99_2 : Nat → f99_2_T R) (g_f100 : Nat → f100_T R) (g_f68 : Nat → f68_T R) (g_f101_3 : Nat → f101_3_T R) (g_f88_2_j12 : Nat → f88_2_j12_T R) (g_f88_2_j17 : Nat → f88_2_j17_T R) (g_f88_2_j18 : Nat → f88_2_j18_T R) (g_f88_2_j15 : Nat → f88_2_j15_T R) (g_f88_2_j13 : Nat → f88_2_j13_T R) (g_f88_2_j23 : Nat → f88_2_j23_T R) (g_f88_2_j10 : Nat → f88_2_j10_T R) (g_f88_2_j9 : Nat → f88_2_j9_T R) (g_f88_2_j5 : Nat → f88_2_j5_T R) (k : Nat) : Lrc D R := (lrcAdd 1000023 (f88_2_j23_d g_f88_2_j23 k) (lrcAdd 1000018 (f88_2_j18_d g_f88_2_j18 k) (lrcAdd 1000017 (f88_2_j17_d g_f88_2_j17 k) (lrcAdd 1000015 (f88_2_j15_d g_f88_2_j15 k) (lrcAdd 1000013 (f88_2_j13_d g_f88_2_j13 k) (lrcAdd 1000012 (f88_2_j12_d g_f88_2_j12 k) (lrcAdd 1000010 (f88_2_j10_d g_f88_2_j10 k) (lrcAdd 1000009 (f88_2_j9_d g_f88_2_j9 k) (lrcAdd 1000005 (f88_2_j5_d g_f88_2_j5 k) (lrcAdd 3 (f88_2_l3_d g_f25 g_f56_2 g_f87_2 g_f99_2 g_f100 g_f68 g_f101_3 g_f88_2_j12 g_f88_2_j17 g_f88_2_j18 g_f88_2_j15 g_f88_2_j13 g_f88_2_j23 g_f88_2_j10 g_f88_2_j9 g_f88_2_j5 k) noLrc))))))))))
theorem f88_2_e {R : Type} (g_f25 : Nat → f25_T R) (g_f56_2 : Nat → f56_2_T R) (g_f87_2 : Nat → f87_2_T R) (g_f99_2 : Nat → f99_2_T R) (g_f100 : Nat → f100_T R) (g_f68 : Nat → f68_T R) (g_f101_3 : Nat → f101_3_T R) (g_f88_2_j12 : Nat → f88_2_j12_T R) (g_f88_2_j17 : Nat → f88_2_j17_T R) (g_f88_2_j18 : Nat → f88_2_j18_T R) (g_f88_2_j15 : Nat → f88_2_j15_T R) (g_f88_2_j13 : Nat → f88_2_j13_T R) (g_f88_2_j23 : Nat → f88_2_j23_T R) (g_f88_2_j10 : Nat → f88_2_j10_T R) (g_f88_2_j9 : Nat → f88_2_j9_T R) (g_f88_2_j5 : Nat → f88_2_j5_T R) (k : Nat) (x : f88_2_X) (y : f88_2_Y) (K : KR R) : f88_2_s g_f25 g_f56_2 g_f87_2 g_f99_2 g_f100 g_f68 g_f101_3 g_f88_2_j12 g_f88_2_j17 g_f88_2_j18 g_f88_2_j15 g_f88_2_j13 g_f88_2_j23 g_f88_2_j10 g_f88_2_j9 g_f88_2_j5 k x.2.1.1 x.2.1.2.1 x.2.1.2.2.1 x.2.1.2.2.2.1 x.2.1.2.2.2.2.1 y.1.1 y.1.2.1 y.1.2.2.1 y.1.2.2.2.2.1 y.1.2.2.2.2.2.1 y.2.1 (fun z0 z1 z2 z3 z4 z5 z6 => K ⟨.own 2, [some (.box [.list (.int .u8) z0, .int .i64 z1, .int .i64 z2, .own 3, .int .i64 z3, .int .i64 z4]), none, some (.row (.named 2) z5 true), some (.row (.named 1) z6 true)]⟩) = exec cx (f88_2_o g_f25 g_f56_2 g_f87_2 g_f99_2 g_f100 g_f68 g_f101_3 k) (f88_2_lrc g_f25 g_f56_2 g_f87_2 g_f99_2 g_f100 g_f68 g_f101_3 g_f88_2_j12 g_f88_2_j17 g_f88_2_j18 g_f88_2_j15 g_f88_2_j13 g_f88_2_j23 g_f88_2_j10 g_f88_2_j9 g_f88_2_j5 k) f88_2_ann kp 167 2 f88_2_b (entry (gives (D := D) [.ptr 0 0, .agg [.int .i64, .int .i64, .bool, .bool, .int .i64]] x) (giveOs (D := D) [.box [.list (.int .u8), .int .i64, .int .i64, .own 1, .int .i64, .int .i64], .row (.named 1) true] y)) (fin cx Try.f88.results.toList [] 2 K) := by kernel_rfl
noncomputable def rec_f101_3 {R : Type} : Nat → (f101_3_T R) × (f88_2_T R)
  | 0 => (fun _ _ _ _ _ _ _ _ _ _ _ _ _ _ _ _ _ _ _ _ _ _ => none, fun _ _ _ _ _ _ _ _ _ _ _ _ => none)
  | k + 1 => (f101_3_s (f87_2 (R := R)) (f95_2 (R := R)) (fun _ => (rec_f101_3 (R := R) k).2) k, f88_2_s (f25 (R := R)) (f56_2 (R := R)) (f87_2 (R := R)) (f99_2 (R := R)) (f100 (R := R)) (f68 (R := R)) (fun _ => (rec_f101_3 (R := R) k).1) (f88_2_j12_c (R := R) (fun _ => (rec_f101_3 (R := R) k).1)) (f88_2_j17_c (R := R) (fun _ => (rec_f101_3 (R := R) k).1)) (f88_2_j18_c (R := R) (fun _ => (rec_f101_3 (R := R) k).1)) (f88_2_j15_c (R := R) (fun _ => (rec_f101_3 (R := R) k).1)) (f88_2_j13_c (R := R) (fun _ => (rec_f101_3 (R := R) k).1)) (f88_2_j23_c (R := R) (fun _ => (rec_f101_3 (R := R) k).1)) (f88_2_j10_c (R := R) (fun _ => (rec_f101_3 (R := R) k).1)) (f88_2_j9_c (R := R) (fun _ => (rec_f101_3 (R := R) k).1)) (f88_2_j5_c (R := R) (fun _ => (rec_f101_3 (R := R) k).1)) k)
theorem rec_f101_3_succ {R : Type} (k : Nat) : rec_f101_3 (R := R) (k + 1) = (f101_3_s (f87_2 (R := R)) (f95_2 (R := R)) (fun _ => (rec_f101_3 (R := R) k).2) k, f88_2_s (f25 (R := R)) (f56_2 (R := R)) (f87_2 (R := R)) (f99_2 (R := R)) (f100 (R := R)) (f68 (R := R)) (fun _ => (rec_f101_3 (R := R) k).1) (f88_2_j12_c (R := R) (fun _ => (rec_f101_3 (R := R) k).1)) (f88_2_j17_c (R := R) (fun _ => (rec_f101_3 (R := R) k).1)) (f88_2_j18_c (R := R) (fun _ => (rec_f101_3 (R := R) k).1)) (f88_2_j15_c (R := R) (fun _ => (rec_f101_3 (R := R) k).1)) (f88_2_j13_c (R := R) (fun _ => (rec_f101_3 (R := R) k).1)) (f88_2_j23_c (R := R) (fun _ => (rec_f101_3 (R := R) k).1)) (f88_2_j10_c (R := R) (fun _ => (rec_f101_3 (R := R) k).1)) (f88_2_j9_c (R := R) (fun _ => (rec_f101_3 (R := R) k).1)) (f88_2_j5_c (R := R) (fun _ => (rec_f101_3 (R := R) k).1)) k) := rfl
theorem rec_f101_3_ok {R : Type} : ∀ k, (∀ e : Dr D R, FnOk Try.prog cx 101 e → FnOk Try.prog cx 101 (f101_3_d (rec_f101_3 (R := R) k).1 e)) ∧ (∀ e : Dr D R, FnOk Try.prog cx 88 e → FnOk Try.prog cx 88 (f88_2_d (rec_f101_3 (R := R) k).2 e))
  | 0 => ⟨fun e he => he.door0 fun x y K => rfl, fun e he => he.door0 fun x y K => rfl⟩
  | k + 1 => by
    rw [rec_f101_3_succ]
    exact ⟨fun e he => he.door fun x y => body_ok (keep := kp) (ann := f101_3_ann) (lrc := f101_3_lrc (R := R) (f87_2 (R := R)) (f95_2 (R := R)) (fun _ => (rec_f101_3 (R := R) k).2) k) (N := 154) (n0 := 2) (c := [(.cell 65712 1, .own 1099511627776 (.int .u8)), (.cell 65712 2, .own 1099511627777 (.named 2)), (.cell 0 3, .own 1099511627778 (.named 1))]) cxOk mixed (f101_3_o_ok (fun _ => (rec_f101_3 (R := R) k).2) (fun _ e he => (rec_f101_3_ok (R := R) k).2 e he) k) (body := f101_3_b) (by kernel_rfl : Try.prog.funcs[101]? = some Try.f101) (by kernel_rfl) (by kernel_rfl) (by kernel_rfl) (by kernel_rfl) (of_decide_eq_true (by kernel_rfl)) (L := []) (by kernel_rfl) trivial (J := []) (by kernel_rfl) trivial (LrcNat.no) (fun K => f101_3_e (f87_2 (R := R)) (f95_2 (R := R)) (fun _ => (rec_f101_3 (R := R) k).2) k x y K),
      fun e he => he.door fun x y => body_ok (keep := kp) (ann := f88_2_ann) (lrc := f88_2_lrc (R := R) (f25 (R := R)) (f56_2 (R := R)) (f87_2 (R := R)) (f99_2 (R := R)) (f100 (R := R)) (f68 (R := R)) (fun _ => (rec_f101_3 (R := R) k).1) (f88_2_j12_c (R := R) (fun _ => (rec_f101_3 (R := R) k).1)) (f88_2_j17_c (R := R) (fun _ => (rec_f101_3 (R := R) k).1)) (f88_2_j18_c (R := R) (fun _ => (rec_f101_3 (R := R) k).1)) (f88_2_j15_c (R := R) (fun _ => (rec_f101_3 (R := R) k).1)) (f88_2_j13_c (R := R) (fun _ => (rec_f101_3 (R := R) k).1)) (f88_2_j23_c (R := R) (fun _ => (rec_f101_3 (R := R) k).1)) (f88_2_j10_c (R := R) (fun _ => (rec_f101_3 (R := R) k).1)) (f88_2_j9_c (R := R) (fun _ => (rec_f101_3 (R := R) k).1)) (f88_2_j5_c (R := R) (fun _ => (rec_f101_3 (R := R) k).1)) k) (N := 167) (n0 := 2) (c := []) cxOk mixed (f88_2_o_ok (fun _ => (rec_f101_3 (R := R) k).1) (fun _ e he => (rec_f101_3_ok (R := R) k).1 e he) k) (body := f88_2_b) (by kernel_rfl : Try.prog.funcs[88]? = some Try.f88) (by kernel_rfl) (by kernel_rfl) (by kernel_rfl) (by kernel_rfl) (of_decide_eq_true (by kernel_rfl)) (L := [f88_2_l3_b]) (by kernel_rfl) (⟨(f88_2_l3_d_ok (fun _ => (rec_f101_3 (R := R) k).1) (fun _ e he => (rec_f101_3_ok (R := R) k).1 e he) k).use (by kernel_rfl), trivial⟩) (J := [f88_2_j5_b, f88_2_j9_b, f88_2_j10_b, f88_2_j12_b, f88_2_j13_b, f88_2_j15_b, f88_2_j17_b, f88_2_j18_b, f88_2_j23_b]) (by kernel_rfl) (⟨(f88_2_j5_d_ok (fun _ => (rec_f101_3 (R := R) k).1) (fun _ e he => (rec_f101_3_ok (R := R) k).1 e he) k).use (by kernel_rfl), (f88_2_j9_d_ok (fun _ => (rec_f101_3 (R := R) k).1) (fun _ e he => (rec_f101_3_ok (R := R) k).1 e he) k).use (by kernel_rfl), (f88_2_j10_d_ok (fun _ => (rec_f101_3 (R := R) k).1) (fun _ e he => (rec_f101_3_ok (R := R) k).1 e he) k).use (by kernel_rfl), (f88_2_j12_d_ok (fun _ => (rec_f101_3 (R := R) k).1) (fun _ e he => (rec_f101_3_ok (R := R) k).1 e he) k).use (by kernel_rfl), (f88_2_j13_d_ok (fun _ => (rec_f101_3 (R := R) k).1) (fun _ e he => (rec_f101_3_ok (R := R) k).1 e he) k).use (by kernel_rfl), (f88_2_j15_d_ok (fun _ => (rec_f101_3 (R := R) k).1) (fun _ e he => (rec_f101_3_ok (R := R) k).1 e he) k).use (by kernel_rfl), (f88_2_j17_d_ok (fun _ => (rec_f101_3 (R := R) k).1) (fun _ e he => (rec_f101_3_ok (R := R) k).1 e he) k).use (by kernel_rfl), (f88_2_j18_d_ok (fun _ => (rec_f101_3 (R := R) k).1) (fun _ e he => (rec_f101_3_ok (R := R) k).1 e he) k).use (by kernel_rfl), (f88_2_j23_d_ok (fun _ => (rec_f101_3 (R := R) k).1) (fun _ e he => (rec_f101_3_ok (R := R) k).1 e he) k).use (by kernel_rfl), trivial⟩) ((LrcNat.add (f88_2_j23_d_ok (fun _ => (rec_f101_3 (R := R) k).1) (fun _ e he => (rec_f101_3_ok (R := R) k).1 e he) k).2 (LrcNat.add (f88_2_j18_d_ok (fun _ => (rec_f101_3 (R := R) k).1) (fun _ e he => (rec_f101_3_ok (R := R) k).1 e he) k).2 (LrcNat.add (f88_2_j17_d_ok (fun _ => (rec_f101_3 (R := R) k).1) (fun _ e he => (rec_f101_3_ok (R := R) k).1 e he) k).2 (LrcNat.add (f88_2_j15_d_ok (fun _ => (rec_f101_3 (R := R) k).1) (fun _ e he => (rec_f101_3_ok (R := R) k).1 e he) k).2 (LrcNat.add (f88_2_j13_d_ok (fun _ => (rec_f101_3 (R := R) k).1) (fun _ e he => (rec_f101_3_ok (R := R) k).1 e he) k).2 (LrcNat.add (f88_2_j12_d_ok (fun _ => (rec_f101_3 (R := R) k).1) (fun _ e he => (rec_f101_3_ok (R := R) k).1 e he) k).2 (LrcNat.add (f88_2_j10_d_ok (fun _ => (rec_f101_3 (R := R) k).1) (fun _ e he => (rec_f101_3_ok (R := R) k).1 e he) k).2 (LrcNat.add (f88_2_j9_d_ok (fun _ => (rec_f101_3 (R := R) k).1) (fun _ e he => (rec_f101_3_ok (R := R) k).1 e he) k).2 (LrcNat.add (f88_2_j5_d_ok (fun _ => (rec_f101_3 (R := R) k).1) (fun _ e he => (rec_f101_3_ok (R := R) k).1 e he) k).2 (LrcNat.add (f88_2_l3_d_ok (fun _ => (rec_f101_3 (R := R) k).1) (fun _ e he => (rec_f101_3_ok (R := R) k).1 e he) k).2 LrcNat.no))))))))))) (fun K => f88_2_e (f25 (R := R)) (f56_2 (R := R)) (f87_2 (R := R)) (f99_2 (R := R)) (f100 (R := R)) (f68 (R := R)) (fun _ => (rec_f101_3 (R := R) k).1) (f88_2_j12_c (R := R) (fun _ => (rec_f101_3 (R := R) k).1)) (f88_2_j17_c (R := R) (fun _ => (rec_f101_3 (R := R) k).1)) (f88_2_j18_c (R := R) (fun _ => (rec_f101_3 (R := R) k).1)) (f88_2_j15_c (R := R) (fun _ => (rec_f101_3 (R := R) k).1)) (f88_2_j13_c (R := R) (fun _ => (rec_f101_3 (R := R) k).1)) (f88_2_j23_c (R := R) (fun _ => (rec_f101_3 (R := R) k).1)) (f88_2_j10_c (R := R) (fun _ => (rec_f101_3 (R := R) k).1)) (f88_2_j9_c (R := R) (fun _ => (rec_f101_3 (R := R) k).1)) (f88_2_j5_c (R := R) (fun _ => (rec_f101_3 (R := R) k).1)) k x y K)⟩
noncomputable def f101_3 {R : Type} (k : Nat) (a0 : Int) (a1 : Int) (a2 : Int) (a3 : Bool) (a4 : Int) (a5 : ByteArray) (a6 : Int) (a7 : Bool) (a8 : Bool) (a9 : Bool) (a10 : Int) (a11 : Int) (a12 : Bool) (a13 : Bool) (a14 : Int) (a15 : List Int) (a16 : Int) (a17 : Int) (a18 : Int) (a19 : Int) (a20 : List D1) (K : Int → Bool → Bool → List Int → Int → Int → Int → Int → List Int → List D2 → List D1 → Option R) : Option R := (rec_f101_3 (R := R) k).1 a0 a1 a2 a3 a4 a5 a6 a7 a8 a9 a10 a11 a12 a13 a14 a15 a16 a17 a18 a19 a20 K
theorem f101_3_ok {R : Type} (k : Nat) {e : Dr D R} (he : FnOk Try.prog cx 101 e) : FnOk Try.prog cx 101 (f101_3_d (f101_3 k) e) := (rec_f101_3_ok (R := R) k).1 e he
noncomputable def f88_2 {R : Type} (k : Nat) (a0 : Int) (a1 : Int) (a2 : Bool) (a3 : Bool) (a4 : Int) (a5 : List Int) (a6 : Int) (a7 : Int) (a8 : Int) (a9 : Int) (a10 : List D1) (K : List Int → Int → Int → Int → Int → List D2 → List D1 → Option R) : Option R := (rec_f101_3 (R := R) k).2 a0 a1 a2 a3 a4 a5 a6 a7 a8 a9 a10 K
theorem f88_2_ok {R : Type} (k : Nat) {e : Dr D R} (he : FnOk Try.prog cx 88 e) : FnOk Try.prog cx 88 (f88_2_d (f88_2 k) e) := (rec_f101_3_ok (R := R) k).2 e he
theorem f101_3_step {R : Type} (k : Nat) (a0 : Int) (a1 : Int) (a2 : Int) (a3 : Bool) (a4 : Int) (a5 : ByteArray) (a6 : Int) (a7 : Bool) (a8 : Bool) (a9 : Bool) (a10 : Int) (a11 : Int) (a12 : Bool) (a13 : Bool) (a14 : Int) (a15 : List Int) (a16 : Int) (a17 : Int) (a18 : Int) (a19 : Int) (a20 : List D1) (K : Int → Bool → Bool → List Int → Int → Int → Int → Int → List Int → List D2 → List D1 → Option R) : f101_3 (k + 1) a0 a1 a2 a3 a4 a5 a6 a7 a8 a9 a10 a11 a12 a13 a14 a15 a16 a17 a18 a19 a20 K = f101_3_s (f87_2 (R := R)) (f95_2 (R := R)) (fun _ => f88_2 (R := R) k) k a0 a1 a2 a3 a4 a5 a6 a7 a8 a9 a10 a11 a12 a13 a14 a15 a16 a17 a18 a19 a20 K := rfl
theorem f88_2_step {R : Type} (k : Nat) (a0 : Int) (a1 : Int) (a2 : Bool) (a3 : Bool) (a4 : Int) (a5 : List Int) (a6 : Int) (a7 : Int) (a8 : Int) (a9 : Int) (a10 : List D1) (K : List Int → Int → Int → Int → Int → List D2 → List D1 → Option R) : f88_2 (k + 1) a0 a1 a2 a3 a4 a5 a6 a7 a8 a9 a10 K = f88_2_s (f25 (R := R)) (f56_2 (R := R)) (f87_2 (R := R)) (f99_2 (R := R)) (f100 (R := R)) (f68 (R := R)) (fun _ => f101_3 (R := R) k) (f88_2_j12_c (R := R) (fun _ => f101_3 (R := R) k)) (f88_2_j17_c (R := R) (fun _ => f101_3 (R := R) k)) (f88_2_j18_c (R := R) (fun _ => f101_3 (R := R) k)) (f88_2_j15_c (R := R) (fun _ => f101_3 (R := R) k)) (f88_2_j13_c (R := R) (fun _ => f101_3 (R := R) k)) (f88_2_j23_c (R := R) (fun _ => f101_3 (R := R) k)) (f88_2_j10_c (R := R) (fun _ => f101_3 (R := R) k)) (f88_2_j9_c (R := R) (fun _ => f101_3 (R := R) k)) (f88_2_j5_c (R := R) (fun _ => f101_3 (R := R) k)) k a0 a1 a2 a3 a4 a5 a6 a7 a8 a9 a10 K := rfl


end Go.Proofs.Ytklhjegfkpmdoaa
