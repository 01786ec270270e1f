/- Proved: each of these functions does what a plain function says. Conditions: none. -/
import Derived.Test.YtklhjegfkpmdoaaMach4
import Derived.Test.YtklhjegfkpmdoaaProg

set_option maxRecDepth 100000
/-! The types of this program, for the machine. -/
namespace Go.Proofs.Ytklhjegfkpmdoaa
open Go Go.Am
abbrev D0 : Type := Int × ByteArray × Int × Bool × Bool
abbrev D1 : Type := Int × Int × Int × Int × Int × Bool
inductive D2 : Type where
  | mk (x0 : Int) (x1 : List Int) (x2 : List D2) (x3 : Bool)
def D2.c0 : D2 → Int
  | .mk x0 _ _ _ => x0
def D2.c1 : D2 → List Int
  | .mk _ x1 _ _ => x1
def D2.c2 : D2 → List D2
  | .mk _ _ x2 _ => x2
def D2.c3 : D2 → Bool
  | .mk _ _ _ x3 => x3
abbrev D3 : Type := List D2 × Int × Int × Int
abbrev D4 : Type := Int × Int
abbrev D5 : Type := List Int × Int × Int × List D1 × Int × Int
abbrev D6 : Type := List Int × List D1 × Int × Int × Int
abbrev D7 : Type := Bool × Bool
abbrev D8 : Type := Int × Int × Bool × Bool × Int
abbrev D9 : Type := Int × Int × Int × Int × Bool
abbrev D10 : Type := Int × Int × Int × Bool
abbrev D11 : Type := Int × Int × Int × Bool
noncomputable def D : Nat → Type
  | 0 => D0
  | 1 => D1
  | 2 => D2
  | 3 => D3
  | 4 => D4
  | 5 => D5
  | 6 => D6
  | 7 => D7
  | 8 => D8
  | 9 => D9
  | 10 => D10
  | 11 => D11
  | _ => Unit
noncomputable def flds : Nat → List Ty
  | 0 => [.int .i64, .str, .int .i64, .bool, .bool]
  | 1 => [.int .i64, .int .i64, .int .i64, .int .i64, .int .i64, .bool]
  | 2 => [.int .i64, (.slice (.int .u8)), (.slice (.named 2)), .bool]
  | 3 => [(.slice (.named 2)), .int .i64, .int .i64, .int .i64]
  | 4 => [.int .i64, .int .i64]
  | 5 => [(.slice (.int .u8)), .int .i64, .int .i64, (.slice (.named 1)), .int .i64, .int .i64]
  | 6 => [(.slice (.int .u8)), (.slice (.named 1)), .int .i64, .int .i64, .int .i64]
  | 7 => [.bool, .bool]
  | 8 => [.int .i64, .int .i64, .bool, .bool, .int .i64]
  | 9 => [.int .i64, .int .i64, .int .i64, .int .i64, .bool]
  | 10 => [.int .i64, .int .i64, .int .i64, .bool]
  | 11 => [.int .i64, .int .i64, .int .i64, .bool]
  | _ => []
noncomputable def toT : (r : Nat) → D r → Tup D (flds r)
  | 0 => fun (x : D0) => x
  | 1 => fun (x : D1) => x
  | 2 => fun (x : D2) => (x.c0, x.c1, x.c2, x.c3)
  | 3 => fun (x : D3) => x
  | 4 => fun (x : D4) => x
  | 5 => fun (x : D5) => x
  | 6 => fun (x : D6) => x
  | 7 => fun (x : D7) => x
  | 8 => fun (x : D8) => x
  | 9 => fun (x : D9) => x
  | 10 => fun (x : D10) => x
  | 11 => fun (x : D11) => x
  | _n + 12 => fun _ => ()
noncomputable def ofT : (r : Nat) → Tup D (flds r) → D r
  | 0 => fun (x : D0) => x
  | 1 => fun (x : D1) => x
  | 2 => fun (x : Int × List Int × List D2 × Bool) => D2.mk x.1 x.2.1 x.2.2.1 x.2.2.2
  | 3 => fun (x : D3) => x
  | 4 => fun (x : D4) => x
  | 5 => fun (x : D5) => x
  | 6 => fun (x : D6) => x
  | 7 => fun (x : D7) => x
  | 8 => fun (x : D8) => x
  | 9 => fun (x : D9) => x
  | 10 => fun (x : D10) => x
  | 11 => fun (x : D11) => x
  | _n + 12 => fun _ => ()
noncomputable def zero2 : D2 := D2.mk 0 [] [] false
noncomputable def zero0 : D0 := (0, ByteArray.empty, 0, false, false)
noncomputable def zero1 : D1 := (0, 0, 0, 0, 0, false)
noncomputable def zero3 : D3 := ([], 0, 0, 0)
noncomputable def zero4 : D4 := (0, 0)
noncomputable def zero5 : D5 := ([], 0, 0, [], 0, 0)
noncomputable def zero6 : D6 := ([], [], 0, 0, 0)
noncomputable def zero7 : D7 := (false, false)
noncomputable def zero8 : D8 := (0, 0, false, false, 0)
noncomputable def zero9 : D9 := (0, 0, 0, 0, false)
noncomputable def zero10 : D10 := (0, 0, 0, false)
noncomputable def zero11 : D11 := (0, 0, 0, false)
noncomputable def zeros : (r : Nat) → D r
  | 0 => zero0
  | 1 => zero1
  | 2 => zero2
  | 3 => zero3
  | 4 => zero4
  | 5 => zero5
  | 6 => zero6
  | 7 => zero7
  | 8 => zero8
  | 9 => zero9
  | 10 => zero10
  | 11 => zero11
  | _n + 12 => ()
noncomputable def deep0 (v : D0) : List IV := [.int .i64 v.1] ++ [.str v.2.1] ++ [.int .i64 v.2.2.1] ++ [.bool v.2.2.2.1] ++ [.bool v.2.2.2.2]
noncomputable def deep1 (v : D1) : List IV := [.int .i64 v.1] ++ [.int .i64 v.2.1] ++ [.int .i64 v.2.2.1] ++ [.int .i64 v.2.2.2.1] ++ [.int .i64 v.2.2.2.2.1] ++ [.bool v.2.2.2.2.2]
mutual
noncomputable def deep2 : D2 → List IV
  | .mk x0 x1 x2 x3 => [.int .i64 x0] ++ [.list 1 (x1.map fun y => [.int .u8 y])] ++ [.list 4 (deep2s x2)] ++ [.bool x3]
noncomputable def deep2s : List D2 → List (List IV)
  | [] => []
  | x :: l => deep2 x :: deep2s l
end
theorem deep2s_map : ∀ l, deep2s l = l.map deep2
  | [] => by rw [deep2s]; rfl
  | _x :: l => by rw [deep2s, deep2s_map l]; rfl
noncomputable def deep3 (v : D3) : List IV := [.list 4 (v.1.map fun y => deep2 y)] ++ [.int .i64 v.2.1] ++ [.int .i64 v.2.2.1] ++ [.int .i64 v.2.2.2]
noncomputable def deep4 (v : D4) : List IV := [.int .i64 v.1] ++ [.int .i64 v.2]
noncomputable def deep5 (v : D5) : List IV := [.list 1 (v.1.map fun y => [.int .u8 y])] ++ [.int .i64 v.2.1] ++ [.int .i64 v.2.2.1] ++ [.list 6 (v.2.2.2.1.map fun y => deep1 y)] ++ [.int .i64 v.2.2.2.2.1] ++ [.int .i64 v.2.2.2.2.2]
noncomputable def deep6 (v : D6) : List IV := [.list 1 (v.1.map fun y => [.int .u8 y])] ++ [.list 6 (v.2.1.map fun y => deep1 y)] ++ [.int .i64 v.2.2.1] ++ [.int .i64 v.2.2.2.1] ++ [.int .i64 v.2.2.2.2]
noncomputable def deep7 (v : D7) : List IV := [.bool v.1] ++ [.bool v.2]
noncomputable def deep8 (v : D8) : List IV := [.int .i64 v.1] ++ [.int .i64 v.2.1] ++ [.bool v.2.2.1] ++ [.bool v.2.2.2.1] ++ [.int .i64 v.2.2.2.2]
noncomputable def deep9 (v : D9) : List IV := [.int .i64 v.1] ++ [.int .i64 v.2.1] ++ [.int .i64 v.2.2.1] ++ [.int .i64 v.2.2.2.1] ++ [.bool v.2.2.2.2]
noncomputable def deep10 (v : D10) : List IV := [.int .i64 v.1] ++ [.int .i64 v.2.1] ++ [.int .i64 v.2.2.1] ++ [.bool v.2.2.2]
noncomputable def deep11 (v : D11) : List IV := [.int .i64 v.1] ++ [.int .i64 v.2.1] ++ [.int .i64 v.2.2.1] ++ [.bool v.2.2.2]
noncomputable def deeps : (r : Nat) → D r → List IV
  | 0 => deep0
  | 1 => deep1
  | 2 => deep2
  | 3 => deep3
  | 4 => deep4
  | 5 => deep5
  | 6 => deep6
  | 7 => deep7
  | 8 => deep8
  | 9 => deep9
  | 10 => deep10
  | 11 => deep11
  | _n + 12 => fun _ => []
noncomputable def tab : List (Nat × TI D) := [
  (3, ⟨.int .i64, 1, 8, false, [.int .i64 0], some (.int .i64), false⟩),
  (4, ⟨.bool, 1, 1, false, [.bool false], some .bool, false⟩),
  (22, ⟨.slice 5, 1, 24, false, [.nil], some (.slice (.int .u8)), false⟩),
  (29, ⟨.slice 55, 1, 24, false, [.nil], some (.slice (.named 2)), false⟩),
  (55, ⟨.struct [(0, 1, false), (1, 1, false), (2, 1, false), (3, 1, false)], 4, 64, true, [.int .i64 0, .nil, .nil, .bool false], some (.named 2), false⟩),
  (35, ⟨.slice 93, 1, 24, false, [.nil], some (.slice (.named 1)), false⟩),
  (23, ⟨.int .i64, 1, 8, false, [.int .i64 0], some (.int .i64), false⟩),
  (92, ⟨.struct [(0, 1, false), (1, 1, false), (2, 1, false), (3, 1, false), (4, 1, false)], 5, 72, true, [.nil, .nil, .int .i64 0, .int .i64 0, .int .i64 0], some (.named 6), false⟩),
  (5, ⟨.int .u8, 1, 1, false, [.int .u8 0], some (.int .u8), false⟩),
  (93, ⟨.struct [(0, 1, false), (1, 1, false), (2, 1, false), (3, 1, false), (4, 1, false), (5, 1, false)], 6, 48, true, [.int .i64 0, .int .i64 0, .int .i64 0, .int .i64 0, .int .i64 0, .bool false], some (.named 1), true⟩),
  (124, ⟨.struct [(0, 1, false), (1, 1, false), (2, 1, false), (3, 1, false), (4, 1, false)], 5, 40, true, [.int .i64 0, .int .i64 0, .int .i64 0, .int .i64 0, .bool false], some (.named 9), false⟩),
  (139, ⟨.struct [(0, 1, false), (1, 1, false), (2, 1, false), (3, 1, false)], 4, 32, true, [.int .i64 0, .int .i64 0, .int .i64 0, .bool false], some (.named 11), false⟩),
  (9, ⟨.str, 1, 16, false, [.str ByteArray.empty], some .str, false⟩),
  (48, ⟨.struct [(0, 1, false), (1, 1, false), (2, 1, false), (3, 1, false), (4, 1, false)], 5, 40, true, [.int .i64 0, .str ByteArray.empty, .int .i64 0, .bool false, .bool false], some (.named 0), true⟩),
  (121, ⟨.struct [(0, 1, false), (1, 1, false), (2, 1, false), (3, 1, false), (4, 1, false)], 5, 32, true, [.int .i64 0, .int .i64 0, .bool false, .bool false, .int .i64 0], some (.named 8), false⟩),
  (134, ⟨.struct [(0, 1, false), (1, 1, false), (2, 1, false), (3, 1, false)], 4, 32, true, [.int .i64 0, .int .i64 0, .int .i64 0, .bool false], some (.named 10), false⟩),
  (43, ⟨.struct [(0, 1, false), (1, 1, false), (2, 1, false), (3, 1, false), (4, 1, false)], 5, 40, true, [.int .i64 0, .str ByteArray.empty, .int .i64 0, .bool false, .bool false], some (.named 0), false⟩),
  (32, ⟨.slice 47, 1, 24, false, [.nil], some (.slice (.named 1)), false⟩),
  (85, ⟨.struct [(0, 1, false), (1, 1, false)], 2, 16, true, [.int .i64 0, .int .i64 0], some (.named 4), false⟩),
  (87, ⟨.struct [(0, 1, false), (1, 1, false), (2, 1, false), (3, 1, false), (4, 2, true)], 6, 80, true, [.nil, .int .i64 0, .int .i64 0, .nil, .int .i64 0, .int .i64 0], some (.named 5), false⟩),
  (47, ⟨.struct [(0, 1, false), (1, 1, false), (2, 1, false), (3, 1, false), (4, 1, false), (5, 1, false)], 6, 48, true, [.int .i64 0, .int .i64 0, .int .i64 0, .int .i64 0, .int .i64 0, .bool false], some (.named 1), false⟩),
  (41, ⟨.slice 3, 1, 24, false, [.nil], some (.slice (.int .i64)), false⟩),
  (114, ⟨.slice 22, 1, 24, false, [.nil], some (.slice (.slice (.int .u8))), false⟩),
  (78, ⟨.func, 1, 8, false, [.nilf], none, false⟩),
  (108, ⟨.struct [(0, 1, false), (1, 1, false)], 2, 2, true, [.bool false, .bool false], some (.named 7), false⟩),
  (113, ⟨.int .u64, 1, 8, false, [.int .u64 0], some (.int .u64), false⟩),
  (127, ⟨.int .u32, 1, 4, false, [.int .u32 0], some (.int .u32), false⟩),
  (63, ⟨.struct [(0, 1, false), (1, 1, false), (2, 1, false), (3, 1, false)], 4, 48, true, [.nil, .int .i64 0, .int .i64 0, .int .i64 0], some (.named 3), false⟩),
  (94, ⟨.arr 65 43, 325, 2600, true, [.int .i64 0, .str ByteArray.empty, .int .i64 0, .bool false, .bool false, .int .i64 0, .str ByteArray.empty, .int .i64 0, .bool false, .bool false, .int .i64 0, .str ByteArray.empty, .int .i64 0, .bool false, .bool false, .int .i64 0, .str ByteArray.empty, .int .i64 0, .bool false, .bool false, .int .i64 0, .str ByteArray.empty, .int .i64 0, .bool false, .bool false, .int .i64 0, .str ByteArray.empty, .int .i64 0, .bool false, .bool false, .int .i64 0, .str ByteArray.empty, .int .i64 0, .bool false, .bool false, .int .i64 0, .str ByteArray.empty, .int .i64 0, .bool false, .bool false, .int .i64 0, .str ByteArray.empty, .int .i64 0, .bool false, .bool false, .int .i64 0, .str ByteArray.empty, .int .i64 0, .bool false, .bool false, .int .i64 0, .str ByteArray.empty, .int .i64 0, .bool false, .bool false, .int .i64 0, .str ByteArray.empty, .int .i64 0, .bool false, .bool false, .int .i64 0, .str ByteArray.empty, .int .i64 0, .bool false, .bool false, .int .i64 0, .str ByteArray.empty, .int .i64 0, .bool false, .bool false, .int .i64 0, .str ByteArray.empty, .int .i64 0, .bool false, .bool false, .int .i64 0, .str ByteArray.empty, .int .i64 0, .bool false, .bool false, .int .i64 0, .str ByteArray.empty, .int .i64 0, .bool false, .bool false, .int .i64 0, .str ByteArray.empty, .int .i64 0, .bool false, .bool false, .int .i64 0, .str ByteArray.empty, .int .i64 0, .bool false, .bool false, .int .i64 0, .str ByteArray.empty, .int .i64 0, .bool false, .bool false, .int .i64 0, .str ByteArray.empty, .int .i64 0, .bool false, .bool false, .int .i64 0, .str ByteArray.empty, .int .i64 0, .bool false, .bool false, .int .i64 0, .str ByteArray.empty, .int .i64 0, .bool false, .bool false, .int .i64 0, .str ByteArray.empty, .int .i64 0, .bool false, .bool false, .int .i64 0, .str ByteArray.empty, .int .i64 0, .bool false, .bool false, .int .i64 0, .str ByteArray.empty, .int .i64 0, .bool false, .bool false, .int .i64 0, .str ByteArray.empty, .int .i64 0, .bool false, .bool false, .int .i64 0, .str ByteArray.empty, .int .i64 0, .bool false, .bool false, .int .i64 0, .str ByteArray.empty, .int .i64 0, .bool false, .bool false, .int .i64 0, .str ByteArray.empty, .int .i64 0, .bool false, .bool false, .int .i64 0, .str ByteArray.empty, .int .i64 0, .bool false, .bool false, .int .i64 0, .str ByteArray.empty, .int .i64 0, .bool false, .bool false, .int .i64 0, .str ByteArray.empty, .int .i64 0, .bool false, .bool false, .int .i64 0, .str ByteArray.empty, .int .i64 0, .bool false, .bool false, .int .i64 0, .str ByteArray.empty, .int .i64 0, .bool false, .bool false, .int .i64 0, .str ByteArray.empty, .int .i64 0, .bool false, .bool false, .int .i64 0, .str ByteArray.empty, .int .i64 0, .bool false, .bool false, .int .i64 0, .str ByteArray.empty, .int .i64 0, .bool false, .bool false, .int .i64 0, .str ByteArray.empty, .int .i64 0, .bool false, .bool false, .int .i64 0, .str ByteArray.empty, .int .i64 0, .bool false, .bool false, .int .i64 0, .str ByteArray.empty, .int .i64 0, .bool false, .bool false, .int .i64 0, .str ByteArray.empty, .int .i64 0, .bool false, .bool false, .int .i64 0, .str ByteArray.empty, .int .i64 0, .bool false, .bool false, .int .i64 0, .str ByteArray.empty, .int .i64 0, .bool false, .bool false, .int .i64 0, .str ByteArray.empty, .int .i64 0, .bool false, .bool false, .int .i64 0, .str ByteArray.empty, .int .i64 0, .bool false, .bool false, .int .i64 0, .str ByteArray.empty, .int .i64 0, .bool false, .bool false, .int .i64 0, .str ByteArray.empty, .int .i64 0, .bool false, .bool false, .int .i64 0, .str ByteArray.empty, .int .i64 0, .bool false, .bool false, .int .i64 0, .str ByteArray.empty, .int .i64 0, .bool false, .bool false, .int .i64 0, .str ByteArray.empty, .int .i64 0, .bool false, .bool false, .int .i64 0, .str ByteArray.empty, .int .i64 0, .bool false, .bool false, .int .i64 0, .str ByteArray.empty, .int .i64 0, .bool false, .bool false, .int .i64 0, .str ByteArray.empty, .int .i64 0, .bool false, .bool false, .int .i64 0, .str ByteArray.empty, .int .i64 0, .bool false, .bool false, .int .i64 0, .str ByteArray.empty, .int .i64 0, .bool false, .bool false, .int .i64 0, .str ByteArray.empty, .int .i64 0, .bool false, .bool false, .int .i64 0, .str ByteArray.empty, .int .i64 0, .bool false, .bool false, .int .i64 0, .str ByteArray.empty, .int .i64 0, .bool false, .bool false, .int .i64 0, .str ByteArray.empty, .int .i64 0, .bool false, .bool false, .int .i64 0, .str ByteArray.empty, .int .i64 0, .bool false, .bool false, .int .i64 0, .str ByteArray.empty, .int .i64 0, .bool false, .bool false, .int .i64 0, .str ByteArray.empty, .int .i64 0, .bool false, .bool false, .int .i64 0, .str ByteArray.empty, .int .i64 0, .bool false, .bool false, .int .i64 0, .str ByteArray.empty, .int .i64 0, .bool false, .bool false], none, false⟩),
  (117, ⟨.int .u64, 1, 8, false, [.int .u64 0], some (.int .u64), false⟩),
  (96, ⟨.slice 48, 1, 24, false, [.nil], some (.slice (.named 0)), false⟩)]
noncomputable def cx : Cx D := mkCx tab flds toT ofT zeros deeps
theorem deep2_eq (v : D2) : deep2 v = deepTup cx (flds 2) (toT 2 v) := by
  cases v with
  | mk _x0 _x1 _x2 _x3 => rw [deep2, deep2s_map]; rfl
theorem cxOk : CxOk cx Try.prog :=
  mkCx_ok (fun r => match r with
  | 0 => rfl
  | 1 => rfl
  | 2 => rfl
  | 3 => rfl
  | 4 => rfl
  | 5 => rfl
  | 6 => rfl
  | 7 => rfl
  | 8 => rfl
  | 9 => rfl
  | 10 => rfl
  | 11 => rfl
  | _n + 12 => rfl) (fun r x => match r, x with
  | 0, _ => rfl
  | 1, _ => rfl
  | 2, _ => rfl
  | 3, _ => rfl
  | 4, _ => rfl
  | 5, _ => rfl
  | 6, _ => rfl
  | 7, _ => rfl
  | 8, _ => rfl
  | 9, _ => rfl
  | 10, _ => rfl
  | 11, _ => rfl
  | _n + 12, _ => rfl) (fun r v => match r, v with
  | 0, _ => rfl
  | 1, _ => rfl
  | 2, v => deep2_eq v
  | 3, _ => rfl
  | 4, _ => rfl
  | 5, _ => rfl
  | 6, _ => rfl
  | 7, _ => rfl
  | 8, _ => rfl
  | 9, _ => rfl
  | 10, _ => rfl
  | 11, _ => rfl
  | _n + 12, _ => rfl) (by kernel_rfl)
abbrev KX (R : Type) : Type := Ex → List (PV D) → List (Option (Am.Obj D)) → Option R
abbrev KR (R : Type) : Type := RV D → Option R
theorem mixed : Try.prog.follows .mixedOrders = true := by kernel_rfl
def lit0 : ByteArray := ⟨#[108, 101, 110, 32, 111, 117, 116, 32, 111, 102, 32, 114, 97, 110, 103, 101]⟩
def lit1 : ByteArray := ⟨#[99, 97, 110, 110, 111, 116, 32, 98, 101, 32, 110, 101, 103, 97, 116, 105, 118, 101]⟩
def lit2 : ByteArray := ⟨#[0, 1, 2, 2, 3, 3, 3, 3, 4, 4, 4, 4, 4, 4, 4, 4, 5, 5, 5, 5, 5, 5, 5, 5, 5, 5, 5, 5, 5, 5, 5, 5, 6, 6, 6, 6, 6, 6, 6, 6, 6, 6, 6, 6, 6, 6, 6, 6, 6, 6, 6, 6, 6, 6, 6, 6, 6, 6, 6, 6, 6, 6, 6, 6, 7, 7, 7, 7, 7, 7, 7, 7, 7, 7, 7, 7, 7, 7, 7, 7, 7, 7, 7, 7, 7, 7, 7, 7, 7, 7, 7, 7, 7, 7, 7, 7, 7, 7, 7, 7, 7, 7, 7, 7, 7, 7, 7, 7, 7, 7, 7, 7, 7, 7, 7, 7, 7, 7, 7, 7, 7, 7, 7, 7, 7, 7, 7, 7, 8, 8, 8, 8, 8, 8, 8, 8, 8, 8, 8, 8, 8, 8, 8, 8, 8, 8, 8, 8, 8, 8, 8, 8, 8, 8, 8, 8, 8, 8, 8, 8, 8, 8, 8, 8, 8, 8, 8, 8, 8, 8, 8, 8, 8, 8, 8, 8, 8, 8, 8, 8, 8, 8, 8, 8, 8, 8, 8, 8, 8, 8, 8, 8, 8, 8, 8, 8, 8, 8, 8, 8, 8, 8, 8, 8, 8, 8, 8, 8, 8, 8, 8, 8, 8, 8, 8, 8, 8, 8, 8, 8, 8, 8, 8, 8, 8, 8, 8, 8, 8, 8, 8, 8, 8, 8, 8, 8, 8, 8, 8, 8, 8, 8, 8, 8, 8, 8, 8, 8, 8, 8, 8, 8, 8, 8, 8, 8]⟩
def lit3 : ByteArray := ⟨#[69, 100, 105, 116, 105, 111, 110, 73, 100]⟩
def lit4 : ByteArray := ⟨#[84, 114, 97, 99, 107, 75, 105, 110, 100]⟩
def lit5 : ByteArray := ⟨#[67, 104, 97, 112, 84, 105, 116, 108, 101]⟩
def lit6 : ByteArray := ⟨#[84, 114, 97, 99, 107, 83, 99, 97, 108, 101]⟩
def lit7 : ByteArray := ⟨#[84, 114, 97, 99, 107, 78, 97, 109, 101]⟩
def lit8 : ByteArray := ⟨#[69, 100, 105, 116, 77, 101, 100, 105, 97]⟩
noncomputable def kp : FuncId → List Bool := fun _f => []

end Go.Proofs.Ytklhjegfkpmdoaa

/-! What the functions do, as plain functions; and that they do. -/
namespace Go.Proofs.Ytklhjegfkpmdoaa
open Go Go.Am
abbrev f82_T (R : Type) : Type := Int → (Int → Option R) → Option R
/-! ## 82: diorama/bits.all -/
noncomputable def f82 {R : Type} (_k : Nat) (a0 : Int) (K : Int → Option R) : Option R :=
 bif decide ((IntKind.i64.wrap (7 * a0)) < 0) then
  none
 else
  K (IntKind.i64.wrap ((shlI .i64 1 (IntKind.i64.wrap (7 * a0))) - 1))
noncomputable def f82_d {R : Type} (g : f82_T R) (e : Dr D R) : Dr D R := door [.int .i64] [] (fun (x : (Int × Unit)) (_y : (Unit)) K => g x.1 (fun z0 => K ⟨.int .i64 z0, []⟩)) e
noncomputable def f82_o {R : Type} (_k : Nat) : Orc D R := noOrc
theorem f82_o_ok {R : Type} (k : Nat) : OrcOk Try.prog cx (f82_o (R := R) k) := OrcOk.no
noncomputable def f82_b : Code := bodyOf Try.f82
noncomputable def f82_ann : Nat → Option LAnn := fun _key => none
noncomputable def f82_r {R : Type} (_k : Nat) : Lrc D R := noLrc
theorem f82_ok {R : Type} (k : Nat) {e : Dr D R} (he : FnOk Try.prog cx 82 e) : FnOk Try.prog cx 82 (f82_d (f82 k) e) :=
  he.door fun _x _y => body_ok (keep := kp) (ann := f82_ann) (lrc := f82_r (R := R) k) (N := 7) (n0 := 0) (c := []) cxOk mixed (f82_o_ok k) (body := f82_b) (by kernel_rfl : Try.prog.funcs[82]? = some Try.f82) (by kernel_rfl) (by kernel_rfl) (by kernel_rfl) (by kernel_rfl) (of_decide_eq_true (by kernel_rfl)) (L := []) (by kernel_rfl) trivial (J := []) (by kernel_rfl) trivial (LrcNat.no) (fun _K => by kernel_rfl)

abbrev f91_T (R : Type) : Type := Int → Int → (List Int → Option R) → Option R
/-! ## 91: diorama/bits.big -/
noncomputable def f91_l3 {R : Type} : Nat → Int → Int → List Int → (List Int → Option R) → Option R
  | 0, _, _, _, _ => none
  | k + 1, v1, v2, v3, X0 =>
  bif decide (v2 ≥ 0) then
   bif inb v2 v3.length then
    f91_l3 k (shrI .u64 v1 8) (IntKind.i64.wrap (v2 - 1)) (v3.set v2.toNat (IntKind.u8.wrap (v1))) X0
   else
    none
  else
   X0 v3
noncomputable def f91 {R : Type} (k : Nat) (a0 a1 : Int) (K : List Int → Option R) : Option R :=
 bif (decide ((0 : Int) ≤ a1)) && (decide (a1 ≤ a1)) && (decide (a1 * ((1 : Nat) : Int) ≤ 140737488355328)) then
  f91_l3 k a0 (IntKind.i64.wrap (a1 - 1)) (List.replicate a1.toNat (0 : Int)) K
 else
  none
noncomputable def f91_d {R : Type} (g : f91_T R) (e : Dr D R) : Dr D R := door [.int .u64, .int .i64] [] (fun (x : (Int × Int × Unit)) (_y : (Unit)) K => g x.1 x.2.1 (fun z0 => K ⟨.own 0, [some (.row (.int .u8) z0 true)]⟩)) e
noncomputable def f91_o {R : Type} (_k : Nat) : Orc D R := noOrc
theorem f91_o_ok {R : Type} (k : Nat) : OrcOk Try.prog cx (f91_o (R := R) k) := OrcOk.no
noncomputable def f91_b : Code := bodyOf Try.f91
noncomputable def f91_l3_a : LAnn := ⟨⟨[], [0, 5, 6], [131216], []⟩, exOf (none) [(0, ⟨[], [5], [131216], []⟩)]⟩
noncomputable def f91_ann : Nat → Option LAnn := fun key => bif Nat.beq key 3 then some f91_l3_a else none
noncomputable def f91_l3_b : Code := loopAt f91_b 0
noncomputable def f91_l3_g {R : Type} (k : Nat) (x : (Int × Unit × Int × Unit)) (y : (List Int × Unit)) (K : KX R) : Option R := f91_l3 k x.1 x.2.2.1 y.1 (fun z0 => K (.exit 0) [.own 131216] [some (.row (.int .u8) z0 true)])
noncomputable def f91_l3_d {R : Type} (k : Nat) : Lr D R := ldoor [.int .u64, .own 131216, .int .i64] [some (.row (.int .u8) true)] (f91_l3_g k)
noncomputable def f91_l3_r {R : Type} (_k : Nat) : Lrc D R := noLrc
theorem f91_l3_d_ok {R : Type} : ∀ k, LoopOk Try.prog cx 23 0 f91_ann (f91_l3_d (R := R) k) f91_l3_b :=
  loop_ok (keep := kp) (lrc := f91_l3_r (R := R)) cxOk mixed (f91_o_ok) (show f91_ann (Am.keyOf f91_l3_b) = some f91_l3_a by kernel_rfl) (L := []) (by kernel_rfl) (fun _k => trivial) (J := []) (by kernel_rfl) (fun _k => trivial) (fun _k => LrcNat.no) (fun _x _y _K => by kernel_rfl) (fun _k _x _y _K => by kernel_rfl)
noncomputable def f91_r {R : Type} (k : Nat) : Lrc D R := (lrcAdd 3 (f91_l3_d k) noLrc)
theorem f91_ok {R : Type} (k : Nat) {e : Dr D R} (he : FnOk Try.prog cx 91 e) : FnOk Try.prog cx 91 (f91_d (f91 k) e) :=
  he.door fun _x _y => body_ok (keep := kp) (ann := f91_ann) (lrc := f91_r (R := R) k) (N := 23) (n0 := 0) (c := []) cxOk mixed (f91_o_ok k) (body := f91_b) (by kernel_rfl : Try.prog.funcs[91]? = some Try.f91) (by kernel_rfl) (by kernel_rfl) (by kernel_rfl) (by kernel_rfl) (of_decide_eq_true (by kernel_rfl)) (L := [f91_l3_b]) (by kernel_rfl) (⟨(f91_l3_d_ok k).use (by kernel_rfl), trivial⟩) (J := []) (by kernel_rfl) trivial ((LrcNat.add (f91_l3_d_ok k).2 LrcNat.no)) (fun _K => by kernel_rfl)

abbrev f83_T (R : Type) : Type := Int → Int → (List Int → Option R) → Option R
/-! ## 83: diorama/bits.mark -/
noncomputable def f83 {R : Type} (k : Nat) (a0 a1 : Int) (K : List Int → Option R) : Option R :=
 bif decide ((IntKind.i64.wrap (7 * a1)) < 0) then
  none
 else
  f91 k (orI .u64 a0 (shlI .u64 1 (IntKind.i64.wrap (7 * a1)))) a1 K
noncomputable def f83_d {R : Type} (g : f83_T R) (e : Dr D R) : Dr D R := door [.int .u64, .int .i64] [] (fun (x : (Int × Int × Unit)) (_y : (Unit)) K => g x.1 x.2.1 (fun z0 => K ⟨.own 0, [some (.row (.int .u8) z0 true)]⟩)) e
noncomputable def f83_o {R : Type} (k : Nat) : Orc D R := (orcAdd 91 (f91_d (f91 k) noDr) noOrc)
theorem f83_o_ok {R : Type} (k : Nat) : OrcOk Try.prog cx (f83_o (R := R) k) := (OrcOk.add (f91_ok k FnOk.no) OrcOk.no)
noncomputable def f83_b : Code := bodyOf Try.f83
noncomputable def f83_ann : Nat → Option LAnn := fun _key => none
noncomputable def f83_r {R : Type} (_k : Nat) : Lrc D R := noLrc
theorem f83_ok {R : Type} (k : Nat) {e : Dr D R} (he : FnOk Try.prog cx 83 e) : FnOk Try.prog cx 83 (f83_d (f83 k) e) :=
  he.door fun _x _y => body_ok (keep := kp) (ann := f83_ann) (lrc := f83_r (R := R) k) (N := 12) (n0 := 0) (c := []) cxOk mixed (f83_o_ok k) (body := f83_b) (by kernel_rfl : Try.prog.funcs[83]? = some Try.f83) (by kernel_rfl) (by kernel_rfl) (by kernel_rfl) (by kernel_rfl) (of_decide_eq_true (by kernel_rfl)) (L := []) (by kernel_rfl) trivial (J := []) (by kernel_rfl) trivial (LrcNat.no) (fun _K => by delta f83 f83_o; generalize @f91 R = a0; revert a0; refine id ?_; intros; kernel_rfl)

abbrev f52_T (R : Type) : Type := Int → Int → (Int → List Int → Option R) → Option R
/-! ## 52: diorama/bits.PutVint -/
noncomputable def f52_l5 {R : Type} : Nat → Int → Int → (Int → Int → Option R) → Option R
  | 0, _, _, _ => none
  | k + 1, v1, v2, X0 =>
  bif decide (v2 < 8) then
   f82 k v2 (fun v3 =>
    bif decide (v1 ≥ v3) then
     f52_l5 k v1 (IntKind.i64.wrap (v2 + 1)) X0
    else
     X0 v1 v2)
  else
   X0 v1 v2
noncomputable def f52 {R : Type} (k : Nat) (a0 a1 : Int) (K : Int → List Int → Option R) : Option R :=
 bif decide (a1 < 0) then
  K 1 ([] : List Int)
 else
  bif decide (a1 > 8) then
   K 1 ([] : List Int)
  else
   bif decide (a0 < 0) then
    K 1 ([] : List Int)
   else
    bif (a1 == 0) then
     f52_l5 k a0 1 (fun v4 v5 =>
      f82 k v5 (fun v6 =>
      bif decide (v4 ≥ v6) then
      K 1 ([] : List Int)
      else
      f83 k (IntKind.u64.wrap (v4)) v5 (fun v7 =>
      K 0 v7)))
    else
     f82 k a1 (fun v8 =>
      bif decide (a0 ≥ v8) then
      K 1 ([] : List Int)
      else
      f83 k (IntKind.u64.wrap (a0)) a1 (fun v9 =>
      K 0 v9))
noncomputable def f52_d {R : Type} (g : f52_T R) (e : Dr D R) : Dr D R := door [.int .i64, .int .i64] [] (fun (x : (Int × Int × Unit)) (_y : (Unit)) K => g x.1 x.2.1 (fun z0 z1 => K ⟨.tup [.own 0, .int .i64 z0], [some (.row (.int .u8) z1 true)]⟩)) e
noncomputable def f52_o {R : Type} (k : Nat) : Orc D R := (orcAdd 83 (f83_d (f83 k) noDr) (orcAdd 82 (f82_d (f82 k) noDr) noOrc))
theorem f52_o_ok {R : Type} (k : Nat) : OrcOk Try.prog cx (f52_o (R := R) k) := (OrcOk.add (f83_ok k FnOk.no) (OrcOk.add (f82_ok k FnOk.no) OrcOk.no))
noncomputable def f52_b : Code := bodyOf Try.f52
noncomputable def f52_l5_a : LAnn := ⟨⟨[], [0, 1], [], []⟩, exOf (none) [(0, ⟨[], [0, 1], [], []⟩)]⟩
noncomputable def f52_ann : Nat → Option LAnn := fun key => bif Nat.beq key 5 then some f52_l5_a else none
noncomputable def f52_l5_b : Code := loopAt f52_b 0
noncomputable def f52_l5_g {R : Type} (k : Nat) (x : (Int × Int × Unit)) (_y : (Unit)) (K : KX R) : Option R := f52_l5 k x.1 x.2.1 (fun z0 z1 => K (.exit 0) [.int .i64 z0, .int .i64 z1] [])
noncomputable def f52_l5_d {R : Type} (k : Nat) : Lr D R := ldoor [.int .i64, .int .i64] [] (f52_l5_g k)
noncomputable def f52_l5_r {R : Type} (_k : Nat) : Lrc D R := noLrc
theorem f52_l5_d_ok {R : Type} : ∀ k, LoopOk Try.prog cx 36 0 f52_ann (f52_l5_d (R := R) k) f52_l5_b :=
  loop_ok (keep := kp) (lrc := f52_l5_r (R := R)) cxOk mixed (f52_o_ok) (show f52_ann (Am.keyOf f52_l5_b) = some f52_l5_a by kernel_rfl) (L := []) (by kernel_rfl) (fun _k => trivial) (J := []) (by kernel_rfl) (fun _k => trivial) (fun _k => LrcNat.no) (fun _x _y _K => by kernel_rfl) (fun _k _x _y _K => by kernel_rfl)
noncomputable def f52_r {R : Type} (k : Nat) : Lrc D R := (lrcAdd 5 (f52_l5_d k) noLrc)
theorem f52_ok {R : Type} (k : Nat) {e : Dr D R} (he : FnOk Try.prog cx 52 e) : FnOk Try.prog cx 52 (f52_d (f52 k) e) :=
  he.door fun _x _y => body_ok (keep := kp) (ann := f52_ann) (lrc := f52_r (R := R) k) (N := 36) (n0 := 0) (c := [(.tmp 4, .own 1099511627776 (.int .u8))]) cxOk mixed (f52_o_ok k) (body := f52_b) (by kernel_rfl : Try.prog.funcs[52]? = some Try.f52) (by kernel_rfl) (by kernel_rfl) (by kernel_rfl) (by kernel_rfl) (of_decide_eq_true (by kernel_rfl)) (L := [f52_l5_b]) (by kernel_rfl) (⟨(f52_l5_d_ok k).use (by kernel_rfl), trivial⟩) (J := []) (by kernel_rfl) trivial ((LrcNat.add (f52_l5_d_ok k).2 LrcNat.no)) (fun _K => by delta f52 f52_o; generalize @f82 R = a0; generalize @f83 R = a1; revert a0 a1; refine id ?_; intros; kernel_rfl)

abbrev f84_T (R : Type) : Type := Int → (List Int → Option R) → Option R
/-! ## 84: slices.Grow[[]byte,byte] -/
noncomputable def f84 {R : Type} (_k : Nat) (a0 : Int) (K : List Int → Option R) : Option R :=
 bif decide (a0 < 0) then
  none
 else
  bif decide ((IntKind.i64.wrap (a0 - (IntKind.i64.wrap (0 - 0)))) > 0) then
   bif decide ((0 : Int) ≤ (IntKind.i64.wrap (a0 - (IntKind.i64.wrap (0 - 0))))) && decide ((IntKind.i64.wrap (a0 - (IntKind.i64.wrap (0 - 0)))) * (1 : Nat) ≤ 140737488355328) then
    bif room 1 ((List.replicate ((IntKind.i64.wrap (a0 - (IntKind.i64.wrap (0 - 0)))).toNat) (0 : Int)).length) then
     bif upto 0 ((List.replicate ((IntKind.i64.wrap (a0 - (IntKind.i64.wrap (0 - 0)))).toNat) (0 : Int)).length) then
      K ((List.replicate ((IntKind.i64.wrap (a0 - (IntKind.i64.wrap (0 - 0)))).toNat) (0 : Int)).take 0)
     else
      none
    else
     none
   else
    none
  else
   K ([] : List Int)
noncomputable def f84_d {R : Type} (g : f84_T R) (e : Dr D R) : Dr D R := door [.nil, .int .i64] [] (fun (x : (Unit × Int × Unit)) (_y : (Unit)) K => g x.2.1 (fun z0 => K ⟨.own 0, [some (.row (.int .u8) z0 true)]⟩)) e
noncomputable def f84_o {R : Type} (_k : Nat) : Orc D R := noOrc
theorem f84_o_ok {R : Type} (k : Nat) : OrcOk Try.prog cx (f84_o (R := R) k) := OrcOk.no
noncomputable def f84_b : Code := bodyOf Try.f84
noncomputable def f84_ann : Nat → Option LAnn := fun _key => none
noncomputable def f84_r {R : Type} (_k : Nat) : Lrc D R := noLrc
theorem f84_ok {R : Type} (k : Nat) {e : Dr D R} (he : FnOk Try.prog cx 84 e) : FnOk Try.prog cx 84 (f84_d (f84 k) e) :=
  he.door fun _x _y => body_ok (keep := kp) (ann := f84_ann) (lrc := f84_r (R := R) k) (N := 27) (n0 := 0) (c := [(.tmp 4, .own 1099511627776 (.int .u8))]) cxOk mixed (f84_o_ok k) (body := f84_b) (by kernel_rfl : Try.prog.funcs[84]? = some Try.f84) (by kernel_rfl) (by kernel_rfl) (by kernel_rfl) (by kernel_rfl) (of_decide_eq_true (by kernel_rfl)) (L := []) (by kernel_rfl) trivial (J := []) (by kernel_rfl) trivial (LrcNat.no) (fun _K => by kernel_rfl)

abbrev f53_T (R : Type) : Type := List (List Int) → (List Int → Option R) → Option R
/-! ## 53: slices.Concat[[]byte,byte] -/
noncomputable def f53_l11 {R : Type} : Nat → List (List Int) → Int → Int → List Int → (List Int → Option R) → Option R
  | 0, _, _, _, _, _ => none
  | k + 1, v9, v10, v11, v12, X0 =>
  bif decide (v11 < v10) then
   bif inb v11 v9.length then
    bif room 1 (v12.length + (v9.getD v11.toNat []).length) then
     f53_l11 k v9 v10 (IntKind.i64.wrap (v11 + 1)) (v12 ++ (v9.getD v11.toNat [])) X0
    else
     none
   else
    none
  else
   X0 v12
noncomputable def f53_l3 {R : Type} : Nat → List (List Int) → Int → List (List Int) → Int → Int → (List (List Int) → Int → Option R) → Option R
  | 0, _, _, _, _, _, _ => none
  | k + 1, v1, v2, v3, v4, v5, X0 =>
  bif decide (v5 < v4) then
   bif inb v5 v3.length then
    bif decide ((IntKind.i64.wrap (v2 + ((v3.getD v5.toNat []).length : Int))) < 0) then
     none
    else
     f53_l3 k v1 (IntKind.i64.wrap (v2 + ((v3.getD v5.toNat []).length : Int))) v3 v4 (IntKind.i64.wrap (v5 + 1)) X0
   else
    none
  else
   X0 v1 v2
noncomputable def f53 {R : Type} (k : Nat) (a0 : List (List Int)) (K : List Int → Option R) : Option R :=
 f53_l3 k a0 0 a0 (a0.length : Int) 0 (fun v6 v7 =>
  f84 k v7 (fun v8 =>
   f53_l11 k v6 (v6.length : Int) 0 v8 K))
noncomputable def f53_d {R : Type} (g : f53_T R) (e : Dr D R) : Dr D R := door [.list (.slice (.int .u8))] [] (fun (x : (List (List Int) × Unit)) (_y : (Unit)) K => g x.1 (fun z0 => K ⟨.own 0, [some (.row (.int .u8) z0 true)]⟩)) e
noncomputable def f53_o {R : Type} (k : Nat) : Orc D R := (orcAdd 84 (f84_d (f84 k) noDr) noOrc)
theorem f53_o_ok {R : Type} (k : Nat) : OrcOk Try.prog cx (f53_o (R := R) k) := (OrcOk.add (f84_ok k FnOk.no) OrcOk.no)
noncomputable def f53_b : Code := bodyOf Try.f53
noncomputable def f53_l11_a : LAnn := ⟨⟨[(.tmp 6, .own 68719521792 (.int .u8))], [6, 25, 26, 27], [68719521792], []⟩, exOf (none) [(2, ⟨[], [6], [68719521792], []⟩)]⟩
noncomputable def f53_l3_a : LAnn := ⟨⟨[], [0, 3, 9, 10, 11], [], []⟩, exOf (none) [(0, ⟨[], [0, 3], [], []⟩)]⟩
noncomputable def f53_ann : Nat → Option LAnn := fun key => bif Nat.beq key 3 then some f53_l3_a else bif Nat.beq key 11 then some f53_l11_a else none
noncomputable def f53_l11_b : Code := loopAt f53_b 1
noncomputable def f53_l11_g {R : Type} (k : Nat) (x : (Unit × List (List Int) × Int × Int × Unit)) (y : (List Int × Unit)) (K : KX R) : Option R := f53_l11 k x.2.1 x.2.2.1 x.2.2.2.1 y.1 (fun z0 => K (.exit 2) [.own 68719521792] [some (.row (.int .u8) z0 true)])
noncomputable def f53_l11_d {R : Type} (k : Nat) : Lr D R := ldoor [.own 68719521792, .list (.slice (.int .u8)), .int .i64, .int .i64] [some (.row (.int .u8) true)] (f53_l11_g k)
noncomputable def f53_l11_r {R : Type} (_k : Nat) : Lrc D R := noLrc
theorem f53_l11_d_ok {R : Type} : ∀ k, LoopOk Try.prog cx 36 0 f53_ann (f53_l11_d (R := R) k) f53_l11_b :=
  loop_ok (keep := kp) (lrc := f53_l11_r (R := R)) cxOk mixed (f53_o_ok) (show f53_ann (Am.keyOf f53_l11_b) = some f53_l11_a by kernel_rfl) (L := []) (by kernel_rfl) (fun _k => trivial) (J := []) (by kernel_rfl) (fun _k => trivial) (fun _k => LrcNat.no) (fun _x _y _K => by kernel_rfl) (fun _k _x _y _K => by kernel_rfl)
noncomputable def f53_l3_b : Code := loopAt f53_b 0
noncomputable def f53_l3_g {R : Type} (k : Nat) (x : (List (List Int) × Int × List (List Int) × Int × Int × Unit)) (_y : (Unit)) (K : KX R) : Option R := f53_l3 k x.1 x.2.1 x.2.2.1 x.2.2.2.1 x.2.2.2.2.1 (fun z0 z1 => K (.exit 0) [.list (.slice (.int .u8)) z0, .int .i64 z1] [])
noncomputable def f53_l3_d {R : Type} (k : Nat) : Lr D R := ldoor [.list (.slice (.int .u8)), .int .i64, .list (.slice (.int .u8)), .int .i64, .int .i64] [] (f53_l3_g k)
noncomputable def f53_l3_r {R : Type} (_k : Nat) : Lrc D R := noLrc
theorem f53_l3_d_ok {R : Type} : ∀ k, LoopOk Try.prog cx 36 0 f53_ann (f53_l3_d (R := R) k) f53_l3_b :=
  loop_ok (keep := kp) (lrc := f53_l3_r (R := R)) cxOk mixed (f53_o_ok) (show f53_ann (Am.keyOf f53_l3_b) = some f53_l3_a by kernel_rfl) (L := []) (by kernel_rfl) (fun _k => trivial) (J := []) (by kernel_rfl) (fun _k => trivial) (fun _k => LrcNat.no) (fun _x _y _K => by kernel_rfl) (fun _k _x _y _K => by kernel_rfl)
noncomputable def f53_r {R : Type} (k : Nat) : Lrc D R := (lrcAdd 11 (f53_l11_d k) (lrcAdd 3 (f53_l3_d k) noLrc))
theorem f53_ok {R : Type} (k : Nat) {e : Dr D R} (he : FnOk Try.prog cx 53 e) : FnOk Try.prog cx 53 (f53_d (f53 k) e) :=
  he.door fun _x _y => body_ok (keep := kp) (ann := f53_ann) (lrc := f53_r (R := R) k) (N := 36) (n0 := 0) (c := []) cxOk mixed (f53_o_ok k) (body := f53_b) (by kernel_rfl : Try.prog.funcs[53]? = some Try.f53) (by kernel_rfl) (by kernel_rfl) (by kernel_rfl) (by kernel_rfl) (of_decide_eq_true (by kernel_rfl)) (L := [f53_l3_b, f53_l11_b]) (by kernel_rfl) (⟨(f53_l3_d_ok k).use (by kernel_rfl), (f53_l11_d_ok k).use (by kernel_rfl), trivial⟩) (J := []) (by kernel_rfl) trivial ((LrcNat.add (f53_l11_d_ok k).2 (LrcNat.add (f53_l3_d_ok k).2 LrcNat.no))) (fun _K => by delta f53 f53_o; generalize @f84 R = a0; revert a0; refine id ?_; intros; kernel_rfl)

abbrev f15_T (R : Type) : Type := Int → (Int → List Int → Option R) → Option R
/-! ## 15: diorama/element.Pad -/
noncomputable def f15_l5 {R : Type} : Nat → Int → Int → (Int → List Int → Option R) → Option R
  | 0, _, _, _ => none
  | k + 1, v1, v2, X0 =>
  f52 k (IntKind.i64.wrap ((IntKind.i64.wrap (v1 - 1)) - v2)) v2 (fun v3 v4 =>
   bif (v3 == 0) then
    bif (decide ((0 : Int) ≤ (IntKind.i64.wrap ((IntKind.i64.wrap (v1 - 1)) - v2)))) && (decide ((IntKind.i64.wrap ((IntKind.i64.wrap (v1 - 1)) - v2)) ≤ (IntKind.i64.wrap ((IntKind.i64.wrap (v1 - 1)) - v2)))) && (decide ((IntKind.i64.wrap ((IntKind.i64.wrap (v1 - 1)) - v2)) * ((1 : Nat) : Int) ≤ 140737488355328)) then
     f53 k ([[236], v4, (List.replicate ((IntKind.i64.wrap ((IntKind.i64.wrap (v1 - 1)) - v2)).toNat) (0 : Int))]) (fun v5 =>
      X0 0 v5)
    else
     none
   else
    f15_l5 k v1 (IntKind.i64.wrap (v2 + 1)) X0)
noncomputable def f15 {R : Type} (k : Nat) (a0 : Int) (K : Int → List Int → Option R) : Option R :=
 bif decide (a0 < 2) then
  K 1 ([] : List Int)
 else
  bif decide (a0 > 1048576) then
   K 1 ([] : List Int)
  else
   f15_l5 k a0 1 K
noncomputable def f15_d {R : Type} (g : f15_T R) (e : Dr D R) : Dr D R := door [.int .i64] [] (fun (x : (Int × Unit)) (_y : (Unit)) K => g x.1 (fun z0 z1 => K ⟨.tup [.own 0, .int .i64 z0], [some (.row (.int .u8) z1 true)]⟩)) e
noncomputable def f15_o {R : Type} (k : Nat) : Orc D R := (orcAdd 53 (f53_d (f53 k) noDr) (orcAdd 52 (f52_d (f52 k) noDr) noOrc))
theorem f15_o_ok {R : Type} (k : Nat) : OrcOk Try.prog cx (f15_o (R := R) k) := (OrcOk.add (f53_ok k FnOk.no) (OrcOk.add (f52_ok k FnOk.no) OrcOk.no))
noncomputable def f15_b : Code := bodyOf Try.f15
noncomputable def f15_l5_a : LAnn := ⟨⟨[], [0, 4], [], []⟩, exOf (some ⟨[], [2, 3], [524848], []⟩) []⟩
noncomputable def f15_ann : Nat → Option LAnn := fun key => bif Nat.beq key 5 then some f15_l5_a else none
noncomputable def f15_l5_b : Code := loopAt f15_b 0
noncomputable def f15_l5_g {R : Type} (k : Nat) (x : (Int × Int × Unit)) (_y : (Unit)) (K : KX R) : Option R := f15_l5 k x.1 x.2.1 (fun z0 z1 => K (.ret) [.own 524848, .int .i64 z0] [some (.row (.int .u8) z1 true)])
noncomputable def f15_l5_d {R : Type} (k : Nat) : Lr D R := ldoor [.int .i64, .int .i64] [] (f15_l5_g k)
noncomputable def f15_l5_r {R : Type} (_k : Nat) : Lrc D R := noLrc
theorem f15_l5_d_ok {R : Type} : ∀ k, LoopOk Try.prog cx 35 0 f15_ann (f15_l5_d (R := R) k) f15_l5_b :=
  loop_ok (keep := kp) (lrc := f15_l5_r (R := R)) cxOk mixed (f15_o_ok) (show f15_ann (Am.keyOf f15_l5_b) = some f15_l5_a by kernel_rfl) (L := []) (by kernel_rfl) (fun _k => trivial) (J := []) (by kernel_rfl) (fun _k => trivial) (fun _k => LrcNat.no) (fun _x _y _K => by kernel_rfl) (fun _k _x _y _K => by kernel_rfl)
noncomputable def f15_r {R : Type} (k : Nat) : Lrc D R := (lrcAdd 5 (f15_l5_d k) noLrc)
theorem f15_ok {R : Type} (k : Nat) {e : Dr D R} (he : FnOk Try.prog cx 15 e) : FnOk Try.prog cx 15 (f15_d (f15 k) e) :=
  he.door fun _x _y => body_ok (keep := kp) (ann := f15_ann) (lrc := f15_r (R := R) k) (N := 35) (n0 := 0) (c := [(.tmp 2, .own 1099511627776 (.int .u8))]) cxOk mixed (f15_o_ok k) (body := f15_b) (by kernel_rfl : Try.prog.funcs[15]? = some Try.f15) (by kernel_rfl) (by kernel_rfl) (by kernel_rfl) (by kernel_rfl) (of_decide_eq_true (by kernel_rfl)) (L := [f15_l5_b]) (by kernel_rfl) (⟨(f15_l5_d_ok k).use (by kernel_rfl), trivial⟩) (J := []) (by kernel_rfl) trivial ((LrcNat.add (f15_l5_d_ok k).2 LrcNat.no)) (fun _K => by delta f15 f15_o; generalize @f52 R = a0; generalize @f53 R = a1; revert a0 a1; refine id ?_; intros; kernel_rfl)

abbrev f17_T (R : Type) : Type := List Int → List Int → (Bool → Option R) → Option R
/-! ## 17: diorama/dioramaref04.EqBytes -/
noncomputable def f17 {R : Type} (_k : Nat) (a0 a1 : List Int) (K : Bool → Option R) : Option R :=
 K ((strOf a0).toList == (strOf a1).toList)
noncomputable def f17_d {R : Type} (g : f17_T R) (e : Dr D R) : Dr D R := door [.list (.int .u8), .list (.int .u8)] [] (fun (x : (List Int × List Int × Unit)) (_y : (Unit)) K => g x.1 x.2.1 (fun z0 => K ⟨.bool z0, []⟩)) e
noncomputable def f17_o {R : Type} (_k : Nat) : Orc D R := noOrc
theorem f17_o_ok {R : Type} (k : Nat) : OrcOk Try.prog cx (f17_o (R := R) k) := OrcOk.no
noncomputable def f17_b : Code := bodyOf Try.f17
noncomputable def f17_ann : Nat → Option LAnn := fun _key => none
noncomputable def f17_r {R : Type} (_k : Nat) : Lrc D R := noLrc
theorem f17_ok {R : Type} (k : Nat) {e : Dr D R} (he : FnOk Try.prog cx 17 e) : FnOk Try.prog cx 17 (f17_d (f17 k) e) :=
  he.door fun _x _y => body_ok (keep := kp) (ann := f17_ann) (lrc := f17_r (R := R) k) (N := 10) (n0 := 0) (c := []) cxOk mixed (f17_o_ok k) (body := f17_b) (by kernel_rfl : Try.prog.funcs[17]? = some Try.f17) (by kernel_rfl) (by kernel_rfl) (by kernel_rfl) (by kernel_rfl) (of_decide_eq_true (by kernel_rfl)) (L := []) (by kernel_rfl) trivial (J := []) (by kernel_rfl) trivial (LrcNat.no) (fun _K => by kernel_rfl)

abbrev f56_T (R : Type) : Type := List Int → Int → Int → Int → Int → (Bool → List Int → Int → Int → Int → Int → Option R) → Option R
/-! ## 56: (*diorama/element.parser).ok -/
noncomputable def f56 {R : Type} (_k : Nat) (a0 : List Int) (a1 a2 a3 a4 : Int) (K : Bool → List Int → Int → Int → Int → Int → Option R) : Option R :=
 K (a3 == 0) a0 a1 a2 a3 a4
noncomputable def f56_d {R : Type} (g : f56_T R) (e : Dr D R) : Dr D R := door [.ptr 0 0] [.box [.list (.int .u8), .int .i64, .int .i64, .nil, .int .i64, .int .i64]] (fun (_x : (Unit × Unit)) (y : ((List Int × Int × Int × Unit × Int × Int × Unit) × Unit)) K => g y.1.1 y.1.2.1 y.1.2.2.1 y.1.2.2.2.2.1 y.1.2.2.2.2.2.1 (fun z0 z1 z2 z3 z4 z5 => K ⟨.bool z0, [some (.box [.list (.int .u8) z1, .int .i64 z2, .int .i64 z3, .nil, .int .i64 z4, .int .i64 z5])]⟩)) e
noncomputable def f56_o {R : Type} (_k : Nat) : Orc D R := noOrc
theorem f56_o_ok {R : Type} (k : Nat) : OrcOk Try.prog cx (f56_o (R := R) k) := OrcOk.no
noncomputable def f56_b : Code := bodyOf Try.f56
noncomputable def f56_ann : Nat → Option LAnn := fun _key => none
noncomputable def f56_r {R : Type} (_k : Nat) : Lrc D R := noLrc
theorem f56_ok {R : Type} (k : Nat) {e : Dr D R} (he : FnOk Try.prog cx 56 e) : FnOk Try.prog cx 56 (f56_d (f56 k) e) :=
  he.door fun _x _y => body_ok (keep := kp) (ann := f56_ann) (lrc := f56_r (R := R) k) (N := 9) (n0 := 1) (c := []) cxOk mixed (f56_o_ok k) (body := f56_b) (by kernel_rfl : Try.prog.funcs[56]? = some Try.f56) (by kernel_rfl) (by kernel_rfl) (by kernel_rfl) (by kernel_rfl) (of_decide_eq_true (by kernel_rfl)) (L := []) (by kernel_rfl) trivial (J := []) (by kernel_rfl) trivial (LrcNat.no) (fun _K => by kernel_rfl)

abbrev f87_T (R : Type) : Type := Int → List Int → Int → Int → Int → Int → (List Int → Int → Int → Int → Int → Option R) → Option R
/-! ## 87: (*diorama/element.parser).fail -/
noncomputable def f87 {R : Type} (k : Nat) (a0 : Int) (a1 : List Int) (a2 a3 a4 a5 : Int) (K : List Int → Int → Int → Int → Int → Option R) : Option R :=
 f56 k a1 a2 a3 a4 a5 (fun v1 v2 v3 v4 v5 v6 =>
  bif v1 then
   K v2 v3 v4 a0 v3
  else
   K v2 v3 v4 v5 v6)
noncomputable def f87_d {R : Type} (g : f87_T R) (e : Dr D R) : Dr D R := door [.ptr 0 0, .int .i64] [.box [.list (.int .u8), .int .i64, .int .i64, .nil, .int .i64, .int .i64]] (fun (x : (Unit × Int × Unit)) (y : ((List Int × Int × Int × Unit × Int × Int × Unit) × Unit)) K => g x.2.1 y.1.1 y.1.2.1 y.1.2.2.1 y.1.2.2.2.2.1 y.1.2.2.2.2.2.1 (fun z0 z1 z2 z3 z4 => K ⟨.tup [], [some (.box [.list (.int .u8) z0, .int .i64 z1, .int .i64 z2, .nil, .int .i64 z3, .int .i64 z4])]⟩)) e
noncomputable def f87_o {R : Type} (k : Nat) : Orc D R := (orcAdd 56 (f56_d (f56 k) noDr) noOrc)
theorem f87_o_ok {R : Type} (k : Nat) : OrcOk Try.prog cx (f87_o (R := R) k) := (OrcOk.add (f56_ok k FnOk.no) OrcOk.no)
noncomputable def f87_b : Code := bodyOf Try.f87
noncomputable def f87_ann : Nat → Option LAnn := fun _key => none
noncomputable def f87_r {R : Type} (_k : Nat) : Lrc D R := noLrc
theorem f87_ok {R : Type} (k : Nat) {e : Dr D R} (he : FnOk Try.prog cx 87 e) : FnOk Try.prog cx 87 (f87_d (f87 k) e) :=
  he.door fun _x _y => body_ok (keep := kp) (ann := f87_ann) (lrc := f87_r (R := R) k) (N := 15) (n0 := 1) (c := []) cxOk mixed (f87_o_ok k) (body := f87_b) (by kernel_rfl : Try.prog.funcs[87]? = some Try.f87) (by kernel_rfl) (by kernel_rfl) (by kernel_rfl) (by kernel_rfl) (of_decide_eq_true (by kernel_rfl)) (L := []) (by kernel_rfl) trivial (J := []) (by kernel_rfl) trivial (LrcNat.no) (fun _K => by delta f87 f87_o; generalize @f56 R = a0; revert a0; refine id ?_; intros; kernel_rfl)

abbrev f63_T (R : Type) : Type := Int → (Int → Option R) → Option R
/-! ## 63: diorama/element.idBytes -/
noncomputable def f63_l2 {R : Type} : Nat → Int → Int → Option R → (Int → Option R) → Option R
  | 0, _, _, _, _ => none
  | k + 1, v1, v2, X0, X1 =>
  bif decide (v2 ≤ 4) then
   bif decide ((IntKind.i64.wrap (8 - v2)) < 0) then
    none
   else
    bif ((shrI .u8 v1 (IntKind.i64.wrap (8 - v2))) == 1) then
     X1 v2
    else
     f63_l2 k v1 (IntKind.i64.wrap (v2 + 1)) X0 X1
  else
   X0
noncomputable def f63 {R : Type} (k : Nat) (a0 : Int) (K : Int → Option R) : Option R :=
 f63_l2 k a0 1 (
  K 0) K
noncomputable def f63_d {R : Type} (g : f63_T R) (e : Dr D R) : Dr D R := door [.int .u8] [] (fun (x : (Int × Unit)) (_y : (Unit)) K => g x.1 (fun z0 => K ⟨.int .i64 z0, []⟩)) e
noncomputable def f63_o {R : Type} (_k : Nat) : Orc D R := noOrc
theorem f63_o_ok {R : Type} (k : Nat) : OrcOk Try.prog cx (f63_o (R := R) k) := OrcOk.no
noncomputable def f63_b : Code := bodyOf Try.f63
noncomputable def f63_l2_a : LAnn := ⟨⟨[], [0, 3], [], []⟩, exOf (some ⟨[], [2], [], []⟩) [(0, ⟨[], [], [], []⟩)]⟩
noncomputable def f63_ann : Nat → Option LAnn := fun key => bif Nat.beq key 2 then some f63_l2_a else none
noncomputable def f63_l2_b : Code := loopAt f63_b 0
noncomputable def f63_l2_g {R : Type} (k : Nat) (x : (Int × Int × Unit)) (_y : (Unit)) (K : KX R) : Option R := f63_l2 k x.1 x.2.1 (K (.exit 0) [] []) (fun z0 => K (.ret) [.int .i64 z0] [])
noncomputable def f63_l2_d {R : Type} (k : Nat) : Lr D R := ldoor [.int .u8, .int .i64] [] (f63_l2_g k)
noncomputable def f63_l2_r {R : Type} (_k : Nat) : Lrc D R := noLrc
theorem f63_l2_d_ok {R : Type} : ∀ k, LoopOk Try.prog cx 14 0 f63_ann (f63_l2_d (R := R) k) f63_l2_b :=
  loop_ok (keep := kp) (lrc := f63_l2_r (R := R)) cxOk mixed (f63_o_ok) (show f63_ann (Am.keyOf f63_l2_b) = some f63_l2_a by kernel_rfl) (L := []) (by kernel_rfl) (fun _k => trivial) (J := []) (by kernel_rfl) (fun _k => trivial) (fun _k => LrcNat.no) (fun _x _y _K => by kernel_rfl) (fun _k _x _y _K => by kernel_rfl)
noncomputable def f63_r {R : Type} (k : Nat) : Lrc D R := (lrcAdd 2 (f63_l2_d k) noLrc)
theorem f63_ok {R : Type} (k : Nat) {e : Dr D R} (he : FnOk Try.prog cx 63 e) : FnOk Try.prog cx 63 (f63_d (f63 k) e) :=
  he.door fun _x _y => body_ok (keep := kp) (ann := f63_ann) (lrc := f63_r (R := R) k) (N := 14) (n0 := 0) (c := []) cxOk mixed (f63_o_ok k) (body := f63_b) (by kernel_rfl : Try.prog.funcs[63]? = some Try.f63) (by kernel_rfl) (by kernel_rfl) (by kernel_rfl) (by kernel_rfl) (of_decide_eq_true (by kernel_rfl)) (L := [f63_l2_b]) (by kernel_rfl) (⟨(f63_l2_d_ok k).use (by kernel_rfl), trivial⟩) (J := []) (by kernel_rfl) trivial ((LrcNat.add (f63_l2_d_ok k).2 LrcNat.no)) (fun _K => by kernel_rfl)

abbrev f64_T (R : Type) : Type := List Int → Int → Int → (Int → Int → Option R) → Option R
/-! ## 64: diorama/bits.Int -/
noncomputable def f64_l7 {R : Type} : Nat → Int → List Int → Int → Int → (Int → Option R) → Option R
  | 0, _, _, _, _, _ => none
  | k + 1, v1, v2, v3, v4, X0 =>
  bif decide (v4 < v3) then
   bif inb v4 v2.length then
    f64_l7 k (orI .u64 (shlI .u64 v1 8) (IntKind.u64.wrap ((v2.getD v4.toNat 0)))) v2 v3 (IntKind.i64.wrap (v4 + 1)) X0
   else
    none
  else
   X0 v1
noncomputable def f64 {R : Type} (k : Nat) (a0 : List Int) (a1 a2 : Int) (K : Int → Int → Option R) : Option R :=
 bif decide (a2 < 1) then
  K 0 1
 else
  bif decide (a2 > 8) then
   K 0 1
  else
   bif decide (a1 < 0) then
    K 0 1
   else
    bif decide (a1 > (a0.length : Int)) then
     K 0 3
    else
     bif decide ((IntKind.i64.wrap ((a0.length : Int) - a1)) < a2) then
      K 0 3
     else
      bif upto (IntKind.i64.wrap (a1 + a2)) a0.length then
      bif (decide (0 ≤ a1)) && (decide (a1 ≤ (IntKind.i64.wrap (a1 + a2)))) then
      f64_l7 k 0 ((a0.take ((IntKind.i64.wrap (a1 + a2)).toNat)).drop a1.toNat) (((a0.take ((IntKind.i64.wrap (a1 + a2)).toNat)).drop a1.toNat).length : Int) 0 (fun v5 =>
      bif decide (v5 > 9223372036854775807) then
      K 0 1
      else
      K (IntKind.i64.wrap (v5)) 0)
      else
      none
      else
      none
noncomputable def f64_d {R : Type} (g : f64_T R) (e : Dr D R) : Dr D R := door [.list (.int .u8), .int .i64, .int .i64] [] (fun (x : (List Int × Int × Int × Unit)) (_y : (Unit)) K => g x.1 x.2.1 x.2.2.1 (fun z0 z1 => K ⟨.tup [.int .i64 z0, .int .i64 z1], []⟩)) e
noncomputable def f64_o {R : Type} (_k : Nat) : Orc D R := noOrc
theorem f64_o_ok {R : Type} (k : Nat) : OrcOk Try.prog cx (f64_o (R := R) k) := OrcOk.no
noncomputable def f64_b : Code := bodyOf Try.f64
noncomputable def f64_l7_a : LAnn := ⟨⟨[], [8, 38, 39, 40], [], []⟩, exOf (none) [(0, ⟨[], [8], [], []⟩)]⟩
noncomputable def f64_ann : Nat → Option LAnn := fun key => bif Nat.beq key 7 then some f64_l7_a else none
noncomputable def f64_l7_b : Code := loopAt f64_b 0
noncomputable def f64_l7_g {R : Type} (k : Nat) (x : (Int × List Int × Int × Int × Unit)) (_y : (Unit)) (K : KX R) : Option R := f64_l7 k x.1 x.2.1 x.2.2.1 x.2.2.2.1 (fun z0 => K (.exit 0) [.int .u64 z0] [])
noncomputable def f64_l7_d {R : Type} (k : Nat) : Lr D R := ldoor [.int .u64, .list (.int .u8), .int .i64, .int .i64] [] (f64_l7_g k)
noncomputable def f64_l7_r {R : Type} (_k : Nat) : Lrc D R := noLrc
theorem f64_l7_d_ok {R : Type} : ∀ k, LoopOk Try.prog cx 54 0 f64_ann (f64_l7_d (R := R) k) f64_l7_b :=
  loop_ok (keep := kp) (lrc := f64_l7_r (R := R)) cxOk mixed (f64_o_ok) (show f64_ann (Am.keyOf f64_l7_b) = some f64_l7_a by kernel_rfl) (L := []) (by kernel_rfl) (fun _k => trivial) (J := []) (by kernel_rfl) (fun _k => trivial) (fun _k => LrcNat.no) (fun _x _y _K => by kernel_rfl) (fun _k _x _y _K => by kernel_rfl)
noncomputable def f64_r {R : Type} (k : Nat) : Lrc D R := (lrcAdd 7 (f64_l7_d k) noLrc)
theorem f64_ok {R : Type} (k : Nat) {e : Dr D R} (he : FnOk Try.prog cx 64 e) : FnOk Try.prog cx 64 (f64_d (f64 k) e) :=
  he.door fun _x _y => body_ok (keep := kp) (ann := f64_ann) (lrc := f64_r (R := R) k) (N := 54) (n0 := 0) (c := []) cxOk mixed (f64_o_ok k) (body := f64_b) (by kernel_rfl : Try.prog.funcs[64]? = some Try.f64) (by kernel_rfl) (by kernel_rfl) (by kernel_rfl) (by kernel_rfl) (of_decide_eq_true (by kernel_rfl)) (L := [f64_l7_b]) (by kernel_rfl) (⟨(f64_l7_d_ok k).use (by kernel_rfl), trivial⟩) (J := []) (by kernel_rfl) trivial ((LrcNat.add (f64_l7_d_ok k).2 LrcNat.no)) (fun _K => by kernel_rfl)

abbrev f112_T (R : Type) : Type := Int → (Int → Option R) → Option R
/-! ## 112: math/bits.Len8 -/
noncomputable def f112 {R : Type} (_k : Nat) (a0 : Int) (K : Int → Option R) : Option R :=
 bif inb a0 lit2.size then
  K (IntKind.i64.wrap (((lit2.data.toList.getD a0.toNat 0).toNat : Int)))
 else
  none
noncomputable def f112_d {R : Type} (g : f112_T R) (e : Dr D R) : Dr D R := door [.int .u8] [] (fun (x : (Int × Unit)) (_y : (Unit)) K => g x.1 (fun z0 => K ⟨.int .i64 z0, []⟩)) e
noncomputable def f112_o {R : Type} (_k : Nat) : Orc D R := noOrc
theorem f112_o_ok {R : Type} (k : Nat) : OrcOk Try.prog cx (f112_o (R := R) k) := OrcOk.no
noncomputable def f112_b : Code := bodyOf Try.f112
noncomputable def f112_ann : Nat → Option LAnn := fun _key => none
noncomputable def f112_r {R : Type} (_k : Nat) : Lrc D R := noLrc
theorem f112_ok {R : Type} (k : Nat) {e : Dr D R} (he : FnOk Try.prog cx 112 e) : FnOk Try.prog cx 112 (f112_d (f112 k) e) :=
  he.door fun _x _y => body_ok (keep := kp) (ann := f112_ann) (lrc := f112_r (R := R) k) (N := 6) (n0 := 0) (c := []) cxOk mixed (f112_o_ok k) (body := f112_b) (by kernel_rfl : Try.prog.funcs[112]? = some Try.f112) (by kernel_rfl) (by kernel_rfl) (by kernel_rfl) (by kernel_rfl) (of_decide_eq_true (by kernel_rfl)) (L := []) (by kernel_rfl) trivial (J := []) (by kernel_rfl) trivial (LrcNat.no) (fun _K => by kernel_rfl)

abbrev f111_T (R : Type) : Type := Int → (Int → Option R) → Option R
/-! ## 111: math/bits.LeadingZeros8 -/
noncomputable def f111 {R : Type} (k : Nat) (a0 : Int) (K : Int → Option R) : Option R :=
 f112 k a0 (fun v1 =>
  K (IntKind.i64.wrap (8 - v1)))
noncomputable def f111_d {R : Type} (g : f111_T R) (e : Dr D R) : Dr D R := door [.int .u8] [] (fun (x : (Int × Unit)) (_y : (Unit)) K => g x.1 (fun z0 => K ⟨.int .i64 z0, []⟩)) e
noncomputable def f111_o {R : Type} (k : Nat) : Orc D R := (orcAdd 112 (f112_d (f112 k) noDr) noOrc)
theorem f111_o_ok {R : Type} (k : Nat) : OrcOk Try.prog cx (f111_o (R := R) k) := (OrcOk.add (f112_ok k FnOk.no) OrcOk.no)
noncomputable def f111_b : Code := bodyOf Try.f111
noncomputable def f111_ann : Nat → Option LAnn := fun _key => none
noncomputable def f111_r {R : Type} (_k : Nat) : Lrc D R := noLrc
theorem f111_ok {R : Type} (k : Nat) {e : Dr D R} (he : FnOk Try.prog cx 111 e) : FnOk Try.prog cx 111 (f111_d (f111 k) e) :=
  he.door fun _x _y => body_ok (keep := kp) (ann := f111_ann) (lrc := f111_r (R := R) k) (N := 6) (n0 := 0) (c := []) cxOk mixed (f111_o_ok k) (body := f111_b) (by kernel_rfl : Try.prog.funcs[111]? = some Try.f111) (by kernel_rfl) (by kernel_rfl) (by kernel_rfl) (by kernel_rfl) (of_decide_eq_true (by kernel_rfl)) (L := []) (by kernel_rfl) trivial (J := []) (by kernel_rfl) trivial (LrcNat.no) (fun _K => by delta f111 f111_o; generalize @f112 R = a0; revert a0; refine id ?_; intros; kernel_rfl)

abbrev f107_T (R : Type) : Type := List Int → Int → (Int → Int → Bool → Int → Option R) → Option R
/-! ## 107: diorama/bits.Vint -/
noncomputable def f107_l12 {R : Type} : Nat → Int → Int → List Int → Int → Int → (Int → Int → Option R) → Option R
  | 0, _, _, _, _, _, _ => none
  | k + 1, v2, v3, v4, v5, v6, X0 =>
  bif decide (v6 < v5) then
   bif inb v6 v4.length then
    f107_l12 k (orI .i64 (shlI .i64 v2 8) (IntKind.i64.wrap ((v4.getD v6.toNat 0)))) v3 v4 v5 (IntKind.i64.wrap (v6 + 1)) X0
   else
    none
  else
   X0 v2 v3
noncomputable def f107 {R : Type} (k : Nat) (a0 : List Int) (a1 : Int) (K : Int → Int → Bool → Int → Option R) : Option R :=
 bif decide (a1 < 0) then
  K 0 0 false 1
 else
  bif decide (a1 ≥ (a0.length : Int)) then
   K 0 0 false 3
  else
   bif inb a1 a0.length then
    bif ((a0.getD a1.toNat 0) == 0) then
     K 0 0 false 4
    else
     bif inb a1 a0.length then
      f111 k (a0.getD a1.toNat 0) (fun v1 =>
      bif decide ((IntKind.i64.wrap ((a0.length : Int) - a1)) < (IntKind.i64.wrap (v1 + 1))) then
      K 0 0 false 3
      else
      bif inb a1 a0.length then
      bif decide ((IntKind.i64.wrap (v1 + 1)) < 0) then
      none
      else
      bif upto (IntKind.i64.wrap (a1 + (IntKind.i64.wrap (v1 + 1)))) a0.length then
      bif (decide (0 ≤ (IntKind.i64.wrap (a1 + 1)))) && (decide ((IntKind.i64.wrap (a1 + 1)) ≤ (IntKind.i64.wrap (a1 + (IntKind.i64.wrap (v1 + 1)))))) then
      f107_l12 k (andI .i64 (IntKind.i64.wrap ((a0.getD a1.toNat 0))) (shrI .i64 255 (IntKind.i64.wrap (v1 + 1)))) (IntKind.i64.wrap (v1 + 1)) ((a0.take ((IntKind.i64.wrap (a1 + (IntKind.i64.wrap (v1 + 1)))).toNat)).drop ((IntKind.i64.wrap (a1 + 1)).toNat)) (((a0.take ((IntKind.i64.wrap (a1 + (IntKind.i64.wrap (v1 + 1)))).toNat)).drop ((IntKind.i64.wrap (a1 + 1)).toNat)).length : Int) 0 (fun v7 v8 =>
      f82 k v8 (fun v9 =>
      bif (v7 == v9) then
      K 0 v8 true 0
      else
      K v7 v8 false 0))
      else
      none
      else
      none
      else
      none)
     else
      none
   else
    none
noncomputable def f107_d {R : Type} (g : f107_T R) (e : Dr D R) : Dr D R := door [.list (.int .u8), .int .i64] [] (fun (x : (List Int × Int × Unit)) (_y : (Unit)) K => g x.1 x.2.1 (fun z0 z1 z2 z3 => K ⟨.tup [.int .i64 z0, .int .i64 z1, .bool z2, .int .i64 z3], []⟩)) e
noncomputable def f107_o {R : Type} (k : Nat) : Orc D R := (orcAdd 111 (f111_d (f111 k) noDr) (orcAdd 82 (f82_d (f82 k) noDr) noOrc))
theorem f107_o_ok {R : Type} (k : Nat) : OrcOk Try.prog cx (f107_o (R := R) k) := (OrcOk.add (f111_ok k FnOk.no) (OrcOk.add (f82_ok k FnOk.no) OrcOk.no))
noncomputable def f107_b : Code := bodyOf Try.f107
noncomputable def f107_l12_a : LAnn := ⟨⟨[], [4, 5, 47, 48, 49], [], []⟩, exOf (none) [(0, ⟨[], [4, 5], [], []⟩)]⟩
noncomputable def f107_ann : Nat → Option LAnn := fun key => bif Nat.beq key 12 then some f107_l12_a else none
noncomputable def f107_l12_b : Code := loopAt f107_b 0
noncomputable def f107_l12_g {R : Type} (k : Nat) (x : (Int × Int × List Int × Int × Int × Unit)) (_y : (Unit)) (K : KX R) : Option R := f107_l12 k x.1 x.2.1 x.2.2.1 x.2.2.2.1 x.2.2.2.2.1 (fun z0 z1 => K (.exit 0) [.int .i64 z0, .int .i64 z1] [])
noncomputable def f107_l12_d {R : Type} (k : Nat) : Lr D R := ldoor [.int .i64, .int .i64, .list (.int .u8), .int .i64, .int .i64] [] (f107_l12_g k)
noncomputable def f107_l12_r {R : Type} (_k : Nat) : Lrc D R := noLrc
theorem f107_l12_d_ok {R : Type} : ∀ k, LoopOk Try.prog cx 66 0 f107_ann (f107_l12_d (R := R) k) f107_l12_b :=
  loop_ok (keep := kp) (lrc := f107_l12_r (R := R)) cxOk mixed (f107_o_ok) (show f107_ann (Am.keyOf f107_l12_b) = some f107_l12_a by kernel_rfl) (L := []) (by kernel_rfl) (fun _k => trivial) (J := []) (by kernel_rfl) (fun _k => trivial) (fun _k => LrcNat.no) (fun _x _y _K => by kernel_rfl) (fun _k _x _y _K => by kernel_rfl)
noncomputable def f107_r {R : Type} (k : Nat) : Lrc D R := (lrcAdd 12 (f107_l12_d k) noLrc)
theorem f107_ok {R : Type} (k : Nat) {e : Dr D R} (he : FnOk Try.prog cx 107 e) : FnOk Try.prog cx 107 (f107_d (f107 k) e) :=
  he.door fun _x _y => body_ok (keep := kp) (ann := f107_ann) (lrc := f107_r (R := R) k) (N := 66) (n0 := 0) (c := []) cxOk mixed (f107_o_ok k) (body := f107_b) (by kernel_rfl : Try.prog.funcs[107]? = some Try.f107) (by kernel_rfl) (by kernel_rfl) (by kernel_rfl) (by kernel_rfl) (of_decide_eq_true (by kernel_rfl)) (L := [f107_l12_b]) (by kernel_rfl) (⟨(f107_l12_d_ok k).use (by kernel_rfl), trivial⟩) (J := []) (by kernel_rfl) trivial ((LrcNat.add (f107_l12_d_ok k).2 LrcNat.no)) (fun _K => by delta f107 f107_o; generalize @f82 R = a0; generalize @f111 R = a1; revert a0 a1; refine id ?_; intros; kernel_rfl)


end Go.Proofs.Ytklhjegfkpmdoaa

/-! What the functions do, as plain functions; and that they do. -/
namespace Go.Proofs.Ytklhjegfkpmdoaa
open Go Go.Am
abbrev f60_T (R : Type) : Type := Int → Int → (Bool → Option R) → Option R
/-! ## 60: diorama/element.isId -/
noncomputable def f60 {R : Type} (_k : Nat) (a0 a1 : Int) (K : Bool → Option R) : Option R :=
 bif decide ((IntKind.i64.wrap (7 * a1)) < 0) then
  none
 else
  bif ((andI .i64 a0 (IntKind.i64.wrap ((shlI .i64 1 (IntKind.i64.wrap (7 * a1))) - 1))) != 0) then
   K ((andI .i64 a0 (IntKind.i64.wrap ((shlI .i64 1 (IntKind.i64.wrap (7 * a1))) - 1))) != (IntKind.i64.wrap ((shlI .i64 1 (IntKind.i64.wrap (7 * a1))) - 1)))
  else
   K false
noncomputable def f60_d {R : Type} (g : f60_T R) (e : Dr D R) : Dr D R := door [.int .i64, .int .i64] [] (fun (x : (Int × Int × Unit)) (_y : (Unit)) K => g x.1 x.2.1 (fun z0 => K ⟨.bool z0, []⟩)) e
noncomputable def f60_o {R : Type} (_k : Nat) : Orc D R := noOrc
theorem f60_o_ok {R : Type} (k : Nat) : OrcOk Try.prog cx (f60_o (R := R) k) := OrcOk.no
noncomputable def f60_b : Code := bodyOf Try.f60
noncomputable def f60_ann : Nat → Option LAnn := fun _key => none
noncomputable def f60_r {R : Type} (_k : Nat) : Lrc D R := noLrc
theorem f60_ok {R : Type} (k : Nat) {e : Dr D R} (he : FnOk Try.prog cx 60 e) : FnOk Try.prog cx 60 (f60_d (f60 k) e) :=
  he.door fun _x _y => body_ok (keep := kp) (ann := f60_ann) (lrc := f60_r (R := R) k) (N := 21) (n0 := 0) (c := []) cxOk mixed (f60_o_ok k) (body := f60_b) (by kernel_rfl : Try.prog.funcs[60]? = some Try.f60) (by kernel_rfl) (by kernel_rfl) (by kernel_rfl) (by kernel_rfl) (of_decide_eq_true (by kernel_rfl)) (L := []) (by kernel_rfl) trivial (J := []) (by kernel_rfl) trivial (LrcNat.no) (fun _K => by kernel_rfl)

abbrev f58_T (R : Type) : Type := (List D0 → Option R) → Option R
/-! ## 58: diorama/element.schema -/
noncomputable def f58 {R : Type} (_k : Nat) (K : List D0 → Option R) : Option R :=
 K ([(469832109, (⟨#[72, 101, 97, 100]⟩ : ByteArray), 0, true, false), (178, (⟨#[70, 105, 108, 101, 73, 100]⟩ : ByteArray), 177, false, false), (161, (⟨#[68, 111, 99]⟩ : ByteArray), 469832109, false, false), (179, (⟨#[70, 105, 108, 101, 78, 97, 109, 101]⟩ : ByteArray), 177, false, false), (162, (⟨#[86, 101, 114, 115, 105, 111, 110]⟩ : ByteArray), 469832109, false, false), (180, (⟨#[70, 105, 108, 101, 84, 121, 112, 101]⟩ : ByteArray), 177, false, false), (470113888, (⟨#[83, 101, 103, 109, 101, 110, 116]⟩ : ByteArray), 0, true, true), (181, (⟨#[70, 105, 108, 101, 68, 97, 116, 97]⟩ : ByteArray), 177, false, false), (16641, (⟨#[83, 101, 101, 107]⟩ : ByteArray), 470113888, false, false), (436207636, (⟨#[67, 104, 97, 112, 116, 101, 114, 115]⟩ : ByteArray), 470113888, true, false), (436207633, (⟨#[73, 110, 102, 111]⟩ : ByteArray), 470113888, true, false), (224, (⟨#[69, 100, 105, 116, 105, 111, 110]⟩ : ByteArray), 436207636, true, false), (145, (⟨#[83, 99, 97, 108, 101]⟩ : ByteArray), 436207633, false, false), (225, lit3, 224, false, false), (146, (⟨#[84, 105, 116, 108, 101]⟩ : ByteArray), 436207633, false, false), (226, (⟨#[79, 114, 100, 101, 114, 101, 100]⟩ : ByteArray), 224, false, false), (436207634, (⟨#[84, 114, 97, 99, 107, 115]⟩ : ByteArray), 470113888, true, false), (227, (⟨#[67, 104, 97, 112, 116, 101, 114]⟩ : ByteArray), 224, true, false), (174, (⟨#[84, 114, 97, 99, 107]⟩ : ByteArray), 436207634, true, false), (228, (⟨#[67, 104, 97, 112, 73, 100]⟩ : ByteArray), 227, false, false), (193, (⟨#[84, 114, 97, 99, 107, 73, 100]⟩ : ByteArray), 174, false, false), (229, (⟨#[67, 104, 97, 112, 70, 114, 111, 109]⟩ : ByteArray), 227, false, false), (194, lit4, 174, false, false), (230, (⟨#[67, 104, 97, 112, 84, 111]⟩ : ByteArray), 227, false, false), (195, (⟨#[67, 111, 100, 101, 99]⟩ : ByteArray), 174, false, false), (231, lit5, 227, false, false), (196, lit6, 174, false, false), (232, (⟨#[72, 105, 100, 100, 101, 110]⟩ : ByteArray), 227, false, false), (197, (⟨#[83, 101, 116, 117, 112]⟩ : ByteArray), 174, false, false), (436207637, (⟨#[84, 97, 103, 115]⟩ : ByteArray), 470113888, true, false), (198, (⟨#[76, 97, 110, 103]⟩ : ByteArray), 174, false, false), (241, (⟨#[84, 97, 103]⟩ : ByteArray), 436207637, true, false), (199, lit7, 174, false, false), (242, (⟨#[84, 97, 103, 75, 105, 110, 100]⟩ : ByteArray), 241, false, false), (200, (⟨#[80, 114, 101, 114, 111, 108, 108]⟩ : ByteArray), 174, false, false), (243, (⟨#[84, 97, 103, 84, 111]⟩ : ByteArray), 241, false, false), (201, (⟨#[68, 101, 102, 68, 117, 114]⟩ : ByteArray), 174, false, false), (244, (⟨#[84, 97, 103, 78, 97, 109, 101]⟩ : ByteArray), 241, false, false), (202, (⟨#[69, 100, 105, 116]⟩ : ByteArray), 174, true, false), (245, (⟨#[84, 97, 103, 86, 97, 108, 117, 101]⟩ : ByteArray), 241, false, false), (209, (⟨#[69, 100, 105, 116, 68, 117, 114]⟩ : ByteArray), 202, false, false), (436207638, (⟨#[67, 108, 117, 115, 116, 101, 114]⟩ : ByteArray), 470113888, true, true), (210, lit8, 202, false, false), (147, (⟨#[84, 105, 109, 101]⟩ : ByteArray), 436207638, false, false), (203, (⟨#[82, 101, 102]⟩ : ByteArray), 174, true, false), (163, (⟨#[83, 105, 109, 112, 108, 101]⟩ : ByteArray), 436207638, false, false), (211, (⟨#[82, 101, 102, 75, 105, 110, 100]⟩ : ByteArray), 203, false, false), (164, (⟨#[71, 114, 111, 117, 112]⟩ : ByteArray), 436207638, true, false), (212, (⟨#[82, 101, 102, 84, 111]⟩ : ByteArray), 203, false, false), (165, (⟨#[66, 108, 111, 99, 107]⟩ : ByteArray), 164, false, false), (436207635, (⟨#[70, 105, 108, 101, 115]⟩ : ByteArray), 470113888, true, false), (166, (⟨#[68, 117, 114]⟩ : ByteArray), 164, false, false), (177, (⟨#[70, 105, 108, 101]⟩ : ByteArray), 436207635, true, false), (167, (⟨#[68, 101, 99, 111, 100, 101]⟩ : ByteArray), 164, false, false), (436207639, (⟨#[67, 117, 101, 115]⟩ : ByteArray), 470113888, true, false), (168, (⟨#[68, 101, 112, 115]⟩ : ByteArray), 164, false, false), (187, (⟨#[67, 117, 101]⟩ : ByteArray), 436207639, true, false), (169, (⟨#[80, 116, 115]⟩ : ByteArray), 164, false, false), (188, (⟨#[67, 117, 101, 84, 105, 109, 101]⟩ : ByteArray), 187, false, false), (170, (⟨#[76, 111, 99, 107]⟩ : ByteArray), 164, false, false), (189, (⟨#[67, 117, 101, 84, 114, 97, 99, 107]⟩ : ByteArray), 187, false, false), (190, (⟨#[67, 117, 101, 80, 108, 97, 99, 101]⟩ : ByteArray), 187, false, false), (191, (⟨#[67, 117, 101, 66, 108, 111, 99, 107]⟩ : ByteArray), 187, false, false), (236, (⟨#[86, 111, 105, 100]⟩ : ByteArray), (-1), false, false), (237, (⟨#[83, 117, 109]⟩ : ByteArray), (-1), false, false)])
noncomputable def f58_d {R : Type} (g : f58_T R) (e : Dr D R) : Dr D R := door [] [] (fun (_x : (Unit)) (_y : (Unit)) K => g (fun z0 => K ⟨.arr (.named 0) z0, []⟩)) e
noncomputable def f58_o {R : Type} (_k : Nat) : Orc D R := noOrc
theorem f58_o_ok {R : Type} (k : Nat) : OrcOk Try.prog cx (f58_o (R := R) k) := OrcOk.no
noncomputable def f58_b : Code := bodyOf Try.f58
noncomputable def f58_ann : Nat → Option LAnn := fun _key => none
noncomputable def f58_r {R : Type} (_k : Nat) : Lrc D R := noLrc
theorem f58_ok {R : Type} (k : Nat) {e : Dr D R} (he : FnOk Try.prog cx 58 e) : FnOk Try.prog cx 58 (f58_d (f58 k) e) :=
  he.door fun _x _y => body_ok (keep := kp) (ann := f58_ann) (lrc := f58_r (R := R) k) (N := 67) (n0 := 0) (c := []) cxOk mixed (f58_o_ok k) (body := f58_b) (by kernel_rfl : Try.prog.funcs[58]? = some Try.f58) (by kernel_rfl) (by kernel_rfl) (by kernel_rfl) (by kernel_rfl) (of_decide_eq_true (by kernel_rfl)) (L := []) (by kernel_rfl) trivial (J := []) (by kernel_rfl) trivial (LrcNat.no) (fun _K => by kernel_rfl)

abbrev f25_T (R : Type) : Type := Int → (Int → ByteArray → Int → Bool → Bool → Bool → Option R) → Option R
/-! ## 25: diorama/element.Info -/
noncomputable def f25_l2 {R : Type} : Nat → Int → List D0 → Int → Int → ByteArray → Int → Bool → Bool → (Int → ByteArray → Int → Bool → Bool → Option R) → (Bool → Int → ByteArray → Int → Bool → Bool → Option R) → Option R
  | 0, _, _, _, _, _, _, _, _, _, _ => none
  | k + 1, v2, v3, v4, v5, v6, v7, v8, v9, X0, X1 =>
  bif decide (v4 < 65) then
   bif ((inb v4 65) && (inb v4 v3.length)) && true then
    bif (((v3.getD v4.toNat zero0).1) == v2) then
     X1 true ((v3.getD v4.toNat zero0).1) ((v3.getD v4.toNat zero0).2.1) ((v3.getD v4.toNat zero0).2.2.1) ((v3.getD v4.toNat zero0).2.2.2.1) ((v3.getD v4.toNat zero0).2.2.2.2)
    else
     f25_l2 k v2 v3 (IntKind.i64.wrap (v4 + 1)) v5 v6 v7 v8 v9 X0 X1
   else
    none
  else
   X0 v5 v6 v7 v8 v9
noncomputable def f25 {R : Type} (k : Nat) (a0 : Int) (K : Int → ByteArray → Int → Bool → Bool → Bool → Option R) : Option R :=
 f58 k (fun v1 =>
  f25_l2 k a0 v1 0 0 ByteArray.empty 0 false false (fun _v10 _v11 _v12 _v13 _v14 =>
   K 0 ByteArray.empty 0 false false false) (fun v15 v16 v17 v18 v19 v20 =>
   K v16 v17 v18 v19 v20 v15))
noncomputable def f25_d {R : Type} (g : f25_T R) (e : Dr D R) : Dr D R := door [.int .i64] [] (fun (x : (Int × Unit)) (_y : (Unit)) K => g x.1 (fun z0 z1 z2 z3 z4 z5 => K ⟨.tup [.agg [.int .i64 z0, .str z1, .int .i64 z2, .bool z3, .bool z4], .bool z5], []⟩)) e
noncomputable def f25_o {R : Type} (k : Nat) : Orc D R := (orcAdd 58 (f58_d (f58 k) noDr) noOrc)
theorem f25_o_ok {R : Type} (k : Nat) : OrcOk Try.prog cx (f25_o (R := R) k) := (OrcOk.add (f58_ok k FnOk.no) OrcOk.no)
noncomputable def f25_b : Code := bodyOf Try.f25
noncomputable def f25_l2_a : LAnn := ⟨⟨[], [0, 2, 6, 7], [65584], []⟩, exOf (some ⟨[], [2, 3], [65584], []⟩) [(0, ⟨[], [2], [65584], []⟩)]⟩
noncomputable def f25_ann : Nat → Option LAnn := fun key => bif Nat.beq key 2 then some f25_l2_a else none
noncomputable def f25_l2_b : Code := loopAt f25_b 0
noncomputable def f25_l2_g {R : Type} (k : Nat) (x : (Int × Unit × List D0 × Int × Unit)) (y : ((Int × ByteArray × Int × Bool × Bool × Unit) × Unit)) (K : KX R) : Option R := f25_l2 k x.1 x.2.2.1 x.2.2.2.1 y.1.1 y.1.2.1 y.1.2.2.1 y.1.2.2.2.1 y.1.2.2.2.2.1 (fun z0 z1 z2 z3 z4 => K (.exit 0) [.ptr 65584 0] [some (.box [.int .i64 z0, .str z1, .int .i64 z2, .bool z3, .bool z4])]) (fun z0 z1 z2 z3 z4 z5 => K (.ret) [.ptr 65584 0, .bool z0] [some (.box [.int .i64 z1, .str z2, .int .i64 z3, .bool z4, .bool z5])])
noncomputable def f25_l2_d {R : Type} (k : Nat) : Lr D R := ldoor [.int .i64, .ptr 65584 0, .arr (.named 0), .int .i64] [some (.box [.int .i64, .str, .int .i64, .bool, .bool])] (f25_l2_g k)
noncomputable def f25_l2_r {R : Type} (_k : Nat) : Lrc D R := noLrc
theorem f25_l2_d_ok {R : Type} : ∀ k, LoopOk Try.prog cx 17 0 f25_ann (f25_l2_d (R := R) k) f25_l2_b :=
  loop_ok (keep := kp) (lrc := f25_l2_r (R := R)) cxOk mixed (f25_o_ok) (show f25_ann (Am.keyOf f25_l2_b) = some f25_l2_a by kernel_rfl) (L := []) (by kernel_rfl) (fun _k => trivial) (J := []) (by kernel_rfl) (fun _k => trivial) (fun _k => LrcNat.no) (fun _x _y _K => by kernel_rfl) (fun _k _x _y _K => by kernel_rfl)
noncomputable def f25_r {R : Type} (k : Nat) : Lrc D R := (lrcAdd 2 (f25_l2_d k) noLrc)
theorem f25_ok {R : Type} (k : Nat) {e : Dr D R} (he : FnOk Try.prog cx 25 e) : FnOk Try.prog cx 25 (f25_d (f25 k) e) :=
  he.door fun _x _y => body_ok (keep := kp) (ann := f25_ann) (lrc := f25_r (R := R) k) (N := 17) (n0 := 0) (c := []) cxOk mixed (f25_o_ok k) (body := f25_b) (by kernel_rfl : Try.prog.funcs[25]? = some Try.f25) (by kernel_rfl) (by kernel_rfl) (by kernel_rfl) (by kernel_rfl) (of_decide_eq_true (by kernel_rfl)) (L := [f25_l2_b]) (by kernel_rfl) (⟨(f25_l2_d_ok k).use (by kernel_rfl), trivial⟩) (J := []) (by kernel_rfl) trivial ((LrcNat.add (f25_l2_d_ok k).2 LrcNat.no)) (fun _K => by delta f25 f25_o; generalize @f58 R = a0; revert a0; refine id ?_; intros; kernel_rfl)

abbrev f56_2_T (R : Type) : Type := List Int → Int → Int → Int → Int → List D1 → (Bool → List Int → Int → Int → Int → Int → List D1 → Option R) → Option R
/-! ## 56: (*diorama/element.parser).ok -/
noncomputable def f56_2 {R : Type} (_k : Nat) (a0 : List Int) (a1 a2 a3 a4 : Int) (a5 : List D1) (K : Bool → List Int → Int → Int → Int → Int → List D1 → Option R) : Option R :=
 K (a3 == 0) a0 a1 a2 a3 a4 a5
noncomputable def f56_2_d {R : Type} (g : f56_2_T R) (e : Dr D R) : Dr D R := door [.ptr 0 0] [.box [.list (.int .u8), .int .i64, .int .i64, .own 1, .int .i64, .int .i64], .row (.named 1) true] (fun (_x : (Unit × Unit)) (y : ((List Int × Int × Int × Unit × Int × Int × Unit) × List D1 × Unit)) K => g y.1.1 y.1.2.1 y.1.2.2.1 y.1.2.2.2.2.1 y.1.2.2.2.2.2.1 y.2.1 (fun z0 z1 z2 z3 z4 z5 z6 => K ⟨.bool z0, [some (.box [.list (.int .u8) z1, .int .i64 z2, .int .i64 z3, .own 1, .int .i64 z4, .int .i64 z5]), some (.row (.named 1) z6 true)]⟩)) e
noncomputable def f56_2_o {R : Type} (_k : Nat) : Orc D R := noOrc
theorem f56_2_o_ok {R : Type} (k : Nat) : OrcOk Try.prog cx (f56_2_o (R := R) k) := OrcOk.no
noncomputable def f56_2_b : Code := bodyOf Try.f56
noncomputable def f56_2_ann : Nat → Option LAnn := fun _key => none
noncomputable def f56_2_r {R : Type} (_k : Nat) : Lrc D R := noLrc
theorem f56_2_ok {R : Type} (k : Nat) {e : Dr D R} (he : FnOk Try.prog cx 56 e) : FnOk Try.prog cx 56 (f56_2_d (f56_2 k) e) :=
  he.door fun _x _y => body_ok (keep := kp) (ann := f56_2_ann) (lrc := f56_2_r (R := R) k) (N := 9) (n0 := 2) (c := []) cxOk mixed (f56_2_o_ok k) (body := f56_2_b) (by kernel_rfl : Try.prog.funcs[56]? = some Try.f56) (by kernel_rfl) (by kernel_rfl) (by kernel_rfl) (by kernel_rfl) (of_decide_eq_true (by kernel_rfl)) (L := []) (by kernel_rfl) trivial (J := []) (by kernel_rfl) trivial (LrcNat.no) (fun _K => by kernel_rfl)

abbrev f87_2_T (R : Type) : Type := Int → List Int → Int → Int → Int → Int → List D1 → (List Int → Int → Int → Int → Int → List D1 → Option R) → Option R
/-! ## 87: (*diorama/element.parser).fail -/
noncomputable def f87_2 {R : Type} (k : Nat) (a0 : Int) (a1 : List Int) (a2 a3 a4 a5 : Int) (a6 : List D1) (K : List Int → Int → Int → Int → Int → List D1 → Option R) : Option R :=
 f56_2 k a1 a2 a3 a4 a5 a6 (fun v1 v2 v3 v4 v5 v6 v7 =>
  bif v1 then
   K v2 v3 v4 a0 v3 v7
  else
   K v2 v3 v4 v5 v6 v7)
noncomputable def f87_2_d {R : Type} (g : f87_2_T R) (e : Dr D R) : Dr D R := door [.ptr 0 0, .int .i64] [.box [.list (.int .u8), .int .i64, .int .i64, .own 1, .int .i64, .int .i64], .row (.named 1) true] (fun (x : (Unit × Int × Unit)) (y : ((List Int × Int × Int × Unit × Int × Int × Unit) × List D1 × Unit)) K => g x.2.1 y.1.1 y.1.2.1 y.1.2.2.1 y.1.2.2.2.2.1 y.1.2.2.2.2.2.1 y.2.1 (fun z0 z1 z2 z3 z4 z5 => K ⟨.tup [], [some (.box [.list (.int .u8) z0, .int .i64 z1, .int .i64 z2, .own 1, .int .i64 z3, .int .i64 z4]), some (.row (.named 1) z5 true)]⟩)) e
noncomputable def f87_2_o {R : Type} (k : Nat) : Orc D R := (orcAdd 56 (f56_2_d (f56_2 k) noDr) noOrc)
theorem f87_2_o_ok {R : Type} (k : Nat) : OrcOk Try.prog cx (f87_2_o (R := R) k) := (OrcOk.add (f56_2_ok k FnOk.no) OrcOk.no)
noncomputable def f87_2_b : Code := bodyOf Try.f87
noncomputable def f87_2_ann : Nat → Option LAnn := fun _key => none
noncomputable def f87_2_r {R : Type} (_k : Nat) : Lrc D R := noLrc
theorem f87_2_ok {R : Type} (k : Nat) {e : Dr D R} (he : FnOk Try.prog cx 87 e) : FnOk Try.prog cx 87 (f87_2_d (f87_2 k) e) :=
  he.door fun _x _y => body_ok (keep := kp) (ann := f87_2_ann) (lrc := f87_2_r (R := R) k) (N := 15) (n0 := 2) (c := []) cxOk mixed (f87_2_o_ok k) (body := f87_2_b) (by kernel_rfl : Try.prog.funcs[87]? = some Try.f87) (by kernel_rfl) (by kernel_rfl) (by kernel_rfl) (by kernel_rfl) (of_decide_eq_true (by kernel_rfl)) (L := []) (by kernel_rfl) trivial (J := []) (by kernel_rfl) trivial (LrcNat.no) (fun _K => by delta f87_2 f87_2_o; generalize @f56_2 R = a0; revert a0; refine id ?_; intros; kernel_rfl)

abbrev f95_T (R : Type) : Type := (List Int → Option R) → Option R
/-! ## 95: bytes.Clone -/
noncomputable def f95 {R : Type} (_k : Nat) (K : List Int → Option R) : Option R :=
 K ([] : List Int)
noncomputable def f95_d {R : Type} (g : f95_T R) (e : Dr D R) : Dr D R := door [.nil] [] (fun (_x : (Unit × Unit)) (_y : (Unit)) K => g (fun z0 => K ⟨.own 0, [some (.row (.int .u8) z0 true)]⟩)) e
noncomputable def f95_o {R : Type} (_k : Nat) : Orc D R := noOrc
theorem f95_o_ok {R : Type} (k : Nat) : OrcOk Try.prog cx (f95_o (R := R) k) := OrcOk.no
noncomputable def f95_b : Code := bodyOf Try.f95
noncomputable def f95_ann : Nat → Option LAnn := fun _key => none
noncomputable def f95_r {R : Type} (_k : Nat) : Lrc D R := noLrc
theorem f95_ok {R : Type} (k : Nat) {e : Dr D R} (he : FnOk Try.prog cx 95 e) : FnOk Try.prog cx 95 (f95_d (f95 k) e) :=
  he.door fun _x _y => body_ok (keep := kp) (ann := f95_ann) (lrc := f95_r (R := R) k) (N := 8) (n0 := 0) (c := [(.tmp 2, .own 1099511627776 (.int .u8))]) cxOk mixed (f95_o_ok k) (body := f95_b) (by kernel_rfl : Try.prog.funcs[95]? = some Try.f95) (by kernel_rfl) (by kernel_rfl) (by kernel_rfl) (by kernel_rfl) (of_decide_eq_true (by kernel_rfl)) (L := []) (by kernel_rfl) trivial (J := []) (by kernel_rfl) trivial (LrcNat.no) (fun _K => by kernel_rfl)

abbrev f95_2_T (R : Type) : Type := List Int → (List Int → Option R) → Option R
/-! ## 95: bytes.Clone -/
noncomputable def f95_2 {R : Type} (_k : Nat) (a0 : List Int) (K : List Int → Option R) : Option R :=
 bif room 1 (([] : List Int).length + a0.length) then
  K a0
 else
  none
noncomputable def f95_2_d {R : Type} (g : f95_2_T R) (e : Dr D R) : Dr D R := door [.full (.int .u8)] [] (fun (x : (List Int × Unit)) (_y : (Unit)) K => g x.1 (fun z0 => K ⟨.own 0, [some (.row (.int .u8) z0 true)]⟩)) e
noncomputable def f95_2_o {R : Type} (_k : Nat) : Orc D R := noOrc
theorem f95_2_o_ok {R : Type} (k : Nat) : OrcOk Try.prog cx (f95_2_o (R := R) k) := OrcOk.no
noncomputable def f95_2_b : Code := bodyOf Try.f95
noncomputable def f95_2_ann : Nat → Option LAnn := fun _key => none
noncomputable def f95_2_r {R : Type} (_k : Nat) : Lrc D R := noLrc
theorem f95_2_ok {R : Type} (k : Nat) {e : Dr D R} (he : FnOk Try.prog cx 95 e) : FnOk Try.prog cx 95 (f95_2_d (f95_2 k) e) :=
  he.door fun _x _y => body_ok (keep := kp) (ann := f95_2_ann) (lrc := f95_2_r (R := R) k) (N := 8) (n0 := 0) (c := [(.tmp 2, .own 1099511627776 (.int .u8))]) cxOk mixed (f95_2_o_ok k) (body := f95_2_b) (by kernel_rfl : Try.prog.funcs[95]? = some Try.f95) (by kernel_rfl) (by kernel_rfl) (by kernel_rfl) (by kernel_rfl) (of_decide_eq_true (by kernel_rfl)) (L := []) (by kernel_rfl) trivial (J := []) (by kernel_rfl) trivial (LrcNat.no) (fun _K => by kernel_rfl)
noncomputable def f95_2L_d {R : Type} (g : f95_2_T R) (e : Dr D R) : Dr D R := door [.list (.int .u8)] [] (fun (x : (List Int × Unit)) (_y : Unit) K => g x.1 (fun z0 => K ⟨.own 0, [some (.row (.int .u8) z0 true)]⟩)) e
theorem f95_2L_ok {R : Type} (k : Nat) {e : Dr D R} (he : FnOk Try.prog cx 95 e) : FnOk Try.prog cx 95 (f95_2L_d (f95_2 k) e) :=
  he.door fun x _y => split_ok (fun K r h => (f95_2_ok k FnOk.no).1 [.full (.int .u8) x.1] [] K r h) (fun hx K r h => (f95_ok k FnOk.no).1 [.nil] [] K r (by have hx : x.1 = [] := hx; rw [hx] at h; exact h)) ((f95_2_ok k FnOk.no).2 [.full (.int .u8) x.1] [])

abbrev f99_2_T (R : Type) : Type := List Int → Int → Int → Int → Int → List D1 → (Int → Int → Int → Bool → List Int → Int → Int → Int → Int → List D1 → Option R) → Option R
/-! ## 99: (*diorama/element.parser).head -/
noncomputable def f99_2 {R : Type} (k : Nat) (a0 : List Int) (a1 a2 a3 a4 : Int) (a5 : List D1) (K : Int → Int → Int → Bool → List Int → Int → Int → Int → Int → List D1 → Option R) : Option R :=
 bif inb a1 a0.length then
  f63 k (a0.getD a1.toNat 0) (fun v1 =>
   bif (v1 == 0) then
    f87_2 k 40 a0 a1 a2 a3 a4 a5 (fun v2 v3 v4 v5 v6 v7 =>
     K 0 0 0 false v2 v3 v4 v5 v6 v7)
   else
    bif decide ((IntKind.i64.wrap (a1 + v1)) ≥ (a0.length : Int)) then
     f87_2 k 3 a0 a1 a2 a3 a4 a5 (fun v8 v9 v10 v11 v12 v13 =>
      K 0 0 0 false v8 v9 v10 v11 v12 v13)
    else
     f64 k a0 a1 v1 (fun v14 _v15 =>
      f107 k a0 (IntKind.i64.wrap (a1 + v1)) (fun v16 v17 v18 v19 =>
      f60 k v14 v1 (fun v20 =>
      bif (!v20) then
      f87_2 k 40 a0 a1 a2 a3 a4 a5 (fun v21 v22 v23 v24 v25 v26 =>
      K v14 (IntKind.i64.wrap (v1 + v17)) v16 v18 v21 v22 v23 v24 v25 v26)
      else
      bif (v19 != 0) then
      f87_2 k v19 a0 a1 a2 a3 a4 a5 (fun v27 v28 v29 v30 v31 v32 =>
      K v14 (IntKind.i64.wrap (v1 + v17)) v16 v18 v27 v28 v29 v30 v31 v32)
      else
      K v14 (IntKind.i64.wrap (v1 + v17)) v16 v18 a0 a1 a2 a3 a4 a5))))
 else
  none
noncomputable def f99_2_d {R : Type} (g : f99_2_T R) (e : Dr D R) : Dr D R := door [.ptr 0 0] [.box [.list (.int .u8), .int .i64, .int .i64, .own 1, .int .i64, .int .i64], .row (.named 1) true] (fun (_x : (Unit × Unit)) (y : ((List Int × Int × Int × Unit × Int × Int × Unit) × List D1 × Unit)) K => g y.1.1 y.1.2.1 y.1.2.2.1 y.1.2.2.2.2.1 y.1.2.2.2.2.2.1 y.2.1 (fun z0 z1 z2 z3 z4 z5 z6 z7 z8 z9 => K ⟨.agg [.int .i64 z0, .int .i64 z1, .int .i64 z2, .bool z3], [some (.box [.list (.int .u8) z4, .int .i64 z5, .int .i64 z6, .own 1, .int .i64 z7, .int .i64 z8]), some (.row (.named 1) z9 true)]⟩)) e
noncomputable def f99_2_o {R : Type} (k : Nat) : Orc D R := (orcAdd 87 (f87_2_d (f87_2 k) noDr) (orcAdd 60 (f60_d (f60 k) noDr) (orcAdd 107 (f107_d (f107 k) noDr) (orcAdd 64 (f64_d (f64 k) noDr) (orcAdd 63 (f63_d (f63 k) noDr) noOrc)))))
theorem f99_2_o_ok {R : Type} (k : Nat) : OrcOk Try.prog cx (f99_2_o (R := R) k) := (OrcOk.add (f87_2_ok k FnOk.no) (OrcOk.add (f60_ok k FnOk.no) (OrcOk.add (f107_ok k FnOk.no) (OrcOk.add (f64_ok k FnOk.no) (OrcOk.add (f63_ok k FnOk.no) OrcOk.no)))))
noncomputable def f99_2_b : Code := bodyOf Try.f99
noncomputable def f99_2_ann : Nat → Option LAnn := fun _key => none
noncomputable def f99_2_r {R : Type} (_k : Nat) : Lrc D R := noLrc
theorem f99_2_ok {R : Type} (k : Nat) {e : Dr D R} (he : FnOk Try.prog cx 99 e) : FnOk Try.prog cx 99 (f99_2_d (f99_2 k) e) :=
  he.door fun _x _y => body_ok (keep := kp) (ann := f99_2_ann) (lrc := f99_2_r (R := R) k) (N := 91) (n0 := 2) (c := []) cxOk mixed (f99_2_o_ok k) (body := f99_2_b) (by kernel_rfl : Try.prog.funcs[99]? = some Try.f99) (by kernel_rfl) (by kernel_rfl) (by kernel_rfl) (by kernel_rfl) (of_decide_eq_true (by kernel_rfl)) (L := []) (by kernel_rfl) trivial (J := []) (by kernel_rfl) trivial (LrcNat.no) (fun _K => by delta f99_2 f99_2_o; generalize @f63 R = a0; generalize @f64 R = a1; generalize @f107 R = a2; generalize @f60 R = a3; generalize @f87_2 R = a4; revert a0 a1 a2 a3 a4; refine id ?_; intros; kernel_rfl)

abbrev f108_T (R : Type) : Type := List Int → (Int → Option R) → Option R
/-! ## 108: diorama/bits.Sum -/
noncomputable def f108_l7 {R : Type} : Nat → Int → List Int → Int → Int → Int → (Int → List Int → Int → Int → Option R) → Option R
  | 0, _, _, _, _, _, _ => none
  | k + 1, v5, v6, v7, v8, v9, X0 =>
  bif decide (v9 < 8) then
   bif ((andI .u32 v5 1) == 1) then
    f108_l7 k (xorI .u32 (shrI .u32 v5 1) 3558460437) v6 v7 v8 (IntKind.i64.wrap (v9 + 1)) X0
   else
    f108_l7 k (shrI .u32 v5 1) v6 v7 v8 (IntKind.i64.wrap (v9 + 1)) X0
  else
   X0 v5 v6 v7 v8
noncomputable def f108_l3 {R : Type} : Nat → Int → List Int → Int → Int → (Int → Option R) → Option R
  | 0, _, _, _, _, _ => none
  | k + 1, v1, v2, v3, v4, X0 =>
  bif decide (v4 < v3) then
   bif inb v4 v2.length then
    f108_l7 k (xorI .u32 v1 (IntKind.u32.wrap ((v2.getD v4.toNat 0)))) v2 v3 v4 0 (fun v10 v11 v12 v13 =>
     f108_l3 k v10 v11 v12 (IntKind.i64.wrap (v13 + 1)) X0)
   else
    none
  else
   X0 v1
noncomputable def f108 {R : Type} (k : Nat) (a0 : List Int) (K : Int → Option R) : Option R :=
 f108_l3 k 4294967295 a0 (a0.length : Int) 0 (fun v14 =>
  K (xorI .u32 4294967295 v14))
noncomputable def f108_d {R : Type} (g : f108_T R) (e : Dr D R) : Dr D R := door [.list (.int .u8)] [] (fun (x : (List Int × Unit)) (_y : (Unit)) K => g x.1 (fun z0 => K ⟨.int .u32 z0, []⟩)) e
noncomputable def f108_o {R : Type} (_k : Nat) : Orc D R := noOrc
theorem f108_o_ok {R : Type} (k : Nat) : OrcOk Try.prog cx (f108_o (R := R) k) := OrcOk.no
noncomputable def f108_b : Code := bodyOf Try.f108
noncomputable def f108_l7_a : LAnn := ⟨⟨[], [3, 7, 8, 9, 17], [], []⟩, exOf (none) [(2, ⟨[], [3, 7, 8, 9], [], []⟩)]⟩
noncomputable def f108_l3_a : LAnn := ⟨⟨[], [3, 7, 8, 9], [], []⟩, exOf (none) [(0, ⟨[], [3], [], []⟩)]⟩
noncomputable def f108_ann : Nat → Option LAnn := fun key => bif Nat.beq key 3 then some f108_l3_a else bif Nat.beq key 7 then some f108_l7_a else none
noncomputable def f108_l7_b : Code := loopAt f108_b 1
noncomputable def f108_l7_g {R : Type} (k : Nat) (x : (Int × List Int × Int × Int × Int × Unit)) (_y : (Unit)) (K : KX R) : Option R := f108_l7 k x.1 x.2.1 x.2.2.1 x.2.2.2.1 x.2.2.2.2.1 (fun z0 z1 z2 z3 => K (.exit 2) [.int .u32 z0, .list (.int .u8) z1, .int .i64 z2, .int .i64 z3] [])
noncomputable def f108_l7_d {R : Type} (k : Nat) : Lr D R := ldoor [.int .u32, .list (.int .u8), .int .i64, .int .i64, .int .i64] [] (f108_l7_g k)
noncomputable def f108_l7_r {R : Type} (_k : Nat) : Lrc D R := noLrc
theorem f108_l7_d_ok {R : Type} : ∀ k, LoopOk Try.prog cx 31 0 f108_ann (f108_l7_d (R := R) k) f108_l7_b :=
  loop_ok (keep := kp) (lrc := f108_l7_r (R := R)) cxOk mixed (f108_o_ok) (show f108_ann (Am.keyOf f108_l7_b) = some f108_l7_a by kernel_rfl) (L := []) (by kernel_rfl) (fun _k => trivial) (J := []) (by kernel_rfl) (fun _k => trivial) (fun _k => LrcNat.no) (fun _x _y _K => by kernel_rfl) (fun _k _x _y _K => by kernel_rfl)
noncomputable def f108_l3_b : Code := loopAt f108_b 0
noncomputable def f108_l3_g {R : Type} (k : Nat) (x : (Int × List Int × Int × Int × Unit)) (_y : (Unit)) (K : KX R) : Option R := f108_l3 k x.1 x.2.1 x.2.2.1 x.2.2.2.1 (fun z0 => K (.exit 0) [.int .u32 z0] [])
noncomputable def f108_l3_d {R : Type} (k : Nat) : Lr D R := ldoor [.int .u32, .list (.int .u8), .int .i64, .int .i64] [] (f108_l3_g k)
noncomputable def f108_l3_r {R : Type} (k : Nat) : Lrc D R := (lrcAdd 7 (f108_l7_d k) noLrc)
theorem f108_l3_d_ok {R : Type} : ∀ k, LoopOk Try.prog cx 31 0 f108_ann (f108_l3_d (R := R) k) f108_l3_b :=
  loop_ok (keep := kp) (lrc := f108_l3_r (R := R)) cxOk mixed (f108_o_ok) (show f108_ann (Am.keyOf f108_l3_b) = some f108_l3_a by kernel_rfl) (L := [f108_l7_b]) (by kernel_rfl) (fun k => ⟨(f108_l7_d_ok k).use (by kernel_rfl), trivial⟩) (J := []) (by kernel_rfl) (fun _k => trivial) (fun k => (LrcNat.add (f108_l7_d_ok k).2 LrcNat.no)) (fun _x _y _K => by kernel_rfl) (fun _k _x _y _K => by kernel_rfl)
noncomputable def f108_r {R : Type} (k : Nat) : Lrc D R := (lrcAdd 7 (f108_l7_d k) (lrcAdd 3 (f108_l3_d k) noLrc))
theorem f108_ok {R : Type} (k : Nat) {e : Dr D R} (he : FnOk Try.prog cx 108 e) : FnOk Try.prog cx 108 (f108_d (f108 k) e) :=
  he.door fun _x _y => body_ok (keep := kp) (ann := f108_ann) (lrc := f108_r (R := R) k) (N := 31) (n0 := 0) (c := []) cxOk mixed (f108_o_ok k) (body := f108_b) (by kernel_rfl : Try.prog.funcs[108]? = some Try.f108) (by kernel_rfl) (by kernel_rfl) (by kernel_rfl) (by kernel_rfl) (of_decide_eq_true (by kernel_rfl)) (L := [f108_l3_b, f108_l7_b]) (by kernel_rfl) (⟨(f108_l3_d_ok k).use (by kernel_rfl), (f108_l7_d_ok k).use (by kernel_rfl), trivial⟩) (J := []) (by kernel_rfl) trivial ((LrcNat.add (f108_l7_d_ok k).2 (LrcNat.add (f108_l3_d_ok k).2 LrcNat.no))) (fun _K => by kernel_rfl)

abbrev f100_T (R : Type) : Type := Int → Int → Int → Bool → Int → Int → Bool → Bool → Int → List Int → Int → Int → Int → Int → List D1 → (List Int → Int → Int → Int → Int → List D1 → Option R) → Option R
/-! ## 100: (*diorama/element.parser).sum -/
noncomputable def f100 {R : Type} (k : Nat) (_a0 a1 a2 : Int) (_a3 : Bool) (_a4 a5 : Int) (_a6 a7 : Bool) (_a8 : Int) (a9 : List Int) (a10 a11 a12 a13 : Int) (a14 : List D1) (K : List Int → Int → Int → Int → Int → List D1 → Option R) : Option R :=
 bif (a2 != 4) then
  f87_2 k 4 a9 a10 a11 a12 a13 a14 K
 else
  bif a7 then
   f87_2 k 4 a9 a10 a11 a12 a13 a14 K
  else
   f64 k a9 (IntKind.i64.wrap (a10 + a1)) 4 (fun v13 _v14 =>
    bif upto a5 a9.length then
     bif (decide (0 ≤ (IntKind.i64.wrap ((IntKind.i64.wrap (a10 + a1)) + 4)))) && (decide ((IntKind.i64.wrap ((IntKind.i64.wrap (a10 + a1)) + 4)) ≤ a5)) then
      f108 k ((a9.take a5.toNat).drop ((IntKind.i64.wrap ((IntKind.i64.wrap (a10 + a1)) + 4)).toNat)) (fun v15 =>
      bif (v13 != (IntKind.i64.wrap (v15))) then
      f87_2 k 6 a9 a10 a11 a12 a13 a14 K
      else
      K a9 a10 a11 a12 a13 a14)
     else
      none
    else
     none)
noncomputable def f100_d {R : Type} (g : f100_T R) (e : Dr D R) : Dr D R := door [.ptr 0 0, .agg [.int .i64, .int .i64, .int .i64, .bool], .agg [.int .i64, .int .i64, .bool, .bool, .int .i64]] [.box [.list (.int .u8), .int .i64, .int .i64, .own 1, .int .i64, .int .i64], .row (.named 1) true] (fun (x : (Unit × (Int × Int × Int × Bool × Unit) × (Int × Int × Bool × Bool × Int × Unit) × Unit)) (y : ((List Int × Int × Int × Unit × Int × Int × Unit) × List D1 × Unit)) K => g x.2.1.1 x.2.1.2.1 x.2.1.2.2.1 x.2.1.2.2.2.1 x.2.2.1.1 x.2.2.1.2.1 x.2.2.1.2.2.1 x.2.2.1.2.2.2.1 x.2.2.1.2.2.2.2.1 y.1.1 y.1.2.1 y.1.2.2.1 y.1.2.2.2.2.1 y.1.2.2.2.2.2.1 y.2.1 (fun z0 z1 z2 z3 z4 z5 => K ⟨.tup [], [some (.box [.list (.int .u8) z0, .int .i64 z1, .int .i64 z2, .own 1, .int .i64 z3, .int .i64 z4]), some (.row (.named 1) z5 true)]⟩)) e
noncomputable def f100_o {R : Type} (k : Nat) : Orc D R := (orcAdd 108 (f108_d (f108 k) noDr) (orcAdd 87 (f87_2_d (f87_2 k) noDr) (orcAdd 64 (f64_d (f64 k) noDr) noOrc)))
theorem f100_o_ok {R : Type} (k : Nat) : OrcOk Try.prog cx (f100_o (R := R) k) := (OrcOk.add (f108_ok k FnOk.no) (OrcOk.add (f87_2_ok k FnOk.no) (OrcOk.add (f64_ok k FnOk.no) OrcOk.no)))
noncomputable def f100_b : Code := bodyOf Try.f100
noncomputable def f100_ann : Nat → Option LAnn := fun _key => none
noncomputable def f100_r {R : Type} (_k : Nat) : Lrc D R := noLrc
theorem f100_ok {R : Type} (k : Nat) {e : Dr D R} (he : FnOk Try.prog cx 100 e) : FnOk Try.prog cx 100 (f100_d (f100 k) e) :=
  he.door fun _x _y => body_ok (keep := kp) (ann := f100_ann) (lrc := f100_r (R := R) k) (N := 49) (n0 := 2) (c := []) cxOk mixed (f100_o_ok k) (body := f100_b) (by kernel_rfl : Try.prog.funcs[100]? = some Try.f100) (by kernel_rfl) (by kernel_rfl) (by kernel_rfl) (by kernel_rfl) (of_decide_eq_true (by kernel_rfl)) (L := []) (by kernel_rfl) trivial (J := []) (by kernel_rfl) trivial (LrcNat.no) (fun _K => by delta f100 f100_o; generalize @f64 R = a0; generalize @f87_2 R = a1; generalize @f108 R = a2; revert a0 a1 a2; refine id ?_; intros; kernel_rfl)

abbrev f68_T (R : Type) : Type := Int → ByteArray → Int → Bool → Bool → Int → (Bool → Option R) → Option R
/-! ## 68: diorama/element.within -/
noncomputable def f68 {R : Type} (_k : Nat) (a0 : Int) (_a1 : ByteArray) (a2 : Int) (_a3 _a4 : Bool) (a5 : Int) (K : Bool → Option R) : Option R :=
 bif (a2 == a5) then
  K true
 else
  bif (a0 == 227) then
   K (a5 == 227)
  else
   K false
noncomputable def f68_d {R : Type} (g : f68_T R) (e : Dr D R) : Dr D R := door [.agg [.int .i64, .str, .int .i64, .bool, .bool], .int .i64] [] (fun (x : ((Int × ByteArray × Int × Bool × Bool × Unit) × Int × Unit)) (_y : (Unit)) K => g x.1.1 x.1.2.1 x.1.2.2.1 x.1.2.2.2.1 x.1.2.2.2.2.1 x.2.1 (fun z0 => K ⟨.bool z0, []⟩)) e
noncomputable def f68_o {R : Type} (_k : Nat) : Orc D R := noOrc
theorem f68_o_ok {R : Type} (k : Nat) : OrcOk Try.prog cx (f68_o (R := R) k) := OrcOk.no
noncomputable def f68_b : Code := bodyOf Try.f68
noncomputable def f68_ann : Nat → Option LAnn := fun _key => none
noncomputable def f68_r {R : Type} (_k : Nat) : Lrc D R := noLrc
theorem f68_ok {R : Type} (k : Nat) {e : Dr D R} (he : FnOk Try.prog cx 68 e) : FnOk Try.prog cx 68 (f68_d (f68 k) e) :=
  he.door fun _x _y => body_ok (keep := kp) (ann := f68_ann) (lrc := f68_r (R := R) k) (N := 18) (n0 := 0) (c := []) cxOk mixed (f68_o_ok k) (body := f68_b) (by kernel_rfl : Try.prog.funcs[68]? = some Try.f68) (by kernel_rfl) (by kernel_rfl) (by kernel_rfl) (by kernel_rfl) (of_decide_eq_true (by kernel_rfl)) (L := []) (by kernel_rfl) trivial (J := []) (by kernel_rfl) trivial (LrcNat.no) (fun _K => by kernel_rfl)


end Go.Proofs.Ytklhjegfkpmdoaa

/-! What the functions do, as plain functions; and that they do. -/
namespace Go.Proofs.Ytklhjegfkpmdoaa
open Go Go.Am
abbrev f101_3_T (R : Type) : Type := Int → Int → Int → Bool → Int → ByteArray → Int → Bool → Bool → Bool → Int → Int → Bool → Bool → Int → List Int → Int → Int → Int → Int → List D1 → (Int → Bool → Bool → List Int → Int → Int → Int → Int → List Int → List D2 → List D1 → Option R) → Option R
abbrev f88_2_T (R : Type) : Type := Int → Int → Bool → Bool → Int → List Int → Int → Int → Int → Int → List D1 → (List Int → Int → Int → Int → Int → List D2 → List D1 → Option R) → Option R
/-! ## 101: (*diorama/element.parser).element -/
noncomputable def f101_3_s {R : Type} (g_f88_2 : Nat → f88_2_T R) (k : Nat) (a0 a1 a2 : Int) (a3 : Bool) (_a4 : Int) (_a5 : ByteArray) (_a6 : Int) (a7 _a8 a9 : Bool) (_a10 a11 : Int) (a12 _a13 : Bool) (a14 : Int) (a15 : List Int) (a16 a17 a18 a19 : Int) (a20 : List D1) (K : Int → Bool → Bool → List Int → Int → Int → Int → Int → List Int → List D2 → List D1 → Option R) : Option R :=
 bif room 48 (a20.length + ([(a0, a16, a1, a2, a14, a3)]).length) then
  bif a9 then
   K 0 false false a15 (IntKind.i64.wrap (a16 + (IntKind.i64.wrap (a1 + a2)))) a17 a18 a19 ([] : List Int) ([] : List D2) (a20 ++ ([(a0, a16, a1, a2, a14, a3)]))
  else
   bif decide ((IntKind.i64.wrap (a17 + 1)) > 4000) then
    f87_2 k 2 a15 a16 (IntKind.i64.wrap (a17 + 1)) a18 a19 (a20 ++ ([(a0, a16, a1, a2, a14, a3)])) (fun v1 v2 v3 v4 v5 v6 =>
     K 0 false false v1 v2 v3 v4 v5 ([] : List Int) ([] : List D2) v6)
   else
    bif (!a7) then
     bif upto (IntKind.i64.wrap ((IntKind.i64.wrap (a16 + a1)) + a2)) a15.length then
      bif (decide (0 ≤ (IntKind.i64.wrap (a16 + a1)))) && (decide ((IntKind.i64.wrap (a16 + a1)) ≤ (IntKind.i64.wrap ((IntKind.i64.wrap (a16 + a1)) + a2)))) then
      f95_2 k ((a15.take ((IntKind.i64.wrap ((IntKind.i64.wrap (a16 + a1)) + a2)).toNat)).drop ((IntKind.i64.wrap (a16 + a1)).toNat)) (fun v7 =>
      K a0 a7 true a15 (IntKind.i64.wrap ((IntKind.i64.wrap (a16 + a1)) + a2)) (IntKind.i64.wrap (a17 + 1)) a18 a19 v7 ([] : List D2) (a20 ++ ([(a0, a16, a1, a2, a14, a3)])))
      else
      none
     else
      none
    else
     bif a3 then
      g_f88_2 k a0 a11 a12 true (IntKind.i64.wrap (a14 + 1)) a15 (IntKind.i64.wrap (a16 + a1)) (IntKind.i64.wrap (a17 + 1)) a18 a19 (a20 ++ ([(a0, a16, a1, a2, a14, a3)])) (fun v8 v9 v10 v11 v12 v13 v14 =>
      bif inb (a20.length : Int) v14.length then
      K a0 a7 true v8 v9 v10 v11 v12 ([] : List Int) v13 (v14.set ((a20.length : Int).toNat) ((v14.getD ((a20.length : Int).toNat) zero1).1, (v14.getD ((a20.length : Int).toNat) zero1).2.1, (v14.getD ((a20.length : Int).toNat) zero1).2.2.1, (IntKind.i64.wrap (v9 - (IntKind.i64.wrap (a16 + a1)))), (v14.getD ((a20.length : Int).toNat) zero1).2.2.2.2.1, (v14.getD ((a20.length : Int).toNat) zero1).2.2.2.2.2))
      else
      none)
     else
      g_f88_2 k a0 (IntKind.i64.wrap ((IntKind.i64.wrap (a16 + a1)) + a2)) true false (IntKind.i64.wrap (a14 + 1)) a15 (IntKind.i64.wrap (a16 + a1)) (IntKind.i64.wrap (a17 + 1)) a18 a19 (a20 ++ ([(a0, a16, a1, a2, a14, a3)])) (fun v15 v16 v17 v18 v19 v20 v21 =>
      bif inb (a20.length : Int) v21.length then
      K a0 a7 true v15 v16 v17 v18 v19 ([] : List Int) v20 (v21.set ((a20.length : Int).toNat) ((v21.getD ((a20.length : Int).toNat) zero1).1, (v21.getD ((a20.length : Int).toNat) zero1).2.1, (v21.getD ((a20.length : Int).toNat) zero1).2.2.1, (IntKind.i64.wrap (v16 - (IntKind.i64.wrap (a16 + a1)))), (v21.getD ((a20.length : Int).toNat) zero1).2.2.2.2.1, (v21.getD ((a20.length : Int).toNat) zero1).2.2.2.2.2))
      else
      none)
 else
  none
noncomputable def f101_3_d {R : Type} (g : f101_3_T R) (e : Dr D R) : Dr D R := door [.ptr 0 0, .agg [.int .i64, .int .i64, .int .i64, .bool], .agg [.int .i64, .str, .int .i64, .bool, .bool], .bool, .agg [.int .i64, .int .i64, .bool, .bool, .int .i64]] [.box [.list (.int .u8), .int .i64, .int .i64, .own 1, .int .i64, .int .i64], .row (.named 1) true] (fun (x : (Unit × (Int × Int × Int × Bool × Unit) × (Int × ByteArray × Int × Bool × Bool × Unit) × Bool × (Int × Int × Bool × Bool × Int × Unit) × Unit)) (y : ((List Int × Int × Int × Unit × Int × Int × Unit) × List D1 × Unit)) K => g x.2.1.1 x.2.1.2.1 x.2.1.2.2.1 x.2.1.2.2.2.1 x.2.2.1.1 x.2.2.1.2.1 x.2.2.1.2.2.1 x.2.2.1.2.2.2.1 x.2.2.1.2.2.2.2.1 x.2.2.2.1 x.2.2.2.2.1.1 x.2.2.2.2.1.2.1 x.2.2.2.2.1.2.2.1 x.2.2.2.2.1.2.2.2.1 x.2.2.2.2.1.2.2.2.2.1 y.1.1 y.1.2.1 y.1.2.2.1 y.1.2.2.2.2.1 y.1.2.2.2.2.2.1 y.2.1 (fun z0 z1 z2 z3 z4 z5 z6 z7 z8 z9 z10 => K ⟨.tup [.agg [.int .i64 z0, .own 2, .own 3, .bool z1], .bool z2], [some (.box [.list (.int .u8) z3, .int .i64 z4, .int .i64 z5, .own 4, .int .i64 z6, .int .i64 z7]), none, some (.row (.int .u8) z8 true), some (.row (.named 2) z9 true), some (.row (.named 1) z10 true)]⟩)) e
/-! ## 88: (*diorama/element.parser).level -/
noncomputable def f88_2_j12 {R : Type} (_g_f101_3 : Nat → f101_3_T R) (_k : Nat) (v104 v105 : Bool) (v106 : Int) (v107 : Bool) (v108 : List Int) (v109 v110 v111 v112 : Int) (v113 : List D1) (v114 v115 : Int) (v116 v117 : Bool) (v118 : Int) (v119 : List D2) (v120 v121 v122 : Int) (v123 : Bool) (v124 : Int) (v125 : ByteArray) (v126 : Int) (v127 v128 : Bool) (X0 : Bool → Bool → Int → Bool → List Int → Int → Int → Int → Int → List D1 → Int → Int → Bool → Bool → Int → List D2 → Int → Int → Int → Bool → Int → ByteArray → Int → Bool → Bool → Option R) : Option R :=
 bif v107 then
  X0 v104 v105 v106 v107 v108 v109 v110 v111 v112 v113 v114 v115 v116 v117 v118 v119 v120 v121 v122 v123 v124 v125 v126 v127 v128
 else
  bif v116 then
   bif decide (v106 > v115) then
    X0 v104 v105 v106 true v108 v109 v110 v111 v112 v113 v114 v115 v116 v117 v118 v119 v120 v121 v122 v123 v124 v125 v126 v127 v128
   else
    X0 v104 v105 v106 (decide (v122 > v115)) v108 v109 v110 v111 v112 v113 v114 v115 v116 v117 v118 v119 v120 v121 v122 v123 v124 v125 v126 v127 v128
  else
   X0 v104 v105 v106 false v108 v109 v110 v111 v112 v113 v114 v115 v116 v117 v118 v119 v120 v121 v122 v123 v124 v125 v126 v127 v128
noncomputable def f88_2_j17 {R : Type} (_g_f101_3 : Nat → f101_3_T R) (_k : Nat) (v216 v217 v218 : Bool) (v219 : List Int) (v220 v221 v222 v223 : Int) (v224 : List D1) (v225 v226 : Int) (v227 v228 : Bool) (v229 : Int) (v230 : List D2) (v231 v232 v233 : Int) (v234 : Bool) (v235 : Int) (v236 : ByteArray) (v237 : Int) (v238 v239 : Bool) (X0 : Bool → Bool → List Int → Int → Int → Int → Int → List D1 → Int → Int → Bool → Bool → Int → List D2 → Int → Int → Int → Bool → Int → ByteArray → Int → Bool → Bool → Option R) : Option R :=
 bif v218 then
  X0 v217 v218 v219 v220 v221 v222 v223 v224 v225 v226 v227 v228 v229 v230 v231 v232 v233 v234 v235 v236 v237 v238 v239
 else
  bif (v235 == 237) then
   bif (v225 == 0) then
    X0 v217 true v219 v220 v221 v222 v223 v224 v225 v226 v227 v228 v229 v230 v231 v232 v233 v234 v235 v236 v237 v238 v239
   else
    X0 v217 (!v216) v219 v220 v221 v222 v223 v224 v225 v226 v227 v228 v229 v230 v231 v232 v233 v234 v235 v236 v237 v238 v239
  else
   X0 v217 false v219 v220 v221 v222 v223 v224 v225 v226 v227 v228 v229 v230 v231 v232 v233 v234 v235 v236 v237 v238 v239
noncomputable def f88_2_j18 {R : Type} (_g_f101_3 : Nat → f101_3_T R) (k : Nat) (v263 v264 : Bool) (v265 : List Int) (v266 v267 v268 v269 : Int) (v270 : List D1) (v271 v272 : Int) (v273 v274 : Bool) (v275 : Int) (v276 : List D2) (v277 v278 v279 : Int) (v280 : Bool) (v281 : Int) (v282 : ByteArray) (v283 : Int) (v284 v285 : Bool) (X0 : Bool → List Int → Int → Int → Int → Int → List D1 → Int → Int → Bool → Bool → Int → List D2 → Int → Int → Int → Bool → Int → ByteArray → Int → Bool → Bool → Option R) : Option R :=
 bif v264 then
  f87_2 k 42 v265 v266 v267 v268 v269 v270 (fun v286 v287 v288 v289 v290 v291 =>
   X0 v263 v286 v287 v288 v289 v290 v291 v271 v272 v273 v274 v275 v276 v277 v278 v279 v280 v281 v282 v283 v284 v285)
 else
  bif decide (v275 > 8) then
   f87_2 k 43 v265 v266 v267 v268 v269 v270 (fun v292 v293 v294 v295 v296 v297 =>
    X0 v263 v292 v293 v294 v295 v296 v297 v271 v272 v273 v274 v275 v276 v277 v278 v279 v280 v281 v282 v283 v284 v285)
  else
   bif (v281 == 237) then
    f100 k v277 v278 v279 v280 v271 v272 v273 v274 v275 v265 v266 v267 v268 v269 v270 (fun v298 v299 v300 v301 v302 v303 =>
     X0 v263 v298 v299 v300 v301 v302 v303 v271 v272 v273 v274 v275 v276 v277 v278 v279 v280 v281 v282 v283 v284 v285)
   else
    X0 v263 v265 v266 v267 v268 v269 v270 v271 v272 v273 v274 v275 v276 v277 v278 v279 v280 v281 v282 v283 v284 v285
noncomputable def f88_2_j15 {R : Type} (g_f101_3 : Nat → f101_3_T R) (k : Nat) (v185 v186 v187 : Bool) (v188 : List Int) (v189 v190 v191 v192 : Int) (v193 : List D1) (v194 v195 : Int) (v196 v197 : Bool) (v198 : Int) (v199 : List D2) (v200 v201 v202 : Int) (v203 : Bool) (v204 : Int) (v205 : ByteArray) (v206 : Int) (v207 v208 : Bool) (X0 : Bool → List Int → Int → Int → Int → Int → List D1 → Int → Int → Bool → Bool → Int → List D2 → Int → Int → Int → Bool → Int → ByteArray → Int → Bool → Bool → Option R) : Option R :=
 bif v187 then
  f87_2 k 3 v188 v189 v190 v191 v192 v193 (fun v209 v210 v211 v212 v213 v214 =>
   X0 v186 v209 v210 v211 v212 v213 v214 v194 v195 v196 v197 v198 v199 v200 v201 v202 v203 v204 v205 v206 v207 v208)
 else
  bif (!v186) then
   f68 k v204 v205 v206 v207 v208 v194 (fun v215 =>
    f88_2_j17 g_f101_3 k v185 v186 (!v215) v188 v189 v190 v191 v192 v193 v194 v195 v196 v197 v198 v199 v200 v201 v202 v203 v204 v205 v206 v207 v208 (fun v240 v241 v242 v243 v244 v245 v246 v247 v248 v249 v250 v251 v252 v253 v254 v255 v256 v257 v258 v259 v260 v261 v262 =>
     f88_2_j18 g_f101_3 k v240 v241 v242 v243 v244 v245 v246 v247 v248 v249 v250 v251 v252 v253 v254 v255 v256 v257 v258 v259 v260 v261 v262 X0))
  else
   f88_2_j17 g_f101_3 k v185 v186 false v188 v189 v190 v191 v192 v193 v194 v195 v196 v197 v198 v199 v200 v201 v202 v203 v204 v205 v206 v207 v208 (fun v326 v327 v328 v329 v330 v331 v332 v333 v334 v335 v336 v337 v338 v339 v340 v341 v342 v343 v344 v345 v346 v347 v348 =>
    f88_2_j18 g_f101_3 k v326 v327 v328 v329 v330 v331 v332 v333 v334 v335 v336 v337 v338 v339 v340 v341 v342 v343 v344 v345 v346 v347 v348 X0)
noncomputable def f88_2_j13 {R : Type} (g_f101_3 : Nat → f101_3_T R) (k : Nat) (v154 v155 : Bool) (v156 : Int) (v157 : Bool) (v158 : List Int) (v159 v160 v161 v162 : Int) (v163 : List D1) (v164 v165 : Int) (v166 v167 : Bool) (v168 : Int) (v169 : List D2) (v170 v171 v172 : Int) (v173 : Bool) (v174 : Int) (v175 : ByteArray) (v176 : Int) (v177 v178 : Bool) (X0 : Bool → List Int → Int → Int → Int → Int → List D1 → Int → Int → Bool → Bool → Int → List D2 → Int → Int → Int → Bool → Int → ByteArray → Int → Bool → Bool → Option R) : Option R :=
 bif v157 then
  f87_2 k 41 v158 v159 v160 v161 v162 v163 (fun v179 v180 v181 v182 v183 v184 =>
   X0 v155 v179 v180 v181 v182 v183 v184 v164 v165 v166 v167 v168 v169 v170 v171 v172 v173 v174 v175 v176 v177 v178)
 else
  bif decide (v156 > (v158.length : Int)) then
   f88_2_j15 g_f101_3 k v154 v155 true v158 v159 v160 v161 v162 v163 v164 v165 v166 v167 v168 v169 v170 v171 v172 v173 v174 v175 v176 v177 v178 X0
  else
   f88_2_j15 g_f101_3 k v154 v155 (decide (v172 > (v158.length : Int))) v158 v159 v160 v161 v162 v163 v164 v165 v166 v167 v168 v169 v170 v171 v172 v173 v174 v175 v176 v177 v178 X0
noncomputable def f88_2_j23 {R : Type} (g_f101_3 : Nat → f101_3_T R) (k : Nat) (v437 : Bool) (v438 : List Int) (v439 v440 v441 v442 : Int) (v443 : List D1) (v444 v445 : Int) (v446 v447 : Bool) (v448 : Int) (v449 : List D2) (v450 v451 v452 : Int) (v453 : Bool) (v454 : Int) (v455 : ByteArray) (v456 : Int) (v457 v458 : Bool) (X0 : List D2 → List Int → Int → Int → Int → Int → List D1 → Option R) (X1 : List Int → Int → Int → Int → Int → List D1 → Int → Int → Bool → Bool → Int → List D2 → Option R) : Option R :=
 f56_2 k v438 v439 v440 v441 v442 v443 (fun v459 v460 v461 v462 v463 v464 v465 =>
  bif (!v459) then
   X0 v449 v460 v461 v462 v463 v464 v465
  else
   g_f101_3 k v450 v451 v452 v453 v454 v455 v456 v457 v458 v437 v444 v445 v446 v447 v448 v460 v461 v462 v463 v464 v465 (fun v466 v467 v468 v469 v470 v471 v472 v473 v474 v475 v476 =>
    bif v468 then
     bif room 64 (v449.length + ([(D2.mk v466 v474 v475 v467)]).length) then
      X1 v469 v470 v471 v472 v473 v476 v444 v445 v446 v447 v448 (v449 ++ ([(D2.mk v466 v474 v475 v467)]))
     else
      none
    else
     X1 v469 v470 v471 v472 v473 v476 v444 v445 v446 v447 v448 v449))
noncomputable def f88_2_j10 {R : Type} (g_f101_3 : Nat → f101_3_T R) (k : Nat) (v81 v82 : Bool) (v83 : List Int) (v84 v85 v86 v87 : Int) (v88 : List D1) (v89 v90 : Int) (v91 v92 : Bool) (v93 : Int) (v94 : List D2) (v95 v96 v97 : Int) (v98 : Bool) (v99 : Int) (v100 : ByteArray) (v101 : Int) (v102 v103 : Bool) (X0 : List D2 → List Int → Int → Int → Int → Int → List D1 → Option R) (X1 : List Int → Int → Int → Int → Int → List D1 → Int → Int → Bool → Bool → Int → List D2 → Option R) : Option R :=
 bif v98 then
  f88_2_j12 g_f101_3 k v81 v82 (IntKind.i64.wrap ((IntKind.i64.wrap (v84 + v96)) + v97)) (!v103) v83 v84 v85 v86 v87 v88 v89 v90 v91 v92 v93 v94 v95 v96 v97 v98 v99 v100 v101 v102 v103 (fun v129 v130 v131 v132 v133 v134 v135 v136 v137 v138 v139 v140 v141 v142 v143 v144 v145 v146 v147 v148 v149 v150 v151 v152 v153 =>
   f88_2_j13 g_f101_3 k v129 v130 v131 v132 v133 v134 v135 v136 v137 v138 v139 v140 v141 v142 v143 v144 v145 v146 v147 v148 v149 v150 v151 v152 v153 (fun v415 v416 v417 v418 v419 v420 v421 v422 v423 v424 v425 v426 v427 v428 v429 v430 v431 v432 v433 v434 v435 v436 =>
    f88_2_j23 g_f101_3 k v415 v416 v417 v418 v419 v420 v421 v422 v423 v424 v425 v426 v427 v428 v429 v430 v431 v432 v433 v434 v435 v436 X0 X1))
 else
  f88_2_j12 g_f101_3 k v81 v82 (IntKind.i64.wrap ((IntKind.i64.wrap (v84 + v96)) + v97)) false v83 v84 v85 v86 v87 v88 v89 v90 v91 v92 v93 v94 v95 v96 v97 v98 v99 v100 v101 v102 v103 (fun v496 v497 v498 v499 v500 v501 v502 v503 v504 v505 v506 v507 v508 v509 v510 v511 v512 v513 v514 v515 v516 v517 v518 v519 v520 =>
   f88_2_j13 g_f101_3 k v496 v497 v498 v499 v500 v501 v502 v503 v504 v505 v506 v507 v508 v509 v510 v511 v512 v513 v514 v515 v516 v517 v518 v519 v520 (fun v521 v522 v523 v524 v525 v526 v527 v528 v529 v530 v531 v532 v533 v534 v535 v536 v537 v538 v539 v540 v541 v542 =>
    f88_2_j23 g_f101_3 k v521 v522 v523 v524 v525 v526 v527 v528 v529 v530 v531 v532 v533 v534 v535 v536 v537 v538 v539 v540 v541 v542 X0 X1))
noncomputable def f88_2_j9 {R : Type} (g_f101_3 : Nat → f101_3_T R) (k : Nat) (v57 v58 : Bool) (v59 : List Int) (v60 v61 v62 v63 : Int) (v64 : List D1) (v65 v66 : Int) (v67 v68 : Bool) (v69 : Int) (v70 : List D2) (v71 v72 v73 : Int) (v74 : Bool) (v75 : Int) (v76 : ByteArray) (v77 : Int) (v78 v79 : Bool) (X0 : List D2 → List Int → Int → Int → Int → Int → List D1 → Option R) (X1 : List Int → Int → Int → Int → Int → List D1 → Int → Int → Bool → Bool → Int → List D2 → Option R) : Option R :=
 bif v68 then
  bif (!v58) then
   f68 k v75 v76 v77 v78 v79 v65 (fun v80 =>
    bif (!v80) then
     X0 v70 v59 v60 v61 v62 v63 v64
    else
     f88_2_j10 g_f101_3 k v57 v58 v59 v60 v61 v62 v63 v64 v65 v66 v67 v68 v69 v70 v71 v72 v73 v74 v75 v76 v77 v78 v79 X0 X1)
  else
   f88_2_j10 g_f101_3 k v57 v58 v59 v60 v61 v62 v63 v64 v65 v66 v67 v68 v69 v70 v71 v72 v73 v74 v75 v76 v77 v78 v79 X0 X1
 else
  f88_2_j10 g_f101_3 k v57 v58 v59 v60 v61 v62 v63 v64 v65 v66 v67 v68 v69 v70 v71 v72 v73 v74 v75 v76 v77 v78 v79 X0 X1
noncomputable def f88_2_j5 {R : Type} (g_f101_3 : Nat → f101_3_T R) (k : Nat) (v21 : Bool) (v22 : List Int) (v23 v24 v25 v26 : Int) (v27 : List D1) (v28 v29 : Int) (v30 v31 : Bool) (v32 : Int) (v33 : List D2) (X0 : List D2 → List Int → Int → Int → Int → Int → List D1 → Option R) (X1 : Bool → List Int → Int → Int → Int → Int → List D1 → Int → Int → Bool → Bool → Int → List D2 → Option R) : Option R :=
 f99_2 k v22 v23 v24 v25 v26 v27 (fun v34 v35 v36 v37 v38 v39 v40 v41 v42 v43 =>
  f56_2 k v38 v39 v40 v41 v42 v43 (fun v44 v45 v46 v47 v48 v49 v50 =>
   bif (!v44) then
    X0 v33 v45 v46 v47 v48 v49 v50
   else
    f25 k v34 (fun v51 v52 v53 v54 v55 v56 =>
     bif (!v56) then
      f88_2_j9 g_f101_3 k v21 true v45 v46 v47 v48 v49 v50 v28 v29 v30 v31 v32 v33 v34 v35 v36 v37 v51 v52 v53 v54 v55 X0 (fun v626 v627 v628 v629 v630 v631 v632 v633 v634 v635 v636 v637 =>
      X1 false v626 v627 v628 v629 v630 v631 v632 v633 v634 v635 v636 v637)
     else
      f88_2_j9 g_f101_3 k v21 (decide (v53 < 0)) v45 v46 v47 v48 v49 v50 v28 v29 v30 v31 v32 v33 v34 v35 v36 v37 v51 v52 v53 v54 v55 X0 (fun v645 v646 v647 v648 v649 v650 v651 v652 v653 v654 v655 v656 =>
      X1 false v645 v646 v647 v648 v649 v650 v651 v652 v653 v654 v655 v656))))
noncomputable def f88_2_l3 {R : Type} (g_f101_3 : Nat → f101_3_T R) : Nat → Bool → List Int → Int → Int → Int → Int → List D1 → Int → Int → Bool → Bool → Int → List D2 → (List D2 → List Int → Int → Int → Int → Int → List D1 → Option R) → Option R
  | 0, _, _, _, _, _, _, _, _, _, _, _, _, _, _ => none
  | k + 1, v1, v2, v3, v4, v5, v6, v7, v8, v9, v10, v11, v12, v13, X0 =>
  bif decide (v3 < v9) then
   f56_2 k v2 v3 v4 v5 v6 v7 (fun v14 v15 v16 v17 v18 v19 v20 =>
    bif v14 then
     f88_2_j5 g_f101_3 k v1 v15 v16 v17 v18 v19 v20 v8 v9 v10 v11 v12 v13 X0 (fun v664 v665 v666 v667 v668 v669 v670 v671 v672 v673 v674 v675 v676 =>
      f88_2_l3 g_f101_3 k v664 v665 v666 v667 v668 v669 v670 v671 v672 v673 v674 v675 v676 X0)
    else
     X0 v13 v15 v16 v17 v18 v19 v20)
  else
   X0 v13 v2 v3 v4 v5 v6 v7
noncomputable def f88_2_s {R : Type} (g_f101_3 : Nat → f101_3_T R) (k : Nat) (a0 a1 : Int) (a2 a3 : Bool) (a4 : Int) (a5 : List Int) (a6 a7 a8 a9 : Int) (a10 : List D1) (K : List Int → Int → Int → Int → Int → List D2 → List D1 → Option R) : Option R :=
 f88_2_l3 g_f101_3 k true a5 a6 a7 a8 a9 a10 a0 a1 a2 a3 a4 ([] : List D2) (fun v677 v678 v679 v680 v681 v682 v683 =>
  K v678 v679 v680 v681 v682 v677 v683)
noncomputable def f88_2_d {R : Type} (g : f88_2_T R) (e : Dr D R) : Dr D R := door [.ptr 0 0, .agg [.int .i64, .int .i64, .bool, .bool, .int .i64]] [.box [.list (.int .u8), .int .i64, .int .i64, .own 1, .int .i64, .int .i64], .row (.named 1) true] (fun (x : (Unit × (Int × Int × Bool × Bool × Int × Unit) × Unit)) (y : ((List Int × Int × Int × Unit × Int × Int × Unit) × List D1 × Unit)) K => g x.2.1.1 x.2.1.2.1 x.2.1.2.2.1 x.2.1.2.2.2.1 x.2.1.2.2.2.2.1 y.1.1 y.1.2.1 y.1.2.2.1 y.1.2.2.2.2.1 y.1.2.2.2.2.2.1 y.2.1 (fun z0 z1 z2 z3 z4 z5 z6 => K ⟨.own 2, [some (.box [.list (.int .u8) z0, .int .i64 z1, .int .i64 z2, .own 3, .int .i64 z3, .int .i64 z4]), none, some (.row (.named 2) z5 true), some (.row (.named 1) z6 true)]⟩)) e
noncomputable def f101_3_o {R : Type} (g_f88_2 : Nat → f88_2_T R) (k : Nat) : Orc D R := (orcAdd 88 (f88_2_d (g_f88_2 k) noDr) (orcAdd 95 (f95_2L_d (f95_2 k) noDr) (orcAdd 87 (f87_2_d (f87_2 k) noDr) noOrc)))
theorem f101_3_o_ok {R : Type} (g_f88_2 : Nat → f88_2_T R) (h_f88_2 : ∀ (k : Nat) (e : Dr D R), FnOk Try.prog cx 88 e → FnOk Try.prog cx 88 (f88_2_d (g_f88_2 k) e)) (k : Nat) : OrcOk Try.prog cx (f101_3_o (R := R) g_f88_2 k) := (OrcOk.add (h_f88_2 k _ FnOk.no) (OrcOk.add (f95_2L_ok k FnOk.no) (OrcOk.add (f87_2_ok k FnOk.no) OrcOk.no)))
noncomputable def f101_3_b : Code := bodyOf Try.f101
noncomputable def f101_3_ann : Nat → Option LAnn := fun _key => none
noncomputable def f101_3_r {R : Type} (_g_f88_2 : Nat → f88_2_T R) (_k : Nat) : Lrc D R := noLrc
noncomputable def f88_2_o {R : Type} (g_f101_3 : Nat → f101_3_T R) (k : Nat) : Orc D R := (orcAdd 101 (f101_3_d (g_f101_3 k) noDr) (orcAdd 68 (f68_d (f68 k) noDr) (orcAdd 100 (f100_d (f100 k) noDr) (orcAdd 99 (f99_2_d (f99_2 k) noDr) (orcAdd 87 (f87_2_d (f87_2 k) noDr) (orcAdd 56 (f56_2_d (f56_2 k) noDr) (orcAdd 25 (f25_d (f25 k) noDr) noOrc)))))))
theorem f88_2_o_ok {R : Type} (g_f101_3 : Nat → f101_3_T R) (h_f101_3 : ∀ (k : Nat) (e : Dr D R), FnOk Try.prog cx 101 e → FnOk Try.prog cx 101 (f101_3_d (g_f101_3 k) e)) (k : Nat) : OrcOk Try.prog cx (f88_2_o (R := R) g_f101_3 k) := (OrcOk.add (h_f101_3 k _ FnOk.no) (OrcOk.add (f68_ok k FnOk.no) (OrcOk.add (f100_ok k FnOk.no) (OrcOk.add (f99_2_ok k FnOk.no) (OrcOk.add (f87_2_ok k FnOk.no) (OrcOk.add (f56_2_ok k FnOk.no) (OrcOk.add (f25_ok k FnOk.no) OrcOk.no)))))))
noncomputable def f88_2_b : Code := bodyOf Try.f88
noncomputable def f88_2_j12_a : LAnn := ⟨⟨[(.tmp 5, .own 137439002624 (.named 2)), (.cell 0 3, .own 137439002625 (.named 1)), (.cell 1 0, .drop)], [0, 3, 5, 6, 7, 8, 10, 11, 66], [0, 137439002625, 65600, 137439002624, 393344, 524432], []⟩, exOfJ (some ⟨[(.tmp 5, .own 137439003648 (.named 2)), (.cell 0 3, .own 137439003649 (.named 1)), (.cell 1 0, .drop)], [0, 3, 5, 6, 7, 8, 10, 11, 66], [0, 137439003649, 65600, 137439003648, 393344, 524432], []⟩) (none) []⟩
noncomputable def f88_2_j17_a : LAnn := ⟨⟨[(.tmp 5, .own 137439023104 (.named 2)), (.cell 0 3, .own 137439023105 (.named 1)), (.cell 1 0, .drop)], [0, 3, 5, 6, 7, 8, 10, 111], [0, 137439023105, 65600, 137439023104, 393344, 524432], []⟩, exOfJ (some ⟨[(.tmp 5, .own 137439024128 (.named 2)), (.cell 0 3, .own 137439024129 (.named 1)), (.cell 1 0, .drop)], [0, 3, 5, 7, 8, 10, 111], [0, 137439024129, 65600, 137439024128, 393344, 524432], []⟩) (none) []⟩
noncomputable def f88_2_j18_a : LAnn := ⟨⟨[(.tmp 5, .own 137439027200 (.named 2)), (.cell 0 3, .own 137439027201 (.named 1)), (.cell 1 0, .drop)], [0, 3, 5, 7, 8, 10, 111], [0, 137439027201, 65600, 137439027200, 393344, 524432], []⟩, exOfJ (some ⟨[(.tmp 5, .own 137439028224 (.named 2)), (.cell 0 3, .own 137439028225 (.named 1)), (.cell 1 0, .drop)], [0, 3, 5, 7, 8, 10], [0, 137439028225, 65600, 137439028224, 393344, 524432], []⟩) (none) []⟩
noncomputable def f88_2_j15_a : LAnn := ⟨⟨[(.tmp 5, .own 137439014912 (.named 2)), (.cell 0 3, .own 137439014913 (.named 1)), (.cell 1 0, .drop)], [0, 3, 5, 6, 7, 8, 10, 91], [0, 137439014913, 65600, 137439014912, 393344, 524432], []⟩, exOfJ (some ⟨[(.tmp 5, .own 137439015936 (.named 2)), (.cell 0 3, .own 137439015937 (.named 1)), (.cell 1 0, .drop)], [0, 3, 5, 7, 8, 10], [0, 137439015937, 65600, 137439015936, 393344, 524432], []⟩) (none) []⟩
noncomputable def f88_2_j13_a : LAnn := ⟨⟨[(.tmp 5, .own 137439006720 (.named 2)), (.cell 0 3, .own 137439006721 (.named 1)), (.cell 1 0, .drop)], [0, 3, 5, 6, 7, 8, 10, 11, 66], [0, 137439006721, 65600, 137439006720, 393344, 524432], []⟩, exOfJ (some ⟨[(.tmp 5, .own 137439007744 (.named 2)), (.cell 0 3, .own 137439007745 (.named 1)), (.cell 1 0, .drop)], [0, 3, 5, 7, 8, 10], [0, 137439007745, 65600, 137439007744, 393344, 524432], []⟩) (none) []⟩
noncomputable def f88_2_j23_a : LAnn := ⟨⟨[(.tmp 5, .own 137439047680 (.named 2)), (.cell 0 3, .own 137439047681 (.named 1)), (.cell 1 0, .drop)], [0, 3, 5, 7, 8, 10], [0, 137439047681, 65600, 137439047680, 393344, 524432], []⟩, exOfJ (some ⟨[(.tmp 5, .own 137439049728 (.named 2))], [0, 3, 5], [0, 1640946, 65600, 137439049728], []⟩) (none) [(0, ⟨[(.tmp 5, .own 137439048704 (.named 2)), (.cell 0 3, .own 137439048705 (.named 1)), (.cell 1 0, .drop)], [5], [137439048704, 0, 137439048705], []⟩)]⟩
noncomputable def f88_2_j10_a : LAnn := ⟨⟨[(.tmp 5, .own 137438994432 (.named 2)), (.cell 0 3, .own 137438994433 (.named 1)), (.cell 1 0, .drop)], [0, 3, 5, 6, 7, 8, 10], [0, 137438994433, 65600, 137438994432, 393344, 524432], []⟩, exOfJ (some ⟨[], [0, 3, 5], [0, 1640946, 65600, 137439049728], []⟩) (none) [(0, ⟨[(.tmp 5, .own 137438995456 (.named 2)), (.cell 0 3, .own 137438995457 (.named 1)), (.cell 1 0, .drop)], [5], [137438995456, 0, 137438995457], []⟩)]⟩
noncomputable def f88_2_j9_a : LAnn := ⟨⟨[(.tmp 5, .own 137438990336 (.named 2)), (.cell 0 3, .own 137438990337 (.named 1)), (.cell 1 0, .drop)], [0, 3, 5, 6, 7, 8, 10], [0, 137438990337, 65600, 137438990336, 393344, 524432], []⟩, exOfJ (some ⟨[], [0, 3, 5], [0, 1640946, 65600, 137439049728], []⟩) (none) [(0, ⟨[(.tmp 5, .own 137438991360 (.named 2)), (.cell 0 3, .own 137438991361 (.named 1)), (.cell 1 0, .drop)], [5], [137438991360, 0, 137438991361], []⟩)]⟩
noncomputable def f88_2_j5_a : LAnn := ⟨⟨[(.tmp 5, .own 137438973952 (.named 2)), (.cell 0 3, .own 137438973953 (.named 1)), (.cell 1 0, .drop)], [0, 3, 5, 6], [0, 137438973953, 65600, 137438973952], []⟩, exOfJ (some ⟨[], [0, 3, 5, 6], [0, 1640946, 65600, 137439049728], []⟩) (none) [(0, ⟨[(.tmp 5, .own 137438974976 (.named 2)), (.cell 0 3, .own 137438974977 (.named 1)), (.cell 1 0, .drop)], [5], [137438974976, 0, 137438974977], []⟩)]⟩
noncomputable def f88_2_l3_a : LAnn := ⟨⟨[(.tmp 5, .own 68719489024 (.named 2)), (.cell 0 3, .own 68719489025 (.named 1)), (.cell 1 0, .drop)], [0, 3, 5, 6], [0, 68719489025, 65600, 68719489024], []⟩, exOf (none) [(0, ⟨[(.tmp 5, .own 68719490048 (.named 2)), (.cell 0 3, .own 68719490049 (.named 1)), (.cell 1 0, .drop)], [5], [68719490048, 0, 68719490049], []⟩)]⟩
noncomputable def f88_2_ann : Nat → Option LAnn := fun key => bif Nat.beq key 3 then some f88_2_l3_a else bif Nat.beq key 1000005 then some f88_2_j5_a else bif Nat.beq key 1000009 then some f88_2_j9_a else bif Nat.beq key 1000010 then some f88_2_j10_a else bif Nat.beq key 1000023 then some f88_2_j23_a else bif Nat.beq key 1000013 then some f88_2_j13_a else bif Nat.beq key 1000015 then some f88_2_j15_a else bif Nat.beq key 1000018 then some f88_2_j18_a else bif Nat.beq key 1000017 then some f88_2_j17_a else bif Nat.beq key 1000012 then some f88_2_j12_a else none
noncomputable def f88_2_j12_b : Code := joinAt f88_2_ann f88_2_b 3
noncomputable def f88_2_j12_g {R : Type} (g_f101_3 : Nat → f101_3_T R) (k : Nat) (x : (Unit × Unit × Unit × Bool × Unit × Unit × Bool × Int × Bool × Unit)) (y : ((List Int × Int × Int × Unit × Int × Int × Unit) × List D1 × (Int × Int × Bool × Bool × Int × Unit) × List D2 × (Int × Int × Int × Bool × Unit) × (Int × ByteArray × Int × Bool × Bool × Unit) × Unit)) (K : KX R) : Option R := f88_2_j12 g_f101_3 k x.2.2.2.1 x.2.2.2.2.2.2.1 x.2.2.2.2.2.2.2.1 x.2.2.2.2.2.2.2.2.1 y.1.1 y.1.2.1 y.1.2.2.1 y.1.2.2.2.2.1 y.1.2.2.2.2.2.1 y.2.1 y.2.2.1.1 y.2.2.1.2.1 y.2.2.1.2.2.1 y.2.2.1.2.2.2.1 y.2.2.1.2.2.2.2.1 y.2.2.2.1 y.2.2.2.2.1.1 y.2.2.2.2.1.2.1 y.2.2.2.2.1.2.2.1 y.2.2.2.2.1.2.2.2.1 y.2.2.2.2.2.1.1 y.2.2.2.2.2.1.2.1 y.2.2.2.2.2.1.2.2.1 y.2.2.2.2.2.1.2.2.2.1 y.2.2.2.2.2.1.2.2.2.2.1 (fun z0 z1 z2 z3 z4 z5 z6 z7 z8 z9 z10 z11 z12 z13 z14 z15 z16 z17 z18 z19 z20 z21 z22 z23 z24 => K (.normal) [.ptr 0 0, .ptr 65600 0, .own 137439003648, .bool z0, .ptr 393344 0, .ptr 524432 0, .bool z1, .int .i64 z2, .bool z3] [some (.box [.list (.int .u8) z4, .int .i64 z5, .int .i64 z6, .own 137439003649, .int .i64 z7, .int .i64 z8]), some (.row (.named 1) z9 true), some (.box [.int .i64 z10, .int .i64 z11, .bool z12, .bool z13, .int .i64 z14]), some (.row (.named 2) z15 true), some (.box [.int .i64 z16, .int .i64 z17, .int .i64 z18, .bool z19]), some (.box [.int .i64 z20, .str z21, .int .i64 z22, .bool z23, .bool z24])])
noncomputable def f88_2_j12_d {R : Type} (g_f101_3 : Nat → f101_3_T R) (k : Nat) : Lr D R := ldoor [.ptr 0 0, .ptr 65600 0, .own 137439002624, .bool, .ptr 393344 0, .ptr 524432 0, .bool, .int .i64, .bool] [some (.box [.list (.int .u8), .int .i64, .int .i64, .own 137439002625, .int .i64, .int .i64]), some (.row (.named 1) true), some (.box [.int .i64, .int .i64, .bool, .bool, .int .i64]), some (.row (.named 2) true), some (.box [.int .i64, .int .i64, .int .i64, .bool]), some (.box [.int .i64, .str, .int .i64, .bool, .bool])] (f88_2_j12_g g_f101_3 k)
noncomputable def f88_2_j12_r {R : Type} (_g_f101_3 : Nat → f101_3_T R) (_k : Nat) : Lrc D R := noLrc
theorem f88_2_j12_d_ok {R : Type} (g_f101_3 : Nat → f101_3_T R) (h_f101_3 : ∀ (k : Nat) (e : Dr D R), FnOk Try.prog cx 101 e → FnOk Try.prog cx 101 (f101_3_d (g_f101_3 k) e)) (k : Nat) : JoinOk Try.prog cx 167 2 f88_2_ann (f88_2_j12_d (R := R) g_f101_3 k) f88_2_j12_b :=
  join_ok (keep := kp) (lrc := f88_2_j12_r (R := R) g_f101_3 k) cxOk mixed (f88_2_o_ok g_f101_3 h_f101_3 k) (show f88_2_ann (Am.keyOf f88_2_j12_b + 1000000) = some f88_2_j12_a by kernel_rfl) (L := []) (by kernel_rfl) trivial (J := []) (by kernel_rfl) trivial (LrcNat.no) (fun _x _y _K => by kernel_rfl)
noncomputable def f88_2_j17_b : Code := joinAt f88_2_ann f88_2_b 6
noncomputable def f88_2_j17_g {R : Type} (g_f101_3 : Nat → f101_3_T R) (k : Nat) (x : (Unit × Unit × Unit × Bool × Unit × Unit × Bool × Bool × Unit)) (y : ((List Int × Int × Int × Unit × Int × Int × Unit) × List D1 × (Int × Int × Bool × Bool × Int × Unit) × List D2 × (Int × Int × Int × Bool × Unit) × (Int × ByteArray × Int × Bool × Bool × Unit) × Unit)) (K : KX R) : Option R := f88_2_j17 g_f101_3 k x.2.2.2.1 x.2.2.2.2.2.2.1 x.2.2.2.2.2.2.2.1 y.1.1 y.1.2.1 y.1.2.2.1 y.1.2.2.2.2.1 y.1.2.2.2.2.2.1 y.2.1 y.2.2.1.1 y.2.2.1.2.1 y.2.2.1.2.2.1 y.2.2.1.2.2.2.1 y.2.2.1.2.2.2.2.1 y.2.2.2.1 y.2.2.2.2.1.1 y.2.2.2.2.1.2.1 y.2.2.2.2.1.2.2.1 y.2.2.2.2.1.2.2.2.1 y.2.2.2.2.2.1.1 y.2.2.2.2.2.1.2.1 y.2.2.2.2.2.1.2.2.1 y.2.2.2.2.2.1.2.2.2.1 y.2.2.2.2.2.1.2.2.2.2.1 (fun z0 z1 z2 z3 z4 z5 z6 z7 z8 z9 z10 z11 z12 z13 z14 z15 z16 z17 z18 z19 z20 z21 z22 => K (.normal) [.ptr 0 0, .ptr 65600 0, .own 137439024128, .ptr 393344 0, .ptr 524432 0, .bool z0, .bool z1] [some (.box [.list (.int .u8) z2, .int .i64 z3, .int .i64 z4, .own 137439024129, .int .i64 z5, .int .i64 z6]), some (.row (.named 1) z7 true), some (.box [.int .i64 z8, .int .i64 z9, .bool z10, .bool z11, .int .i64 z12]), some (.row (.named 2) z13 true), some (.box [.int .i64 z14, .int .i64 z15, .int .i64 z16, .bool z17]), some (.box [.int .i64 z18, .str z19, .int .i64 z20, .bool z21, .bool z22])])
noncomputable def f88_2_j17_d {R : Type} (g_f101_3 : Nat → f101_3_T R) (k : Nat) : Lr D R := ldoor [.ptr 0 0, .ptr 65600 0, .own 137439023104, .bool, .ptr 393344 0, .ptr 524432 0, .bool, .bool] [some (.box [.list (.int .u8), .int .i64, .int .i64, .own 137439023105, .int .i64, .int .i64]), some (.row (.named 1) true), some (.box [.int .i64, .int .i64, .bool, .bool, .int .i64]), some (.row (.named 2) true), some (.box [.int .i64, .int .i64, .int .i64, .bool]), some (.box [.int .i64, .str, .int .i64, .bool, .bool])] (f88_2_j17_g g_f101_3 k)
noncomputable def f88_2_j17_r {R : Type} (_g_f101_3 : Nat → f101_3_T R) (_k : Nat) : Lrc D R := noLrc
theorem f88_2_j17_d_ok {R : Type} (g_f101_3 : Nat → f101_3_T R) (h_f101_3 : ∀ (k : Nat) (e : Dr D R), FnOk Try.prog cx 101 e → FnOk Try.prog cx 101 (f101_3_d (g_f101_3 k) e)) (k : Nat) : JoinOk Try.prog cx 167 2 f88_2_ann (f88_2_j17_d (R := R) g_f101_3 k) f88_2_j17_b :=
  join_ok (keep := kp) (lrc := f88_2_j17_r (R := R) g_f101_3 k) cxOk mixed (f88_2_o_ok g_f101_3 h_f101_3 k) (show f88_2_ann (Am.keyOf f88_2_j17_b + 1000000) = some f88_2_j17_a by kernel_rfl) (L := []) (by kernel_rfl) trivial (J := []) (by kernel_rfl) trivial (LrcNat.no) (fun _x _y _K => by kernel_rfl)
noncomputable def f88_2_j18_b : Code := joinAt f88_2_ann f88_2_b 7
noncomputable def f88_2_j18_g {R : Type} (g_f101_3 : Nat → f101_3_T R) (k : Nat) (x : (Unit × Unit × Unit × Unit × Unit × Bool × Bool × Unit)) (y : ((List Int × Int × Int × Unit × Int × Int × Unit) × List D1 × (Int × Int × Bool × Bool × Int × Unit) × List D2 × (Int × Int × Int × Bool × Unit) × (Int × ByteArray × Int × Bool × Bool × Unit) × Unit)) (K : KX R) : Option R := f88_2_j18 g_f101_3 k x.2.2.2.2.2.1 x.2.2.2.2.2.2.1 y.1.1 y.1.2.1 y.1.2.2.1 y.1.2.2.2.2.1 y.1.2.2.2.2.2.1 y.2.1 y.2.2.1.1 y.2.2.1.2.1 y.2.2.1.2.2.1 y.2.2.1.2.2.2.1 y.2.2.1.2.2.2.2.1 y.2.2.2.1 y.2.2.2.2.1.1 y.2.2.2.2.1.2.1 y.2.2.2.2.1.2.2.1 y.2.2.2.2.1.2.2.2.1 y.2.2.2.2.2.1.1 y.2.2.2.2.2.1.2.1 y.2.2.2.2.2.1.2.2.1 y.2.2.2.2.2.1.2.2.2.1 y.2.2.2.2.2.1.2.2.2.2.1 (fun z0 z1 z2 z3 z4 z5 z6 z7 z8 z9 z10 z11 z12 z13 z14 z15 z16 z17 z18 z19 z20 z21 => K (.normal) [.ptr 0 0, .ptr 65600 0, .own 137439028224, .ptr 393344 0, .ptr 524432 0, .bool z0] [some (.box [.list (.int .u8) z1, .int .i64 z2, .int .i64 z3, .own 137439028225, .int .i64 z4, .int .i64 z5]), some (.row (.named 1) z6 true), some (.box [.int .i64 z7, .int .i64 z8, .bool z9, .bool z10, .int .i64 z11]), some (.row (.named 2) z12 true), some (.box [.int .i64 z13, .int .i64 z14, .int .i64 z15, .bool z16]), some (.box [.int .i64 z17, .str z18, .int .i64 z19, .bool z20, .bool z21])])
noncomputable def f88_2_j18_d {R : Type} (g_f101_3 : Nat → f101_3_T R) (k : Nat) : Lr D R := ldoor [.ptr 0 0, .ptr 65600 0, .own 137439027200, .ptr 393344 0, .ptr 524432 0, .bool, .bool] [some (.box [.list (.int .u8), .int .i64, .int .i64, .own 137439027201, .int .i64, .int .i64]), some (.row (.named 1) true), some (.box [.int .i64, .int .i64, .bool, .bool, .int .i64]), some (.row (.named 2) true), some (.box [.int .i64, .int .i64, .int .i64, .bool]), some (.box [.int .i64, .str, .int .i64, .bool, .bool])] (f88_2_j18_g g_f101_3 k)
noncomputable def f88_2_j18_r {R : Type} (_g_f101_3 : Nat → f101_3_T R) (_k : Nat) : Lrc D R := noLrc
theorem f88_2_j18_d_ok {R : Type} (g_f101_3 : Nat → f101_3_T R) (h_f101_3 : ∀ (k : Nat) (e : Dr D R), FnOk Try.prog cx 101 e → FnOk Try.prog cx 101 (f101_3_d (g_f101_3 k) e)) (k : Nat) : JoinOk Try.prog cx 167 2 f88_2_ann (f88_2_j18_d (R := R) g_f101_3 k) f88_2_j18_b :=
  join_ok (keep := kp) (lrc := f88_2_j18_r (R := R) g_f101_3 k) cxOk mixed (f88_2_o_ok g_f101_3 h_f101_3 k) (show f88_2_ann (Am.keyOf f88_2_j18_b + 1000000) = some f88_2_j18_a by kernel_rfl) (L := []) (by kernel_rfl) trivial (J := []) (by kernel_rfl) trivial (LrcNat.no) (fun _x _y _K => by kernel_rfl)
noncomputable def f88_2_j15_b : Code := joinAt f88_2_ann f88_2_b 5
noncomputable def f88_2_j15_g {R : Type} (g_f101_3 : Nat → f101_3_T R) (k : Nat) (x : (Unit × Unit × Unit × Bool × Unit × Unit × Bool × Bool × Unit)) (y : ((List Int × Int × Int × Unit × Int × Int × Unit) × List D1 × (Int × Int × Bool × Bool × Int × Unit) × List D2 × (Int × Int × Int × Bool × Unit) × (Int × ByteArray × Int × Bool × Bool × Unit) × Unit)) (K : KX R) : Option R := f88_2_j15 g_f101_3 k x.2.2.2.1 x.2.2.2.2.2.2.1 x.2.2.2.2.2.2.2.1 y.1.1 y.1.2.1 y.1.2.2.1 y.1.2.2.2.2.1 y.1.2.2.2.2.2.1 y.2.1 y.2.2.1.1 y.2.2.1.2.1 y.2.2.1.2.2.1 y.2.2.1.2.2.2.1 y.2.2.1.2.2.2.2.1 y.2.2.2.1 y.2.2.2.2.1.1 y.2.2.2.2.1.2.1 y.2.2.2.2.1.2.2.1 y.2.2.2.2.1.2.2.2.1 y.2.2.2.2.2.1.1 y.2.2.2.2.2.1.2.1 y.2.2.2.2.2.1.2.2.1 y.2.2.2.2.2.1.2.2.2.1 y.2.2.2.2.2.1.2.2.2.2.1 (fun z0 z1 z2 z3 z4 z5 z6 z7 z8 z9 z10 z11 z12 z13 z14 z15 z16 z17 z18 z19 z20 z21 => K (.normal) [.ptr 0 0, .ptr 65600 0, .own 137439015936, .ptr 393344 0, .ptr 524432 0, .bool z0] [some (.box [.list (.int .u8) z1, .int .i64 z2, .int .i64 z3, .own 137439015937, .int .i64 z4, .int .i64 z5]), some (.row (.named 1) z6 true), some (.box [.int .i64 z7, .int .i64 z8, .bool z9, .bool z10, .int .i64 z11]), some (.row (.named 2) z12 true), some (.box [.int .i64 z13, .int .i64 z14, .int .i64 z15, .bool z16]), some (.box [.int .i64 z17, .str z18, .int .i64 z19, .bool z20, .bool z21])])
noncomputable def f88_2_j15_d {R : Type} (g_f101_3 : Nat → f101_3_T R) (k : Nat) : Lr D R := ldoor [.ptr 0 0, .ptr 65600 0, .own 137439014912, .bool, .ptr 393344 0, .ptr 524432 0, .bool, .bool] [some (.box [.list (.int .u8), .int .i64, .int .i64, .own 137439014913, .int .i64, .int .i64]), some (.row (.named 1) true), some (.box [.int .i64, .int .i64, .bool, .bool, .int .i64]), some (.row (.named 2) true), some (.box [.int .i64, .int .i64, .int .i64, .bool]), some (.box [.int .i64, .str, .int .i64, .bool, .bool])] (f88_2_j15_g g_f101_3 k)
noncomputable def f88_2_j15_r {R : Type} (g_f101_3 : Nat → f101_3_T R) (k : Nat) : Lrc D R := (lrcAdd 1000018 (f88_2_j18_d g_f101_3 k) (lrcAdd 1000017 (f88_2_j17_d g_f101_3 k) noLrc))
theorem f88_2_j15_d_ok {R : Type} (g_f101_3 : Nat → f101_3_T R) (h_f101_3 : ∀ (k : Nat) (e : Dr D R), FnOk Try.prog cx 101 e → FnOk Try.prog cx 101 (f101_3_d (g_f101_3 k) e)) (k : Nat) : JoinOk Try.prog cx 167 2 f88_2_ann (f88_2_j15_d (R := R) g_f101_3 k) f88_2_j15_b :=
  join_ok (keep := kp) (lrc := f88_2_j15_r (R := R) g_f101_3 k) cxOk mixed (f88_2_o_ok g_f101_3 h_f101_3 k) (show f88_2_ann (Am.keyOf f88_2_j15_b + 1000000) = some f88_2_j15_a by kernel_rfl) (L := []) (by kernel_rfl) trivial (J := [f88_2_j17_b, f88_2_j18_b]) (by kernel_rfl) (⟨(f88_2_j17_d_ok g_f101_3 h_f101_3 k).use (by kernel_rfl), (f88_2_j18_d_ok g_f101_3 h_f101_3 k).use (by kernel_rfl), trivial⟩) ((LrcNat.add (f88_2_j18_d_ok g_f101_3 h_f101_3 k).2 (LrcNat.add (f88_2_j17_d_ok g_f101_3 h_f101_3 k).2 LrcNat.no))) (fun _x _y _K => by kernel_rfl)
noncomputable def f88_2_j13_b : Code := joinAt f88_2_ann f88_2_b 4
noncomputable def f88_2_j13_g {R : Type} (g_f101_3 : Nat → f101_3_T R) (k : Nat) (x : (Unit × Unit × Unit × Bool × Unit × Unit × Bool × Int × Bool × Unit)) (y : ((List Int × Int × Int × Unit × Int × Int × Unit) × List D1 × (Int × Int × Bool × Bool × Int × Unit) × List D2 × (Int × Int × Int × Bool × Unit) × (Int × ByteArray × Int × Bool × Bool × Unit) × Unit)) (K : KX R) : Option R := f88_2_j13 g_f101_3 k x.2.2.2.1 x.2.2.2.2.2.2.1 x.2.2.2.2.2.2.2.1 x.2.2.2.2.2.2.2.2.1 y.1.1 y.1.2.1 y.1.2.2.1 y.1.2.2.2.2.1 y.1.2.2.2.2.2.1 y.2.1 y.2.2.1.1 y.2.2.1.2.1 y.2.2.1.2.2.1 y.2.2.1.2.2.2.1 y.2.2.1.2.2.2.2.1 y.2.2.2.1 y.2.2.2.2.1.1 y.2.2.2.2.1.2.1 y.2.2.2.2.1.2.2.1 y.2.2.2.2.1.2.2.2.1 y.2.2.2.2.2.1.1 y.2.2.2.2.2.1.2.1 y.2.2.2.2.2.1.2.2.1 y.2.2.2.2.2.1.2.2.2.1 y.2.2.2.2.2.1.2.2.2.2.1 (fun z0 z1 z2 z3 z4 z5 z6 z7 z8 z9 z10 z11 z12 z13 z14 z15 z16 z17 z18 z19 z20 z21 => K (.normal) [.ptr 0 0, .ptr 65600 0, .own 137439007744, .ptr 393344 0, .ptr 524432 0, .bool z0] [some (.box [.list (.int .u8) z1, .int .i64 z2, .int .i64 z3, .own 137439007745, .int .i64 z4, .int .i64 z5]), some (.row (.named 1) z6 true), some (.box [.int .i64 z7, .int .i64 z8, .bool z9, .bool z10, .int .i64 z11]), some (.row (.named 2) z12 true), some (.box [.int .i64 z13, .int .i64 z14, .int .i64 z15, .bool z16]), some (.box [.int .i64 z17, .str z18, .int .i64 z19, .bool z20, .bool z21])])
noncomputable def f88_2_j13_d {R : Type} (g_f101_3 : Nat → f101_3_T R) (k : Nat) : Lr D R := ldoor [.ptr 0 0, .ptr 65600 0, .own 137439006720, .bool, .ptr 393344 0, .ptr 524432 0, .bool, .int .i64, .bool] [some (.box [.list (.int .u8), .int .i64, .int .i64, .own 137439006721, .int .i64, .int .i64]), some (.row (.named 1) true), some (.box [.int .i64, .int .i64, .bool, .bool, .int .i64]), some (.row (.named 2) true), some (.box [.int .i64, .int .i64, .int .i64, .bool]), some (.box [.int .i64, .str, .int .i64, .bool, .bool])] (f88_2_j13_g g_f101_3 k)
noncomputable def f88_2_j13_r {R : Type} (g_f101_3 : Nat → f101_3_T R) (k : Nat) : Lrc D R := (lrcAdd 1000018 (f88_2_j18_d g_f101_3 k) (lrcAdd 1000017 (f88_2_j17_d g_f101_3 k) (lrcAdd 1000015 (f88_2_j15_d g_f101_3 k) noLrc)))
theorem f88_2_j13_d_ok {R : Type} (g_f101_3 : Nat → f101_3_T R) (h_f101_3 : ∀ (k : Nat) (e : Dr D R), FnOk Try.prog cx 101 e → FnOk Try.prog cx 101 (f101_3_d (g_f101_3 k) e)) (k : Nat) : JoinOk Try.prog cx 167 2 f88_2_ann (f88_2_j13_d (R := R) g_f101_3 k) f88_2_j13_b :=
  join_ok (keep := kp) (lrc := f88_2_j13_r (R := R) g_f101_3 k) cxOk mixed (f88_2_o_ok g_f101_3 h_f101_3 k) (show f88_2_ann (Am.keyOf f88_2_j13_b + 1000000) = some f88_2_j13_a by kernel_rfl) (L := []) (by kernel_rfl) trivial (J := [f88_2_j15_b, f88_2_j17_b, f88_2_j18_b]) (by kernel_rfl) (⟨(f88_2_j15_d_ok g_f101_3 h_f101_3 k).use (by kernel_rfl), (f88_2_j17_d_ok g_f101_3 h_f101_3 k).use (by kernel_rfl), (f88_2_j18_d_ok g_f101_3 h_f101_3 k).use (by kernel_rfl), trivial⟩) ((LrcNat.add (f88_2_j18_d_ok g_f101_3 h_f101_3 k).2 (LrcNat.add (f88_2_j17_d_ok g_f101_3 h_f101_3 k).2 (LrcNat.add (f88_2_j15_d_ok g_f101_3 h_f101_3 k).2 LrcNat.no)))) (fun _x _y _K => by kernel_rfl)
noncomputable def f88_2_j23_b : Code := joinAt f88_2_ann f88_2_b 8
noncomputable def f88_2_j23_g {R : Type} (g_f101_3 : Nat → f101_3_T R) (k : Nat) (x : (Unit × Unit × Unit × Unit × Unit × Bool × Unit)) (y : ((List Int × Int × Int × Unit × Int × Int × Unit) × List D1 × (Int × Int × Bool × Bool × Int × Unit) × List D2 × (Int × Int × Int × Bool × Unit) × (Int × ByteArray × Int × Bool × Bool × Unit) × Unit)) (K : KX R) : Option R := f88_2_j23 g_f101_3 k x.2.2.2.2.2.1 y.1.1 y.1.2.1 y.1.2.2.1 y.1.2.2.2.2.1 y.1.2.2.2.2.2.1 y.2.1 y.2.2.1.1 y.2.2.1.2.1 y.2.2.1.2.2.1 y.2.2.1.2.2.2.1 y.2.2.1.2.2.2.2.1 y.2.2.2.1 y.2.2.2.2.1.1 y.2.2.2.2.1.2.1 y.2.2.2.2.1.2.2.1 y.2.2.2.2.1.2.2.2.1 y.2.2.2.2.2.1.1 y.2.2.2.2.2.1.2.1 y.2.2.2.2.2.1.2.2.1 y.2.2.2.2.2.1.2.2.2.1 y.2.2.2.2.2.1.2.2.2.2.1 (fun z0 z1 z2 z3 z4 z5 z6 => K (.exit 0) [.own 137439048704] [some (.row (.named 2) z0 true), some (.box [.list (.int .u8) z1, .int .i64 z2, .int .i64 z3, .own 137439048705, .int .i64 z4, .int .i64 z5]), some (.row (.named 1) z6 true)]) (fun z0 z1 z2 z3 z4 z5 z6 z7 z8 z9 z10 z11 => K (.normal) [.ptr 0 0, .ptr 65600 0, .own 137439049728] [some (.box [.list (.int .u8) z0, .int .i64 z1, .int .i64 z2, .own 1640946, .int .i64 z3, .int .i64 z4]), some (.row (.named 1) z5 true), some (.box [.int .i64 z6, .int .i64 z7, .bool z8, .bool z9, .int .i64 z10]), some (.row (.named 2) z11 true)])
noncomputable def f88_2_j23_d {R : Type} (g_f101_3 : Nat → f101_3_T R) (k : Nat) : Lr D R := ldoor [.ptr 0 0, .ptr 65600 0, .own 137439047680, .ptr 393344 0, .ptr 524432 0, .bool] [some (.box [.list (.int .u8), .int .i64, .int .i64, .own 137439047681, .int .i64, .int .i64]), some (.row (.named 1) true), some (.box [.int .i64, .int .i64, .bool, .bool, .int .i64]), some (.row (.named 2) true), some (.box [.int .i64, .int .i64, .int .i64, .bool]), some (.box [.int .i64, .str, .int .i64, .bool, .bool])] (f88_2_j23_g g_f101_3 k)
noncomputable def f88_2_j23_r {R : Type} (_g_f101_3 : Nat → f101_3_T R) (_k : Nat) : Lrc D R := noLrc
theorem f88_2_j23_d_ok {R : Type} (g_f101_3 : Nat → f101_3_T R) (h_f101_3 : ∀ (k : Nat) (e : Dr D R), FnOk Try.prog cx 101 e → FnOk Try.prog cx 101 (f101_3_d (g_f101_3 k) e)) (k : Nat) : JoinOk Try.prog cx 167 2 f88_2_ann (f88_2_j23_d (R := R) g_f101_3 k) f88_2_j23_b :=
  join_ok (keep := kp) (lrc := f88_2_j23_r (R := R) g_f101_3 k) cxOk mixed (f88_2_o_ok g_f101_3 h_f101_3 k) (show f88_2_ann (Am.keyOf f88_2_j23_b + 1000000) = some f88_2_j23_a by kernel_rfl) (L := []) (by kernel_rfl) trivial (J := []) (by kernel_rfl) trivial (LrcNat.no) (fun _x _y _K => by kernel_rfl)
noncomputable def f88_2_j10_b : Code := joinAt f88_2_ann f88_2_b 2
noncomputable def f88_2_j10_g {R : Type} (g_f101_3 : Nat → f101_3_T R) (k : Nat) (x : (Unit × Unit × Unit × Bool × Unit × Unit × Bool × Unit)) (y : ((List Int × Int × Int × Unit × Int × Int × Unit) × List D1 × (Int × Int × Bool × Bool × Int × Unit) × List D2 × (Int × Int × Int × Bool × Unit) × (Int × ByteArray × Int × Bool × Bool × Unit) × Unit)) (K : KX R) : Option R := f88_2_j10 g_f101_3 k x.2.2.2.1 x.2.2.2.2.2.2.1 y.1.1 y.1.2.1 y.1.2.2.1 y.1.2.2.2.2.1 y.1.2.2.2.2.2.1 y.2.1 y.2.2.1.1 y.2.2.1.2.1 y.2.2.1.2.2.1 y.2.2.1.2.2.2.1 y.2.2.1.2.2.2.2.1 y.2.2.2.1 y.2.2.2.2.1.1 y.2.2.2.2.1.2.1 y.2.2.2.2.1.2.2.1 y.2.2.2.2.1.2.2.2.1 y.2.2.2.2.2.1.1 y.2.2.2.2.2.1.2.1 y.2.2.2.2.2.1.2.2.1 y.2.2.2.2.2.1.2.2.2.1 y.2.2.2.2.2.1.2.2.2.2.1 (fun z0 z1 z2 z3 z4 z5 z6 => K (.exit 0) [.own 137438995456] [some (.row (.named 2) z0 true), some (.box [.list (.int .u8) z1, .int .i64 z2, .int .i64 z3, .own 137438995457, .int .i64 z4, .int .i64 z5]), some (.row (.named 1) z6 true)]) (fun z0 z1 z2 z3 z4 z5 z6 z7 z8 z9 z10 z11 => K (.normal) [.ptr 0 0, .ptr 65600 0, .own 137439049728] [some (.box [.list (.int .u8) z0, .int .i64 z1, .int .i64 z2, .own 1640946, .int .i64 z3, .int .i64 z4]), some (.row (.named 1) z5 true), some (.box [.int .i64 z6, .int .i64 z7, .bool z8, .bool z9, .int .i64 z10]), some (.row (.named 2) z11 true)])
noncomputable def f88_2_j10_d {R : Type} (g_f101_3 : Nat → f101_3_T R) (k : Nat) : Lr D R := ldoor [.ptr 0 0, .ptr 65600 0, .own 137438994432, .bool, .ptr 393344 0, .ptr 524432 0, .bool] [some (.box [.list (.int .u8), .int .i64, .int .i64, .own 137438994433, .int .i64, .int .i64]), some (.row (.named 1) true), some (.box [.int .i64, .int .i64, .bool, .bool, .int .i64]), some (.row (.named 2) true), some (.box [.int .i64, .int .i64, .int .i64, .bool]), some (.box [.int .i64, .str, .int .i64, .bool, .bool])] (f88_2_j10_g g_f101_3 k)
noncomputable def f88_2_j10_r {R : Type} (g_f101_3 : Nat → f101_3_T R) (k : Nat) : Lrc D R := (lrcAdd 1000023 (f88_2_j23_d g_f101_3 k) (lrcAdd 1000018 (f88_2_j18_d g_f101_3 k) (lrcAdd 1000017 (f88_2_j17_d g_f101_3 k) (lrcAdd 1000015 (f88_2_j15_d g_f101_3 k) (lrcAdd 1000013 (f88_2_j13_d g_f101_3 k) (lrcAdd 1000012 (f88_2_j12_d g_f101_3 k) noLrc))))))
theorem f88_2_j10_d_ok {R : Type} (g_f101_3 : Nat → f101_3_T R) (h_f101_3 : ∀ (k : Nat) (e : Dr D R), FnOk Try.prog cx 101 e → FnOk Try.prog cx 101 (f101_3_d (g_f101_3 k) e)) (k : Nat) : JoinOk Try.prog cx 167 2 f88_2_ann (f88_2_j10_d (R := R) g_f101_3 k) f88_2_j10_b :=
  join_ok (keep := kp) (lrc := f88_2_j10_r (R := R) g_f101_3 k) cxOk mixed (f88_2_o_ok g_f101_3 h_f101_3 k) (show f88_2_ann (Am.keyOf f88_2_j10_b + 1000000) = some f88_2_j10_a by kernel_rfl) (L := []) (by kernel_rfl) trivial (J := [f88_2_j12_b, f88_2_j13_b, f88_2_j15_b, f88_2_j17_b, f88_2_j18_b, f88_2_j23_b]) (by kernel_rfl) (⟨(f88_2_j12_d_ok g_f101_3 h_f101_3 k).use (by kernel_rfl), (f88_2_j13_d_ok g_f101_3 h_f101_3 k).use (by kernel_rfl), (f88_2_j15_d_ok g_f101_3 h_f101_3 k).use (by kernel_rfl), (f88_2_j17_d_ok g_f101_3 h_f101_3 k).use (by kernel_rfl), (f88_2_j18_d_ok g_f101_3 h_f101_3 k).use (by kernel_rfl), (f88_2_j23_d_ok g_f101_3 h_f101_3 k).use (by kernel_rfl), trivial⟩) ((LrcNat.add (f88_2_j23_d_ok g_f101_3 h_f101_3 k).2 (LrcNat.add (f88_2_j18_d_ok g_f101_3 h_f101_3 k).2 (LrcNat.add (f88_2_j17_d_ok g_f101_3 h_f101_3 k).2 (LrcNat.add (f88_2_j15_d_ok g_f101_3 h_f101_3 k).2 (LrcNat.add (f88_2_j13_d_ok g_f101_3 h_f101_3 k).2 (LrcNat.add (f88_2_j12_d_ok g_f101_3 h_f101_3 k).2 LrcNat.no))))))) (fun _x _y _K => by kernel_rfl)
noncomputable def f88_2_j9_b : Code := joinAt f88_2_ann f88_2_b 1
noncomputable def f88_2_j9_g {R : Type} (g_f101_3 : Nat → f101_3_T R) (k : Nat) (x : (Unit × Unit × Unit × Bool × Unit × Unit × Bool × Unit)) (y : ((List Int × Int × Int × Unit × Int × Int × Unit) × List D1 × (Int × Int × Bool × Bool × Int × Unit) × List D2 × (Int × Int × Int × Bool × Unit) × (Int × ByteArray × Int × Bool × Bool × Unit) × Unit)) (K : KX R) : Option R := f88_2_j9 g_f101_3 k x.2.2.2.1 x.2.2.2.2.2.2.1 y.1.1 y.1.2.1 y.1.2.2.1 y.1.2.2.2.2.1 y.1.2.2.2.2.2.1 y.2.1 y.2.2.1.1 y.2.2.1.2.1 y.2.2.1.2.2.1 y.2.2.1.2.2.2.1 y.2.2.1.2.2.2.2.1 y.2.2.2.1 y.2.2.2.2.1.1 y.2.2.2.2.1.2.1 y.2.2.2.2.1.2.2.1 y.2.2.2.2.1.2.2.2.1 y.2.2.2.2.2.1.1 y.2.2.2.2.2.1.2.1 y.2.2.2.2.2.1.2.2.1 y.2.2.2.2.2.1.2.2.2.1 y.2.2.2.2.2.1.2.2.2.2.1 (fun z0 z1 z2 z3 z4 z5 z6 => K (.exit 0) [.own 137438991360] [some (.row (.named 2) z0 true), some (.box [.list (.int .u8) z1, .int .i64 z2, .int .i64 z3, .own 137438991361, .int .i64 z4, .int .i64 z5]), some (.row (.named 1) z6 true)]) (fun z0 z1 z2 z3 z4 z5 z6 z7 z8 z9 z10 z11 => K (.normal) [.ptr 0 0, .ptr 65600 0, .own 137439049728] [some (.box [.list (.int .u8) z0, .int .i64 z1, .int .i64 z2, .own 1640946, .int .i64 z3, .int .i64 z4]), some (.row (.named 1) z5 true), some (.box [.int .i64 z6, .int .i64 z7, .bool z8, .bool z9, .int .i64 z10]), some (.row (.named 2) z11 true)])
noncomputable def f88_2_j9_d {R : Type} (g_f101_3 : Nat → f101_3_T R) (k : Nat) : Lr D R := ldoor [.ptr 0 0, .ptr 65600 0, .own 137438990336, .bool, .ptr 393344 0, .ptr 524432 0, .bool] [some (.box [.list (.int .u8), .int .i64, .int .i64, .own 137438990337, .int .i64, .int .i64]), some (.row (.named 1) true), some (.box [.int .i64, .int .i64, .bool, .bool, .int .i64]), some (.row (.named 2) true), some (.box [.int .i64, .int .i64, .int .i64, .bool]), some (.box [.int .i64, .str, .int .i64, .bool, .bool])] (f88_2_j9_g g_f101_3 k)
noncomputable def f88_2_j9_r {R : Type} (g_f101_3 : Nat → f101_3_T R) (k : Nat) : Lrc D R := (lrcAdd 1000023 (f88_2_j23_d g_f101_3 k) (lrcAdd 1000018 (f88_2_j18_d g_f101_3 k) (lrcAdd 1000017 (f88_2_j17_d g_f101_3 k) (lrcAdd 1000015 (f88_2_j15_d g_f101_3 k) (lrcAdd 1000013 (f88_2_j13_d g_f101_3 k) (lrcAdd 1000012 (f88_2_j12_d g_f101_3 k) (lrcAdd 1000010 (f88_2_j10_d g_f101_3 k) noLrc)))))))
theorem f88_2_j9_d_ok {R : Type} (g_f101_3 : Nat → f101_3_T R) (h_f101_3 : ∀ (k : Nat) (e : Dr D R), FnOk Try.prog cx 101 e → FnOk Try.prog cx 101 (f101_3_d (g_f101_3 k) e)) (k : Nat) : JoinOk Try.prog cx 167 2 f88_2_ann (f88_2_j9_d (R := R) g_f101_3 k) f88_2_j9_b :=
  join_ok (keep := kp) (lrc := f88_2_j9_r (R := R) g_f101_3 k) cxOk mixed (f88_2_o_ok g_f101_3 h_f101_3 k) (show f88_2_ann (Am.keyOf f88_2_j9_b + 1000000) = some f88_2_j9_a by kernel_rfl) (L := []) (by kernel_rfl) trivial (J := [f88_2_j10_b, f88_2_j12_b, f88_2_j13_b, f88_2_j15_b, f88_2_j17_b, f88_2_j18_b, f88_2_j23_b]) (by kernel_rfl) (⟨(f88_2_j10_d_ok g_f101_3 h_f101_3 k).use (by kernel_rfl), (f88_2_j12_d_ok g_f101_3 h_f101_3 k).use (by kernel_rfl), (f88_2_j13_d_ok g_f101_3 h_f101_3 k).use (by kernel_rfl), (f88_2_j15_d_ok g_f101_3 h_f101_3 k).use (by kernel_rfl), (f88_2_j17_d_ok g_f101_3 h_f101_3 k).use (by kernel_rfl), (f88_2_j18_d_ok g_f101_3 h_f101_3 k).use (by kernel_rfl), (f88_2_j23_d_ok g_f101_3 h_f101_3 k).use (by kernel_rfl), trivial⟩) ((LrcNat.add (f88_2_j23_d_ok g_f101_3 h_f101_3 k).2 (LrcNat.add (f88_2_j18_d_ok g_f101_3 h_f101_3 k).2 (LrcNat.add (f88_2_j17_d_ok g_f101_3 h_f101_3 k).2 (LrcNat.add (f88_2_j15_d_ok g_f101_3 h_f101_3 k).2 (LrcNat.add (f88_2_j13_d_ok g_f101_3 h_f101_3 k).2 (LrcNat.add (f88_2_j12_d_ok g_f101_3 h_f101_3 k).2 (LrcNat.add (f88_2_j10_d_ok g_f101_3 h_f101_3 k).2 LrcNat.no)))))))) (fun _x _y _K => by kernel_rfl)
noncomputable def f88_2_j5_b : Code := joinAt f88_2_ann f88_2_b 0
noncomputable def f88_2_j5_g {R : Type} (g_f101_3 : Nat → f101_3_T R) (k : Nat) (x : (Unit × Unit × Unit × Bool × Unit)) (y : ((List Int × Int × Int × Unit × Int × Int × Unit) × List D1 × (Int × Int × Bool × Bool × Int × Unit) × List D2 × Unit)) (K : KX R) : Option R := f88_2_j5 g_f101_3 k x.2.2.2.1 y.1.1 y.1.2.1 y.1.2.2.1 y.1.2.2.2.2.1 y.1.2.2.2.2.2.1 y.2.1 y.2.2.1.1 y.2.2.1.2.1 y.2.2.1.2.2.1 y.2.2.1.2.2.2.1 y.2.2.1.2.2.2.2.1 y.2.2.2.1 (fun z0 z1 z2 z3 z4 z5 z6 => K (.exit 0) [.own 137438974976] [some (.row (.named 2) z0 true), some (.box [.list (.int .u8) z1, .int .i64 z2, .int .i64 z3, .own 137438974977, .int .i64 z4, .int .i64 z5]), some (.row (.named 1) z6 true)]) (fun z0 z1 z2 z3 z4 z5 z6 z7 z8 z9 z10 z11 z12 => K (.normal) [.ptr 0 0, .ptr 65600 0, .own 137439049728, .bool z0] [some (.box [.list (.int .u8) z1, .int .i64 z2, .int .i64 z3, .own 1640946, .int .i64 z4, .int .i64 z5]), some (.row (.named 1) z6 true), some (.box [.int .i64 z7, .int .i64 z8, .bool z9, .bool z10, .int .i64 z11]), some (.row (.named 2) z12 true)])
noncomputable def f88_2_j5_d {R : Type} (g_f101_3 : Nat → f101_3_T R) (k : Nat) : Lr D R := ldoor [.ptr 0 0, .ptr 65600 0, .own 137438973952, .bool] [some (.box [.list (.int .u8), .int .i64, .int .i64, .own 137438973953, .int .i64, .int .i64]), some (.row (.named 1) true), some (.box [.int .i64, .int .i64, .bool, .bool, .int .i64]), some (.row (.named 2) true)] (f88_2_j5_g g_f101_3 k)
noncomputable def f88_2_j5_r {R : Type} (g_f101_3 : Nat → f101_3_T R) (k : Nat) : Lrc D R := (lrcAdd 1000023 (f88_2_j23_d g_f101_3 k) (lrcAdd 1000018 (f88_2_j18_d g_f101_3 k) (lrcAdd 1000017 (f88_2_j17_d g_f101_3 k) (lrcAdd 1000015 (f88_2_j15_d g_f101_3 k) (lrcAdd 1000013 (f88_2_j13_d g_f101_3 k) (lrcAdd 1000012 (f88_2_j12_d g_f101_3 k) (lrcAdd 1000010 (f88_2_j10_d g_f101_3 k) (lrcAdd 1000009 (f88_2_j9_d g_f101_3 k) noLrc))))))))
theorem f88_2_j5_d_ok {R : Type} (g_f101_3 : Nat → f101_3_T R) (h_f101_3 : ∀ (k : Nat) (e : Dr D R), FnOk Try.prog cx 101 e → FnOk Try.prog cx 101 (f101_3_d (g_f101_3 k) e)) (k : Nat) : JoinOk Try.prog cx 167 2 f88_2_ann (f88_2_j5_d (R := R) g_f101_3 k) f88_2_j5_b :=
  join_ok (keep := kp) (lrc := f88_2_j5_r (R := R) g_f101_3 k) cxOk mixed (f88_2_o_ok g_f101_3 h_f101_3 k) (show f88_2_ann (Am.keyOf f88_2_j5_b + 1000000) = some f88_2_j5_a by kernel_rfl) (L := []) (by kernel_rfl) trivial (J := [f88_2_j9_b, f88_2_j10_b, f88_2_j12_b, f88_2_j13_b, f88_2_j15_b, f88_2_j17_b, f88_2_j18_b, f88_2_j23_b]) (by kernel_rfl) (⟨(f88_2_j9_d_ok g_f101_3 h_f101_3 k).use (by kernel_rfl), (f88_2_j10_d_ok g_f101_3 h_f101_3 k).use (by kernel_rfl), (f88_2_j12_d_ok g_f101_3 h_f101_3 k).use (by kernel_rfl), (f88_2_j13_d_ok g_f101_3 h_f101_3 k).use (by kernel_rfl), (f88_2_j15_d_ok g_f101_3 h_f101_3 k).use (by kernel_rfl), (f88_2_j17_d_ok g_f101_3 h_f101_3 k).use (by kernel_rfl), (f88_2_j18_d_ok g_f101_3 h_f101_3 k).use (by kernel_rfl), (f88_2_j23_d_ok g_f101_3 h_f101_3 k).use (by kernel_rfl), trivial⟩) ((LrcNat.add (f88_2_j23_d_ok g_f101_3 h_f101_3 k).2 (LrcNat.add (f88_2_j18_d_ok g_f101_3 h_f101_3 k).2 (LrcNat.add (f88_2_j17_d_ok g_f101_3 h_f101_3 k).2 (LrcNat.add (f88_2_j15_d_ok g_f101_3 h_f101_3 k).2 (LrcNat.add (f88_2_j13_d_ok g_f101_3 h_f101_3 k).2 (LrcNat.add (f88_2_j12_d_ok g_f101_3 h_f101_3 k).2 (LrcNat.add (f88_2_j10_d_ok g_f101_3 h_f101_3 k).2 (LrcNat.add (f88_2_j9_d_ok g_f101_3 h_f101_3 k).2 LrcNat.no))))))))) (fun _x _y _K => by kernel_rfl)
noncomputable def f88_2_l3_b : Code := loopAt f88_2_b 0
noncomputable def f88_2_l3_g {R : Type} (g_f101_3 : Nat → f101_3_T R) (k : Nat) (x : (Unit × Unit × Unit × Bool × Unit)) (y : ((List Int × Int × Int × Unit × Int × Int × Unit) × List D1 × (Int × Int × Bool × Bool × Int × Unit) × List D2 × Unit)) (K : KX R) : Option R := f88_2_l3 g_f101_3 k x.2.2.2.1 y.1.1 y.1.2.1 y.1.2.2.1 y.1.2.2.2.2.1 y.1.2.2.2.2.2.1 y.2.1 y.2.2.1.1 y.2.2.1.2.1 y.2.2.1.2.2.1 y.2.2.1.2.2.2.1 y.2.2.1.2.2.2.2.1 y.2.2.2.1 (fun z0 z1 z2 z3 z4 z5 z6 => K (.exit 0) [.own 68719490048] [some (.row (.named 2) z0 true), some (.box [.list (.int .u8) z1, .int .i64 z2, .int .i64 z3, .own 68719490049, .int .i64 z4, .int .i64 z5]), some (.row (.named 1) z6 true)])
noncomputable def f88_2_l3_d {R : Type} (g_f101_3 : Nat → f101_3_T R) (k : Nat) : Lr D R := ldoor [.ptr 0 0, .ptr 65600 0, .own 68719489024, .bool] [some (.box [.list (.int .u8), .int .i64, .int .i64, .own 68719489025, .int .i64, .int .i64]), some (.row (.named 1) true), some (.box [.int .i64, .int .i64, .bool, .bool, .int .i64]), some (.row (.named 2) true)] (f88_2_l3_g g_f101_3 k)
noncomputable def f88_2_l3_r {R : Type} (g_f101_3 : Nat → f101_3_T R) (k : Nat) : Lrc D R := (lrcAdd 1000023 (f88_2_j23_d g_f101_3 k) (lrcAdd 1000018 (f88_2_j18_d g_f101_3 k) (lrcAdd 1000017 (f88_2_j17_d g_f101_3 k) (lrcAdd 1000015 (f88_2_j15_d g_f101_3 k) (lrcAdd 1000013 (f88_2_j13_d g_f101_3 k) (lrcAdd 1000012 (f88_2_j12_d g_f101_3 k) (lrcAdd 1000010 (f88_2_j10_d g_f101_3 k) (lrcAdd 1000009 (f88_2_j9_d g_f101_3 k) (lrcAdd 1000005 (f88_2_j5_d g_f101_3 k) noLrc)))))))))
theorem f88_2_l3_d_ok {R : Type} (g_f101_3 : Nat → f101_3_T R) (h_f101_3 : ∀ (k : Nat) (e : Dr D R), FnOk Try.prog cx 101 e → FnOk Try.prog cx 101 (f101_3_d (g_f101_3 k) e)) : ∀ k, LoopOk Try.prog cx 167 2 f88_2_ann (f88_2_l3_d (R := R) g_f101_3 k) f88_2_l3_b :=
  loop_ok (keep := kp) (lrc := f88_2_l3_r (R := R) g_f101_3) cxOk mixed (f88_2_o_ok g_f101_3 h_f101_3) (show f88_2_ann (Am.keyOf f88_2_l3_b) = some f88_2_l3_a by kernel_rfl) (L := []) (by kernel_rfl) (fun _k => trivial) (J := [f88_2_j5_b, f88_2_j9_b, f88_2_j10_b, f88_2_j12_b, f88_2_j13_b, f88_2_j15_b, f88_2_j17_b, f88_2_j18_b, f88_2_j23_b]) (by kernel_rfl) (fun k => ⟨(f88_2_j5_d_ok g_f101_3 h_f101_3 k).use (by kernel_rfl), (f88_2_j9_d_ok g_f101_3 h_f101_3 k).use (by kernel_rfl), (f88_2_j10_d_ok g_f101_3 h_f101_3 k).use (by kernel_rfl), (f88_2_j12_d_ok g_f101_3 h_f101_3 k).use (by kernel_rfl), (f88_2_j13_d_ok g_f101_3 h_f101_3 k).use (by kernel_rfl), (f88_2_j15_d_ok g_f101_3 h_f101_3 k).use (by kernel_rfl), (f88_2_j17_d_ok g_f101_3 h_f101_3 k).use (by kernel_rfl), (f88_2_j18_d_ok g_f101_3 h_f101_3 k).use (by kernel_rfl), (f88_2_j23_d_ok g_f101_3 h_f101_3 k).use (by kernel_rfl), trivial⟩) (fun k => (LrcNat.add (f88_2_j23_d_ok g_f101_3 h_f101_3 k).2 (LrcNat.add (f88_2_j18_d_ok g_f101_3 h_f101_3 k).2 (LrcNat.add (f88_2_j17_d_ok g_f101_3 h_f101_3 k).2 (LrcNat.add (f88_2_j15_d_ok g_f101_3 h_f101_3 k).2 (LrcNat.add (f88_2_j13_d_ok g_f101_3 h_f101_3 k).2 (LrcNat.add (f88_2_j12_d_ok g_f101_3 h_f101_3 k).2 (LrcNat.add (f88_2_j10_d_ok g_f101_3 h_f101_3 k).2 (LrcNat.add (f88_2_j9_d_ok g_f101_3 h_f101_3 k).2 (LrcNat.add (f88_2_j5_d_ok g_f101_3 h_f101_3 k).2 LrcNat.no)))))))))) (fun _x _y _K => by kernel_rfl) (fun _k _x _y _K => by kernel_rfl)
noncomputable def f88_2_r {R : Type} (g_f101_3 : Nat → f101_3_T R) (k : Nat) : Lrc D R := (lrcAdd 1000023 (f88_2_j23_d g_f101_3 k) (lrcAdd 1000018 (f88_2_j18_d g_f101_3 k) (lrcAdd 1000017 (f88_2_j17_d g_f101_3 k) (lrcAdd 1000015 (f88_2_j15_d g_f101_3 k) (lrcAdd 1000013 (f88_2_j13_d g_f101_3 k) (lrcAdd 1000012 (f88_2_j12_d g_f101_3 k) (lrcAdd 1000010 (f88_2_j10_d g_f101_3 k) (lrcAdd 1000009 (f88_2_j9_d g_f101_3 k) (lrcAdd 1000005 (f88_2_j5_d g_f101_3 k) (lrcAdd 3 (f88_2_l3_d g_f101_3 k) noLrc))))))))))
noncomputable def rec_f101_3 {R : Type} : Nat → (f101_3_T R) × (f88_2_T R)
  | 0 => (fun _ _ _ _ _ _ _ _ _ _ _ _ _ _ _ _ _ _ _ _ _ _ => none, fun _ _ _ _ _ _ _ _ _ _ _ _ => none)
  | k + 1 => (f101_3_s (fun _ => (rec_f101_3 (R := R) k).2) k, f88_2_s (fun _ => (rec_f101_3 (R := R) k).1) k)
theorem rec_f101_3_succ {R : Type} (k : Nat) : rec_f101_3 (R := R) (k + 1) = (f101_3_s (fun _ => (rec_f101_3 (R := R) k).2) k, f88_2_s (fun _ => (rec_f101_3 (R := R) k).1) k) := rfl
theorem rec_f101_3_ok {R : Type} : ∀ k, (∀ e : Dr D R, FnOk Try.prog cx 101 e → FnOk Try.prog cx 101 (f101_3_d (rec_f101_3 (R := R) k).1 e)) ∧ (∀ e : Dr D R, FnOk Try.prog cx 88 e → FnOk Try.prog cx 88 (f88_2_d (rec_f101_3 (R := R) k).2 e))
  | 0 => ⟨fun e he => he.door0 fun x y K => rfl, fun e he => he.door0 fun x y _K => rfl⟩
  | k + 1 => by
    rw [rec_f101_3_succ]
    exact ⟨fun e he => he.door fun x y => body_ok (keep := kp) (ann := f101_3_ann) (lrc := f101_3_r (R := R) (fun _ => (rec_f101_3 (R := R) k).2) k) (N := 154) (n0 := 2) (c := [(.cell 65712 1, .own 1099511627776 (.int .u8)), (.cell 65712 2, .own 1099511627777 (.named 2)), (.cell 0 3, .own 1099511627778 (.named 1))]) cxOk mixed (f101_3_o_ok (fun _ => (rec_f101_3 (R := R) k).2) (fun _ e he => (rec_f101_3_ok (R := R) k).2 e he) k) (body := f101_3_b) (by kernel_rfl : Try.prog.funcs[101]? = some Try.f101) (by kernel_rfl) (by kernel_rfl) (by kernel_rfl) (by kernel_rfl) (of_decide_eq_true (by kernel_rfl)) (L := []) (by kernel_rfl) trivial (J := []) (by kernel_rfl) trivial (LrcNat.no) (fun _K => by delta f101_3_s f101_3_o; generalize @f87_2 R = a0; generalize @f95_2 R = a1; revert a0 a1; refine id ?_; intros; kernel_rfl),
      fun e he => he.door fun _x _y => body_ok (keep := kp) (ann := f88_2_ann) (lrc := f88_2_r (R := R) (fun _ => (rec_f101_3 (R := R) k).1) k) (N := 167) (n0 := 2) (c := []) cxOk mixed (f88_2_o_ok (fun _ => (rec_f101_3 (R := R) k).1) (fun _ e he => (rec_f101_3_ok (R := R) k).1 e he) k) (body := f88_2_b) (by kernel_rfl : Try.prog.funcs[88]? = some Try.f88) (by kernel_rfl) (by kernel_rfl) (by kernel_rfl) (by kernel_rfl) (of_decide_eq_true (by kernel_rfl)) (L := [f88_2_l3_b]) (by kernel_rfl) (⟨(f88_2_l3_d_ok (fun _ => (rec_f101_3 (R := R) k).1) (fun _ e he => (rec_f101_3_ok (R := R) k).1 e he) k).use (by kernel_rfl), trivial⟩) (J := [f88_2_j5_b, f88_2_j9_b, f88_2_j10_b, f88_2_j12_b, f88_2_j13_b, f88_2_j15_b, f88_2_j17_b, f88_2_j18_b, f88_2_j23_b]) (by kernel_rfl) (⟨(f88_2_j5_d_ok (fun _ => (rec_f101_3 (R := R) k).1) (fun _ e he => (rec_f101_3_ok (R := R) k).1 e he) k).use (by kernel_rfl), (f88_2_j9_d_ok (fun _ => (rec_f101_3 (R := R) k).1) (fun _ e he => (rec_f101_3_ok (R := R) k).1 e he) k).use (by kernel_rfl), (f88_2_j10_d_ok (fun _ => (rec_f101_3 (R := R) k).1) (fun _ e he => (rec_f101_3_ok (R := R) k).1 e he) k).use (by kernel_rfl), (f88_2_j12_d_ok (fun _ => (rec_f101_3 (R := R) k).1) (fun _ e he => (rec_f101_3_ok (R := R) k).1 e he) k).use (by kernel_rfl), (f88_2_j13_d_ok (fun _ => (rec_f101_3 (R := R) k).1) (fun _ e he => (rec_f101_3_ok (R := R) k).1 e he) k).use (by kernel_rfl), (f88_2_j15_d_ok (fun _ => (rec_f101_3 (R := R) k).1) (fun _ e he => (rec_f101_3_ok (R := R) k).1 e he) k).use (by kernel_rfl), (f88_2_j17_d_ok (fun _ => (rec_f101_3 (R := R) k).1) (fun _ e he => (rec_f101_3_ok (R := R) k).1 e he) k).use (by kernel_rfl), (f88_2_j18_d_ok (fun _ => (rec_f101_3 (R := R) k).1) (fun _ e he => (rec_f101_3_ok (R := R) k).1 e he) k).use (by kernel_rfl), (f88_2_j23_d_ok (fun _ => (rec_f101_3 (R := R) k).1) (fun _ e he => (rec_f101_3_ok (R := R) k).1 e he) k).use (by kernel_rfl), trivial⟩) ((LrcNat.add (f88_2_j23_d_ok (fun _ => (rec_f101_3 (R := R) k).1) (fun _ e he => (rec_f101_3_ok (R := R) k).1 e he) k).2 (LrcNat.add (f88_2_j18_d_ok (fun _ => (rec_f101_3 (R := R) k).1) (fun _ e he => (rec_f101_3_ok (R := R) k).1 e he) k).2 (LrcNat.add (f88_2_j17_d_ok (fun _ => (rec_f101_3 (R := R) k).1) (fun _ e he => (rec_f101_3_ok (R := R) k).1 e he) k).2 (LrcNat.add (f88_2_j15_d_ok (fun _ => (rec_f101_3 (R := R) k).1) (fun _ e he => (rec_f101_3_ok (R := R) k).1 e he) k).2 (LrcNat.add (f88_2_j13_d_ok (fun _ => (rec_f101_3 (R := R) k).1) (fun _ e he => (rec_f101_3_ok (R := R) k).1 e he) k).2 (LrcNat.add (f88_2_j12_d_ok (fun _ => (rec_f101_3 (R := R) k).1) (fun _ e he => (rec_f101_3_ok (R := R) k).1 e he) k).2 (LrcNat.add (f88_2_j10_d_ok (fun _ => (rec_f101_3 (R := R) k).1) (fun _ e he => (rec_f101_3_ok (R := R) k).1 e he) k).2 (LrcNat.add (f88_2_j9_d_ok (fun _ => (rec_f101_3 (R := R) k).1) (fun _ e he => (rec_f101_3_ok (R := R) k).1 e he) k).2 (LrcNat.add (f88_2_j5_d_ok (fun _ => (rec_f101_3 (R := R) k).1) (fun _ e he => (rec_f101_3_ok (R := R) k).1 e he) k).2 (LrcNat.add (f88_2_l3_d_ok (fun _ => (rec_f101_3 (R := R) k).1) (fun _ e he => (rec_f101_3_ok (R := R) k).1 e he) k).2 LrcNat.no))))))))))) (fun _K => by delta f88_2_s f88_2_o; generalize @f25 R = a0; generalize @f56_2 R = a1; generalize @f87_2 R = a2; generalize @f99_2 R = a3; generalize @f100 R = a4; generalize @f68 R = a5; revert a0 a1 a2 a3 a4 a5; refine id ?_; intros; kernel_rfl)⟩
noncomputable def f101_3 {R : Type} (k : Nat) (a0 a1 a2 : Int) (a3 : Bool) (a4 : Int) (a5 : ByteArray) (a6 : Int) (a7 a8 a9 : Bool) (a10 a11 : Int) (a12 a13 : Bool) (a14 : Int) (a15 : List Int) (a16 a17 a18 a19 : Int) (a20 : List D1) (K : Int → Bool → Bool → List Int → Int → Int → Int → Int → List Int → List D2 → List D1 → Option R) : Option R := (rec_f101_3 (R := R) k).1 a0 a1 a2 a3 a4 a5 a6 a7 a8 a9 a10 a11 a12 a13 a14 a15 a16 a17 a18 a19 a20 K
theorem f101_3_ok {R : Type} (k : Nat) {e : Dr D R} (he : FnOk Try.prog cx 101 e) : FnOk Try.prog cx 101 (f101_3_d (f101_3 k) e) := (rec_f101_3_ok (R := R) k).1 e he
noncomputable def f88_2 {R : Type} (k : Nat) (a0 a1 : Int) (a2 a3 : Bool) (a4 : Int) (a5 : List Int) (a6 a7 a8 a9 : Int) (a10 : List D1) (K : List Int → Int → Int → Int → Int → List D2 → List D1 → Option R) : Option R := (rec_f101_3 (R := R) k).2 a0 a1 a2 a3 a4 a5 a6 a7 a8 a9 a10 K
theorem f88_2_ok {R : Type} (k : Nat) {e : Dr D R} (he : FnOk Try.prog cx 88 e) : FnOk Try.prog cx 88 (f88_2_d (f88_2 k) e) := (rec_f101_3_ok (R := R) k).2 e he
theorem f101_3_step {R : Type} (k : Nat) (a0 a1 a2 : Int) (a3 : Bool) (a4 : Int) (a5 : ByteArray) (a6 : Int) (a7 a8 a9 : Bool) (a10 a11 : Int) (a12 a13 : Bool) (a14 : Int) (a15 : List Int) (a16 a17 a18 a19 : Int) (a20 : List D1) (K : Int → Bool → Bool → List Int → Int → Int → Int → Int → List Int → List D2 → List D1 → Option R) : f101_3 (k + 1) a0 a1 a2 a3 a4 a5 a6 a7 a8 a9 a10 a11 a12 a13 a14 a15 a16 a17 a18 a19 a20 K = f101_3_s (fun _ => f88_2 (R := R) k) k a0 a1 a2 a3 a4 a5 a6 a7 a8 a9 a10 a11 a12 a13 a14 a15 a16 a17 a18 a19 a20 K := rfl
theorem f88_2_step {R : Type} (k : Nat) (a0 a1 : Int) (a2 a3 : Bool) (a4 : Int) (a5 : List Int) (a6 a7 a8 a9 : Int) (a10 : List D1) (K : List Int → Int → Int → Int → Int → List D2 → List D1 → Option R) : f88_2 (k + 1) a0 a1 a2 a3 a4 a5 a6 a7 a8 a9 a10 K = f88_2_s (fun _ => f101_3 (R := R) k) k a0 a1 a2 a3 a4 a5 a6 a7 a8 a9 a10 K := rfl


end Go.Proofs.Ytklhjegfkpmdoaa

/-! What the functions do, as plain functions; and that they do. -/
namespace Go.Proofs.Ytklhjegfkpmdoaa
open Go Go.Am
abbrev f88_T (R : Type) : Type := Int → Int → Bool → Bool → Int → List Int → Int → Int → Int → Int → (List Int → Int → Int → Int → Int → List D2 → List D1 → Option R) → Option R
/-! ## 88: (*diorama/element.parser).level -/
noncomputable def f88_j12 {R : Type} (_k : Nat) (v104 v105 : Bool) (v106 : Int) (v107 : Bool) (v108 : List Int) (v109 v110 v111 v112 : Int) (v113 : List D1) (v114 v115 : Int) (v116 v117 : Bool) (v118 : Int) (v119 : List D2) (v120 v121 v122 : Int) (v123 : Bool) (v124 : Int) (v125 : ByteArray) (v126 : Int) (v127 v128 : Bool) (X0 : Bool → Bool → Int → Bool → List Int → Int → Int → Int → Int → List D1 → Int → Int → Bool → Bool → Int → List D2 → Int → Int → Int → Bool → Int → ByteArray → Int → Bool → Bool → Option R) : Option R :=
 bif v107 then
  X0 v104 v105 v106 v107 v108 v109 v110 v111 v112 v113 v114 v115 v116 v117 v118 v119 v120 v121 v122 v123 v124 v125 v126 v127 v128
 else
  bif v116 then
   bif decide (v106 > v115) then
    X0 v104 v105 v106 true v108 v109 v110 v111 v112 v113 v114 v115 v116 v117 v118 v119 v120 v121 v122 v123 v124 v125 v126 v127 v128
   else
    X0 v104 v105 v106 (decide (v122 > v115)) v108 v109 v110 v111 v112 v113 v114 v115 v116 v117 v118 v119 v120 v121 v122 v123 v124 v125 v126 v127 v128
  else
   X0 v104 v105 v106 false v108 v109 v110 v111 v112 v113 v114 v115 v116 v117 v118 v119 v120 v121 v122 v123 v124 v125 v126 v127 v128
noncomputable def f88_j17 {R : Type} (_k : Nat) (v216 v217 v218 : Bool) (v219 : List Int) (v220 v221 v222 v223 : Int) (v224 : List D1) (v225 v226 : Int) (v227 v228 : Bool) (v229 : Int) (v230 : List D2) (v231 v232 v233 : Int) (v234 : Bool) (v235 : Int) (v236 : ByteArray) (v237 : Int) (v238 v239 : Bool) (X0 : Bool → Bool → List Int → Int → Int → Int → Int → List D1 → Int → Int → Bool → Bool → Int → List D2 → Int → Int → Int → Bool → Int → ByteArray → Int → Bool → Bool → Option R) : Option R :=
 bif v218 then
  X0 v217 v218 v219 v220 v221 v222 v223 v224 v225 v226 v227 v228 v229 v230 v231 v232 v233 v234 v235 v236 v237 v238 v239
 else
  bif (v235 == 237) then
   bif (v225 == 0) then
    X0 v217 true v219 v220 v221 v222 v223 v224 v225 v226 v227 v228 v229 v230 v231 v232 v233 v234 v235 v236 v237 v238 v239
   else
    X0 v217 (!v216) v219 v220 v221 v222 v223 v224 v225 v226 v227 v228 v229 v230 v231 v232 v233 v234 v235 v236 v237 v238 v239
  else
   X0 v217 false v219 v220 v221 v222 v223 v224 v225 v226 v227 v228 v229 v230 v231 v232 v233 v234 v235 v236 v237 v238 v239
noncomputable def f88_j18 {R : Type} (k : Nat) (v263 v264 : Bool) (v265 : List Int) (v266 v267 v268 v269 : Int) (v270 : List D1) (v271 v272 : Int) (v273 v274 : Bool) (v275 : Int) (v276 : List D2) (v277 v278 v279 : Int) (v280 : Bool) (v281 : Int) (v282 : ByteArray) (v283 : Int) (v284 v285 : Bool) (X0 : Bool → List Int → Int → Int → Int → Int → List D1 → Int → Int → Bool → Bool → Int → List D2 → Int → Int → Int → Bool → Int → ByteArray → Int → Bool → Bool → Option R) : Option R :=
 bif v264 then
  f87_2 k 42 v265 v266 v267 v268 v269 v270 (fun v286 v287 v288 v289 v290 v291 =>
   X0 v263 v286 v287 v288 v289 v290 v291 v271 v272 v273 v274 v275 v276 v277 v278 v279 v280 v281 v282 v283 v284 v285)
 else
  bif decide (v275 > 8) then
   f87_2 k 43 v265 v266 v267 v268 v269 v270 (fun v292 v293 v294 v295 v296 v297 =>
    X0 v263 v292 v293 v294 v295 v296 v297 v271 v272 v273 v274 v275 v276 v277 v278 v279 v280 v281 v282 v283 v284 v285)
  else
   bif (v281 == 237) then
    f100 k v277 v278 v279 v280 v271 v272 v273 v274 v275 v265 v266 v267 v268 v269 v270 (fun v298 v299 v300 v301 v302 v303 =>
     X0 v263 v298 v299 v300 v301 v302 v303 v271 v272 v273 v274 v275 v276 v277 v278 v279 v280 v281 v282 v283 v284 v285)
   else
    X0 v263 v265 v266 v267 v268 v269 v270 v271 v272 v273 v274 v275 v276 v277 v278 v279 v280 v281 v282 v283 v284 v285
noncomputable def f88_j15 {R : Type} (k : Nat) (v185 v186 v187 : Bool) (v188 : List Int) (v189 v190 v191 v192 : Int) (v193 : List D1) (v194 v195 : Int) (v196 v197 : Bool) (v198 : Int) (v199 : List D2) (v200 v201 v202 : Int) (v203 : Bool) (v204 : Int) (v205 : ByteArray) (v206 : Int) (v207 v208 : Bool) (X0 : Bool → List Int → Int → Int → Int → Int → List D1 → Int → Int → Bool → Bool → Int → List D2 → Int → Int → Int → Bool → Int → ByteArray → Int → Bool → Bool → Option R) : Option R :=
 bif v187 then
  f87_2 k 3 v188 v189 v190 v191 v192 v193 (fun v209 v210 v211 v212 v213 v214 =>
   X0 v186 v209 v210 v211 v212 v213 v214 v194 v195 v196 v197 v198 v199 v200 v201 v202 v203 v204 v205 v206 v207 v208)
 else
  bif (!v186) then
   f68 k v204 v205 v206 v207 v208 v194 (fun v215 =>
    f88_j17 k v185 v186 (!v215) v188 v189 v190 v191 v192 v193 v194 v195 v196 v197 v198 v199 v200 v201 v202 v203 v204 v205 v206 v207 v208 (fun v240 v241 v242 v243 v244 v245 v246 v247 v248 v249 v250 v251 v252 v253 v254 v255 v256 v257 v258 v259 v260 v261 v262 =>
     f88_j18 k v240 v241 v242 v243 v244 v245 v246 v247 v248 v249 v250 v251 v252 v253 v254 v255 v256 v257 v258 v259 v260 v261 v262 X0))
  else
   f88_j17 k v185 v186 false v188 v189 v190 v191 v192 v193 v194 v195 v196 v197 v198 v199 v200 v201 v202 v203 v204 v205 v206 v207 v208 (fun v326 v327 v328 v329 v330 v331 v332 v333 v334 v335 v336 v337 v338 v339 v340 v341 v342 v343 v344 v345 v346 v347 v348 =>
    f88_j18 k v326 v327 v328 v329 v330 v331 v332 v333 v334 v335 v336 v337 v338 v339 v340 v341 v342 v343 v344 v345 v346 v347 v348 X0)
noncomputable def f88_j13 {R : Type} (k : Nat) (v154 v155 : Bool) (v156 : Int) (v157 : Bool) (v158 : List Int) (v159 v160 v161 v162 : Int) (v163 : List D1) (v164 v165 : Int) (v166 v167 : Bool) (v168 : Int) (v169 : List D2) (v170 v171 v172 : Int) (v173 : Bool) (v174 : Int) (v175 : ByteArray) (v176 : Int) (v177 v178 : Bool) (X0 : Bool → List Int → Int → Int → Int → Int → List D1 → Int → Int → Bool → Bool → Int → List D2 → Int → Int → Int → Bool → Int → ByteArray → Int → Bool → Bool → Option R) : Option R :=
 bif v157 then
  f87_2 k 41 v158 v159 v160 v161 v162 v163 (fun v179 v180 v181 v182 v183 v184 =>
   X0 v155 v179 v180 v181 v182 v183 v184 v164 v165 v166 v167 v168 v169 v170 v171 v172 v173 v174 v175 v176 v177 v178)
 else
  bif decide (v156 > (v158.length : Int)) then
   f88_j15 k v154 v155 true v158 v159 v160 v161 v162 v163 v164 v165 v166 v167 v168 v169 v170 v171 v172 v173 v174 v175 v176 v177 v178 X0
  else
   f88_j15 k v154 v155 (decide (v172 > (v158.length : Int))) v158 v159 v160 v161 v162 v163 v164 v165 v166 v167 v168 v169 v170 v171 v172 v173 v174 v175 v176 v177 v178 X0
noncomputable def f88_j23 {R : Type} (k : Nat) (v437 : Bool) (v438 : List Int) (v439 v440 v441 v442 : Int) (v443 : List D1) (v444 v445 : Int) (v446 v447 : Bool) (v448 : Int) (v449 : List D2) (v450 v451 v452 : Int) (v453 : Bool) (v454 : Int) (v455 : ByteArray) (v456 : Int) (v457 v458 : Bool) (X0 : List D2 → List Int → Int → Int → Int → Int → List D1 → Option R) (X1 : List Int → Int → Int → Int → Int → List D1 → Int → Int → Bool → Bool → Int → List D2 → Option R) : Option R :=
 f56_2 k v438 v439 v440 v441 v442 v443 (fun v459 v460 v461 v462 v463 v464 v465 =>
  bif (!v459) then
   X0 v449 v460 v461 v462 v463 v464 v465
  else
   f101_3 k v450 v451 v452 v453 v454 v455 v456 v457 v458 v437 v444 v445 v446 v447 v448 v460 v461 v462 v463 v464 v465 (fun v466 v467 v468 v469 v470 v471 v472 v473 v474 v475 v476 =>
    bif v468 then
     bif room 64 (v449.length + ([(D2.mk v466 v474 v475 v467)]).length) then
      X1 v469 v470 v471 v472 v473 v476 v444 v445 v446 v447 v448 (v449 ++ ([(D2.mk v466 v474 v475 v467)]))
     else
      none
    else
     X1 v469 v470 v471 v472 v473 v476 v444 v445 v446 v447 v448 v449))
noncomputable def f88_j10 {R : Type} (k : Nat) (v81 v82 : Bool) (v83 : List Int) (v84 v85 v86 v87 : Int) (v88 : List D1) (v89 v90 : Int) (v91 v92 : Bool) (v93 : Int) (v94 : List D2) (v95 v96 v97 : Int) (v98 : Bool) (v99 : Int) (v100 : ByteArray) (v101 : Int) (v102 v103 : Bool) (X0 : List D2 → List Int → Int → Int → Int → Int → List D1 → Option R) (X1 : List Int → Int → Int → Int → Int → List D1 → Int → Int → Bool → Bool → Int → List D2 → Option R) : Option R :=
 bif v98 then
  f88_j12 k v81 v82 (IntKind.i64.wrap ((IntKind.i64.wrap (v84 + v96)) + v97)) (!v103) v83 v84 v85 v86 v87 v88 v89 v90 v91 v92 v93 v94 v95 v96 v97 v98 v99 v100 v101 v102 v103 (fun v129 v130 v131 v132 v133 v134 v135 v136 v137 v138 v139 v140 v141 v142 v143 v144 v145 v146 v147 v148 v149 v150 v151 v152 v153 =>
   f88_j13 k v129 v130 v131 v132 v133 v134 v135 v136 v137 v138 v139 v140 v141 v142 v143 v144 v145 v146 v147 v148 v149 v150 v151 v152 v153 (fun v415 v416 v417 v418 v419 v420 v421 v422 v423 v424 v425 v426 v427 v428 v429 v430 v431 v432 v433 v434 v435 v436 =>
    f88_j23 k v415 v416 v417 v418 v419 v420 v421 v422 v423 v424 v425 v426 v427 v428 v429 v430 v431 v432 v433 v434 v435 v436 X0 X1))
 else
  f88_j12 k v81 v82 (IntKind.i64.wrap ((IntKind.i64.wrap (v84 + v96)) + v97)) false v83 v84 v85 v86 v87 v88 v89 v90 v91 v92 v93 v94 v95 v96 v97 v98 v99 v100 v101 v102 v103 (fun v496 v497 v498 v499 v500 v501 v502 v503 v504 v505 v506 v507 v508 v509 v510 v511 v512 v513 v514 v515 v516 v517 v518 v519 v520 =>
   f88_j13 k v496 v497 v498 v499 v500 v501 v502 v503 v504 v505 v506 v507 v508 v509 v510 v511 v512 v513 v514 v515 v516 v517 v518 v519 v520 (fun v521 v522 v523 v524 v525 v526 v527 v528 v529 v530 v531 v532 v533 v534 v535 v536 v537 v538 v539 v540 v541 v542 =>
    f88_j23 k v521 v522 v523 v524 v525 v526 v527 v528 v529 v530 v531 v532 v533 v534 v535 v536 v537 v538 v539 v540 v541 v542 X0 X1))
noncomputable def f88_j9 {R : Type} (k : Nat) (v57 v58 : Bool) (v59 : List Int) (v60 v61 v62 v63 : Int) (v64 : List D1) (v65 v66 : Int) (v67 v68 : Bool) (v69 : Int) (v70 : List D2) (v71 v72 v73 : Int) (v74 : Bool) (v75 : Int) (v76 : ByteArray) (v77 : Int) (v78 v79 : Bool) (X0 : List D2 → List Int → Int → Int → Int → Int → List D1 → Option R) (X1 : List Int → Int → Int → Int → Int → List D1 → Int → Int → Bool → Bool → Int → List D2 → Option R) : Option R :=
 bif v68 then
  bif (!v58) then
   f68 k v75 v76 v77 v78 v79 v65 (fun v80 =>
    bif (!v80) then
     X0 v70 v59 v60 v61 v62 v63 v64
    else
     f88_j10 k v57 v58 v59 v60 v61 v62 v63 v64 v65 v66 v67 v68 v69 v70 v71 v72 v73 v74 v75 v76 v77 v78 v79 X0 X1)
  else
   f88_j10 k v57 v58 v59 v60 v61 v62 v63 v64 v65 v66 v67 v68 v69 v70 v71 v72 v73 v74 v75 v76 v77 v78 v79 X0 X1
 else
  f88_j10 k v57 v58 v59 v60 v61 v62 v63 v64 v65 v66 v67 v68 v69 v70 v71 v72 v73 v74 v75 v76 v77 v78 v79 X0 X1
noncomputable def f88_j5 {R : Type} (k : Nat) (v21 : Bool) (v22 : List Int) (v23 v24 v25 v26 : Int) (v27 : List D1) (v28 v29 : Int) (v30 v31 : Bool) (v32 : Int) (v33 : List D2) (X0 : List D2 → List Int → Int → Int → Int → Int → List D1 → Option R) (X1 : Bool → List Int → Int → Int → Int → Int → List D1 → Int → Int → Bool → Bool → Int → List D2 → Option R) : Option R :=
 f99_2 k v22 v23 v24 v25 v26 v27 (fun v34 v35 v36 v37 v38 v39 v40 v41 v42 v43 =>
  f56_2 k v38 v39 v40 v41 v42 v43 (fun v44 v45 v46 v47 v48 v49 v50 =>
   bif (!v44) then
    X0 v33 v45 v46 v47 v48 v49 v50
   else
    f25 k v34 (fun v51 v52 v53 v54 v55 v56 =>
     bif (!v56) then
      f88_j9 k v21 true v45 v46 v47 v48 v49 v50 v28 v29 v30 v31 v32 v33 v34 v35 v36 v37 v51 v52 v53 v54 v55 X0 (fun v626 v627 v628 v629 v630 v631 v632 v633 v634 v635 v636 v637 =>
      X1 false v626 v627 v628 v629 v630 v631 v632 v633 v634 v635 v636 v637)
     else
      f88_j9 k v21 (decide (v53 < 0)) v45 v46 v47 v48 v49 v50 v28 v29 v30 v31 v32 v33 v34 v35 v36 v37 v51 v52 v53 v54 v55 X0 (fun v645 v646 v647 v648 v649 v650 v651 v652 v653 v654 v655 v656 =>
      X1 false v645 v646 v647 v648 v649 v650 v651 v652 v653 v654 v655 v656))))
noncomputable def f88_l3 {R : Type} : Nat → Bool → List Int → Int → Int → Int → Int → List D1 → Int → Int → Bool → Bool → Int → List D2 → (List D2 → List Int → Int → Int → Int → Int → List D1 → Option R) → Option R
  | 0, _, _, _, _, _, _, _, _, _, _, _, _, _, _ => none
  | k + 1, v1, v2, v3, v4, v5, v6, v7, v8, v9, v10, v11, v12, v13, X0 =>
  bif decide (v3 < v9) then
   f56_2 k v2 v3 v4 v5 v6 v7 (fun v14 v15 v16 v17 v18 v19 v20 =>
    bif v14 then
     f88_j5 k v1 v15 v16 v17 v18 v19 v20 v8 v9 v10 v11 v12 v13 X0 (fun v664 v665 v666 v667 v668 v669 v670 v671 v672 v673 v674 v675 v676 =>
      f88_l3 k v664 v665 v666 v667 v668 v669 v670 v671 v672 v673 v674 v675 v676 X0)
    else
     X0 v13 v15 v16 v17 v18 v19 v20)
  else
   X0 v13 v2 v3 v4 v5 v6 v7
noncomputable def f88 {R : Type} (k : Nat) (a0 a1 : Int) (a2 a3 : Bool) (a4 : Int) (a5 : List Int) (a6 a7 a8 a9 : Int) (K : List Int → Int → Int → Int → Int → List D2 → List D1 → Option R) : Option R :=
 f88_l3 k true a5 a6 a7 a8 a9 ([] : List D1) a0 a1 a2 a3 a4 ([] : List D2) (fun v677 v678 v679 v680 v681 v682 v683 =>
  K v678 v679 v680 v681 v682 v677 v683)
noncomputable def f88_d {R : Type} (g : f88_T R) (e : Dr D R) : Dr D R := door [.ptr 0 0, .agg [.int .i64, .int .i64, .bool, .bool, .int .i64]] [.box [.list (.int .u8), .int .i64, .int .i64, .nil, .int .i64, .int .i64]] (fun (x : (Unit × (Int × Int × Bool × Bool × Int × Unit) × Unit)) (y : ((List Int × Int × Int × Unit × Int × Int × Unit) × Unit)) K => g x.2.1.1 x.2.1.2.1 x.2.1.2.2.1 x.2.1.2.2.2.1 x.2.1.2.2.2.2.1 y.1.1 y.1.2.1 y.1.2.2.1 y.1.2.2.2.2.1 y.1.2.2.2.2.2.1 (fun z0 z1 z2 z3 z4 z5 z6 => K ⟨.own 1, [some (.box [.list (.int .u8) z0, .int .i64 z1, .int .i64 z2, .own 2, .int .i64 z3, .int .i64 z4]), some (.row (.named 2) z5 true), some (.row (.named 1) z6 true)]⟩)) e
noncomputable def f88_o {R : Type} (k : Nat) : Orc D R := (orcAdd 101 (f101_3_d (f101_3 k) noDr) (orcAdd 68 (f68_d (f68 k) noDr) (orcAdd 100 (f100_d (f100 k) noDr) (orcAdd 99 (f99_2_d (f99_2 k) noDr) (orcAdd 87 (f87_2_d (f87_2 k) noDr) (orcAdd 56 (f56_2_d (f56_2 k) noDr) (orcAdd 25 (f25_d (f25 k) noDr) noOrc)))))))
theorem f88_o_ok {R : Type} (k : Nat) : OrcOk Try.prog cx (f88_o (R := R) k) := (OrcOk.add (f101_3_ok k FnOk.no) (OrcOk.add (f68_ok k FnOk.no) (OrcOk.add (f100_ok k FnOk.no) (OrcOk.add (f99_2_ok k FnOk.no) (OrcOk.add (f87_2_ok k FnOk.no) (OrcOk.add (f56_2_ok k FnOk.no) (OrcOk.add (f25_ok k FnOk.no) OrcOk.no)))))))
noncomputable def f88_b : Code := bodyOf Try.f88
noncomputable def f88_j12_a : LAnn := ⟨⟨[(.tmp 5, .own 137439002624 (.named 2)), (.cell 0 3, .own 137439002625 (.named 1))], [0, 3, 5, 6, 7, 8, 10, 11, 66], [0, 137439002625, 65600, 137439002624, 393344, 524432], []⟩, exOfJ (some ⟨[(.tmp 5, .own 137439003648 (.named 2)), (.cell 0 3, .own 137439003649 (.named 1))], [0, 3, 5, 6, 7, 8, 10, 11, 66], [0, 137439003649, 65600, 137439003648, 393344, 524432], []⟩) (none) []⟩
noncomputable def f88_j17_a : LAnn := ⟨⟨[(.tmp 5, .own 137439023104 (.named 2)), (.cell 0 3, .own 137439023105 (.named 1))], [0, 3, 5, 6, 7, 8, 10, 111], [0, 137439023105, 65600, 137439023104, 393344, 524432], []⟩, exOfJ (some ⟨[(.tmp 5, .own 137439024128 (.named 2)), (.cell 0 3, .own 137439024129 (.named 1))], [0, 3, 5, 7, 8, 10, 111], [0, 137439024129, 65600, 137439024128, 393344, 524432], []⟩) (none) []⟩
noncomputable def f88_j18_a : LAnn := ⟨⟨[(.tmp 5, .own 137439027200 (.named 2)), (.cell 0 3, .own 137439027201 (.named 1))], [0, 3, 5, 7, 8, 10, 111], [0, 137439027201, 65600, 137439027200, 393344, 524432], []⟩, exOfJ (some ⟨[(.tmp 5, .own 137439028224 (.named 2)), (.cell 0 3, .own 137439028225 (.named 1))], [0, 3, 5, 7, 8, 10], [0, 137439028225, 65600, 137439028224, 393344, 524432], []⟩) (none) []⟩
noncomputable def f88_j15_a : LAnn := ⟨⟨[(.tmp 5, .own 137439014912 (.named 2)), (.cell 0 3, .own 137439014913 (.named 1))], [0, 3, 5, 6, 7, 8, 10, 91], [0, 137439014913, 65600, 137439014912, 393344, 524432], []⟩, exOfJ (some ⟨[(.tmp 5, .own 137439015936 (.named 2)), (.cell 0 3, .own 137439015937 (.named 1))], [0, 3, 5, 7, 8, 10], [0, 137439015937, 65600, 137439015936, 393344, 524432], []⟩) (none) []⟩
noncomputable def f88_j13_a : LAnn := ⟨⟨[(.tmp 5, .own 137439006720 (.named 2)), (.cell 0 3, .own 137439006721 (.named 1))], [0, 3, 5, 6, 7, 8, 10, 11, 66], [0, 137439006721, 65600, 137439006720, 393344, 524432], []⟩, exOfJ (some ⟨[(.tmp 5, .own 137439007744 (.named 2)), (.cell 0 3, .own 137439007745 (.named 1))], [0, 3, 5, 7, 8, 10], [0, 137439007745, 65600, 137439007744, 393344, 524432], []⟩) (none) []⟩
noncomputable def f88_j23_a : LAnn := ⟨⟨[(.tmp 5, .own 137439047680 (.named 2)), (.cell 0 3, .own 137439047681 (.named 1))], [0, 3, 5, 7, 8, 10], [0, 137439047681, 65600, 137439047680, 393344, 524432], []⟩, exOfJ (some ⟨[(.tmp 5, .own 137439049728 (.named 2))], [0, 3, 5], [0, 1640946, 65600, 137439049728], []⟩) (none) [(0, ⟨[(.tmp 5, .own 137439048704 (.named 2)), (.cell 0 3, .own 137439048705 (.named 1))], [5], [137439048704, 0, 137439048705], []⟩)]⟩
noncomputable def f88_j10_a : LAnn := ⟨⟨[(.tmp 5, .own 137438994432 (.named 2)), (.cell 0 3, .own 137438994433 (.named 1))], [0, 3, 5, 6, 7, 8, 10], [0, 137438994433, 65600, 137438994432, 393344, 524432], []⟩, exOfJ (some ⟨[], [0, 3, 5], [0, 1640946, 65600, 137439049728], []⟩) (none) [(0, ⟨[(.tmp 5, .own 137438995456 (.named 2)), (.cell 0 3, .own 137438995457 (.named 1))], [5], [137438995456, 0, 137438995457], []⟩)]⟩
noncomputable def f88_j9_a : LAnn := ⟨⟨[(.tmp 5, .own 137438990336 (.named 2)), (.cell 0 3, .own 137438990337 (.named 1))], [0, 3, 5, 6, 7, 8, 10], [0, 137438990337, 65600, 137438990336, 393344, 524432], []⟩, exOfJ (some ⟨[], [0, 3, 5], [0, 1640946, 65600, 137439049728], []⟩) (none) [(0, ⟨[(.tmp 5, .own 137438991360 (.named 2)), (.cell 0 3, .own 137438991361 (.named 1))], [5], [137438991360, 0, 137438991361], []⟩)]⟩
noncomputable def f88_j5_a : LAnn := ⟨⟨[(.tmp 5, .own 137438973952 (.named 2)), (.cell 0 3, .own 137438973953 (.named 1))], [0, 3, 5, 6], [0, 137438973953, 65600, 137438973952], []⟩, exOfJ (some ⟨[], [0, 3, 5, 6], [0, 1640946, 65600, 137439049728], []⟩) (none) [(0, ⟨[(.tmp 5, .own 137438974976 (.named 2)), (.cell 0 3, .own 137438974977 (.named 1))], [5], [137438974976, 0, 137438974977], []⟩)]⟩
noncomputable def f88_l3_a : LAnn := ⟨⟨[(.tmp 5, .own 68719489024 (.named 2)), (.cell 0 3, .own 68719489025 (.named 1))], [0, 3, 5, 6], [0, 68719489025, 65600, 68719489024], []⟩, exOf (none) [(0, ⟨[(.tmp 5, .own 68719490048 (.named 2)), (.cell 0 3, .own 68719490049 (.named 1))], [5], [68719490048, 0, 68719490049], []⟩)]⟩
noncomputable def f88_ann : Nat → Option LAnn := fun key => bif Nat.beq key 3 then some f88_l3_a else bif Nat.beq key 1000005 then some f88_j5_a else bif Nat.beq key 1000009 then some f88_j9_a else bif Nat.beq key 1000010 then some f88_j10_a else bif Nat.beq key 1000023 then some f88_j23_a else bif Nat.beq key 1000013 then some f88_j13_a else bif Nat.beq key 1000015 then some f88_j15_a else bif Nat.beq key 1000018 then some f88_j18_a else bif Nat.beq key 1000017 then some f88_j17_a else bif Nat.beq key 1000012 then some f88_j12_a else none
noncomputable def f88_j12_b : Code := joinAt f88_ann f88_b 3
noncomputable def f88_j12_g {R : Type} (k : Nat) (x : (Unit × Unit × Unit × Bool × Unit × Unit × Bool × Int × Bool × Unit)) (y : ((List Int × Int × Int × Unit × Int × Int × Unit) × List D1 × (Int × Int × Bool × Bool × Int × Unit) × List D2 × (Int × Int × Int × Bool × Unit) × (Int × ByteArray × Int × Bool × Bool × Unit) × Unit)) (K : KX R) : Option R := f88_j12 k x.2.2.2.1 x.2.2.2.2.2.2.1 x.2.2.2.2.2.2.2.1 x.2.2.2.2.2.2.2.2.1 y.1.1 y.1.2.1 y.1.2.2.1 y.1.2.2.2.2.1 y.1.2.2.2.2.2.1 y.2.1 y.2.2.1.1 y.2.2.1.2.1 y.2.2.1.2.2.1 y.2.2.1.2.2.2.1 y.2.2.1.2.2.2.2.1 y.2.2.2.1 y.2.2.2.2.1.1 y.2.2.2.2.1.2.1 y.2.2.2.2.1.2.2.1 y.2.2.2.2.1.2.2.2.1 y.2.2.2.2.2.1.1 y.2.2.2.2.2.1.2.1 y.2.2.2.2.2.1.2.2.1 y.2.2.2.2.2.1.2.2.2.1 y.2.2.2.2.2.1.2.2.2.2.1 (fun z0 z1 z2 z3 z4 z5 z6 z7 z8 z9 z10 z11 z12 z13 z14 z15 z16 z17 z18 z19 z20 z21 z22 z23 z24 => K (.normal) [.ptr 0 0, .ptr 65600 0, .own 137439003648, .bool z0, .ptr 393344 0, .ptr 524432 0, .bool z1, .int .i64 z2, .bool z3] [some (.box [.list (.int .u8) z4, .int .i64 z5, .int .i64 z6, .own 137439003649, .int .i64 z7, .int .i64 z8]), some (.row (.named 1) z9 true), some (.box [.int .i64 z10, .int .i64 z11, .bool z12, .bool z13, .int .i64 z14]), some (.row (.named 2) z15 true), some (.box [.int .i64 z16, .int .i64 z17, .int .i64 z18, .bool z19]), some (.box [.int .i64 z20, .str z21, .int .i64 z22, .bool z23, .bool z24])])
noncomputable def f88_j12_d {R : Type} (k : Nat) : Lr D R := ldoor [.ptr 0 0, .ptr 65600 0, .own 137439002624, .bool, .ptr 393344 0, .ptr 524432 0, .bool, .int .i64, .bool] [some (.box [.list (.int .u8), .int .i64, .int .i64, .own 137439002625, .int .i64, .int .i64]), some (.row (.named 1) true), some (.box [.int .i64, .int .i64, .bool, .bool, .int .i64]), some (.row (.named 2) true), some (.box [.int .i64, .int .i64, .int .i64, .bool]), some (.box [.int .i64, .str, .int .i64, .bool, .bool])] (f88_j12_g k)
noncomputable def f88_j12_r {R : Type} (_k : Nat) : Lrc D R := noLrc
theorem f88_j12_d_ok {R : Type} (k : Nat) : JoinOk Try.prog cx 167 1 f88_ann (f88_j12_d (R := R) k) f88_j12_b :=
  join_ok (keep := kp) (lrc := f88_j12_r (R := R) k) cxOk mixed (f88_o_ok k) (show f88_ann (Am.keyOf f88_j12_b + 1000000) = some f88_j12_a by kernel_rfl) (L := []) (by kernel_rfl) trivial (J := []) (by kernel_rfl) trivial (LrcNat.no) (fun _x _y _K => by kernel_rfl)
noncomputable def f88_j17_b : Code := joinAt f88_ann f88_b 6
noncomputable def f88_j17_g {R : Type} (k : Nat) (x : (Unit × Unit × Unit × Bool × Unit × Unit × Bool × Bool × Unit)) (y : ((List Int × Int × Int × Unit × Int × Int × Unit) × List D1 × (Int × Int × Bool × Bool × Int × Unit) × List D2 × (Int × Int × Int × Bool × Unit) × (Int × ByteArray × Int × Bool × Bool × Unit) × Unit)) (K : KX R) : Option R := f88_j17 k x.2.2.2.1 x.2.2.2.2.2.2.1 x.2.2.2.2.2.2.2.1 y.1.1 y.1.2.1 y.1.2.2.1 y.1.2.2.2.2.1 y.1.2.2.2.2.2.1 y.2.1 y.2.2.1.1 y.2.2.1.2.1 y.2.2.1.2.2.1 y.2.2.1.2.2.2.1 y.2.2.1.2.2.2.2.1 y.2.2.2.1 y.2.2.2.2.1.1 y.2.2.2.2.1.2.1 y.2.2.2.2.1.2.2.1 y.2.2.2.2.1.2.2.2.1 y.2.2.2.2.2.1.1 y.2.2.2.2.2.1.2.1 y.2.2.2.2.2.1.2.2.1 y.2.2.2.2.2.1.2.2.2.1 y.2.2.2.2.2.1.2.2.2.2.1 (fun z0 z1 z2 z3 z4 z5 z6 z7 z8 z9 z10 z11 z12 z13 z14 z15 z16 z17 z18 z19 z20 z21 z22 => K (.normal) [.ptr 0 0, .ptr 65600 0, .own 137439024128, .ptr 393344 0, .ptr 524432 0, .bool z0, .bool z1] [some (.box [.list (.int .u8) z2, .int .i64 z3, .int .i64 z4, .own 137439024129, .int .i64 z5, .int .i64 z6]), some (.row (.named 1) z7 true), some (.box [.int .i64 z8, .int .i64 z9, .bool z10, .bool z11, .int .i64 z12]), some (.row (.named 2) z13 true), some (.box [.int .i64 z14, .int .i64 z15, .int .i64 z16, .bool z17]), some (.box [.int .i64 z18, .str z19, .int .i64 z20, .bool z21, .bool z22])])
noncomputable def f88_j17_d {R : Type} (k : Nat) : Lr D R := ldoor [.ptr 0 0, .ptr 65600 0, .own 137439023104, .bool, .ptr 393344 0, .ptr 524432 0, .bool, .bool] [some (.box [.list (.int .u8), .int .i64, .int .i64, .own 137439023105, .int .i64, .int .i64]), some (.row (.named 1) true), some (.box [.int .i64, .int .i64, .bool, .bool, .int .i64]), some (.row (.named 2) true), some (.box [.int .i64, .int .i64, .int .i64, .bool]), some (.box [.int .i64, .str, .int .i64, .bool, .bool])] (f88_j17_g k)
noncomputable def f88_j17_r {R : Type} (_k : Nat) : Lrc D R := noLrc
theorem f88_j17_d_ok {R : Type} (k : Nat) : JoinOk Try.prog cx 167 1 f88_ann (f88_j17_d (R := R) k) f88_j17_b :=
  join_ok (keep := kp) (lrc := f88_j17_r (R := R) k) cxOk mixed (f88_o_ok k) (show f88_ann (Am.keyOf f88_j17_b + 1000000) = some f88_j17_a by kernel_rfl) (L := []) (by kernel_rfl) trivial (J := []) (by kernel_rfl) trivial (LrcNat.no) (fun _x _y _K => by kernel_rfl)
noncomputable def f88_j18_b : Code := joinAt f88_ann f88_b 7
noncomputable def f88_j18_g {R : Type} (k : Nat) (x : (Unit × Unit × Unit × Unit × Unit × Bool × Bool × Unit)) (y : ((List Int × Int × Int × Unit × Int × Int × Unit) × List D1 × (Int × Int × Bool × Bool × Int × Unit) × List D2 × (Int × Int × Int × Bool × Unit) × (Int × ByteArray × Int × Bool × Bool × Unit) × Unit)) (K : KX R) : Option R := f88_j18 k x.2.2.2.2.2.1 x.2.2.2.2.2.2.1 y.1.1 y.1.2.1 y.1.2.2.1 y.1.2.2.2.2.1 y.1.2.2.2.2.2.1 y.2.1 y.2.2.1.1 y.2.2.1.2.1 y.2.2.1.2.2.1 y.2.2.1.2.2.2.1 y.2.2.1.2.2.2.2.1 y.2.2.2.1 y.2.2.2.2.1.1 y.2.2.2.2.1.2.1 y.2.2.2.2.1.2.2.1 y.2.2.2.2.1.2.2.2.1 y.2.2.2.2.2.1.1 y.2.2.2.2.2.1.2.1 y.2.2.2.2.2.1.2.2.1 y.2.2.2.2.2.1.2.2.2.1 y.2.2.2.2.2.1.2.2.2.2.1 (fun z0 z1 z2 z3 z4 z5 z6 z7 z8 z9 z10 z11 z12 z13 z14 z15 z16 z17 z18 z19 z20 z21 => K (.normal) [.ptr 0 0, .ptr 65600 0, .own 137439028224, .ptr 393344 0, .ptr 524432 0, .bool z0] [some (.box [.list (.int .u8) z1, .int .i64 z2, .int .i64 z3, .own 137439028225, .int .i64 z4, .int .i64 z5]), some (.row (.named 1) z6 true), some (.box [.int .i64 z7, .int .i64 z8, .bool z9, .bool z10, .int .i64 z11]), some (.row (.named 2) z12 true), some (.box [.int .i64 z13, .int .i64 z14, .int .i64 z15, .bool z16]), some (.box [.int .i64 z17, .str z18, .int .i64 z19, .bool z20, .bool z21])])
noncomputable def f88_j18_d {R : Type} (k : Nat) : Lr D R := ldoor [.ptr 0 0, .ptr 65600 0, .own 137439027200, .ptr 393344 0, .ptr 524432 0, .bool, .bool] [some (.box [.list (.int .u8), .int .i64, .int .i64, .own 137439027201, .int .i64, .int .i64]), some (.row (.named 1) true), some (.box [.int .i64, .int .i64, .bool, .bool, .int .i64]), some (.row (.named 2) true), some (.box [.int .i64, .int .i64, .int .i64, .bool]), some (.box [.int .i64, .str, .int .i64, .bool, .bool])] (f88_j18_g k)
noncomputable def f88_j18_r {R : Type} (_k : Nat) : Lrc D R := noLrc
theorem f88_j18_d_ok {R : Type} (k : Nat) : JoinOk Try.prog cx 167 1 f88_ann (f88_j18_d (R := R) k) f88_j18_b :=
  join_ok (keep := kp) (lrc := f88_j18_r (R := R) k) cxOk mixed (f88_o_ok k) (show f88_ann (Am.keyOf f88_j18_b + 1000000) = some f88_j18_a by kernel_rfl) (L := []) (by kernel_rfl) trivial (J := []) (by kernel_rfl) trivial (LrcNat.no) (fun _x _y _K => by kernel_rfl)
noncomputable def f88_j15_b : Code := joinAt f88_ann f88_b 5
noncomputable def f88_j15_g {R : Type} (k : Nat) (x : (Unit × Unit × Unit × Bool × Unit × Unit × Bool × Bool × Unit)) (y : ((List Int × Int × Int × Unit × Int × Int × Unit) × List D1 × (Int × Int × Bool × Bool × Int × Unit) × List D2 × (Int × Int × Int × Bool × Unit) × (Int × ByteArray × Int × Bool × Bool × Unit) × Unit)) (K : KX R) : Option R := f88_j15 k x.2.2.2.1 x.2.2.2.2.2.2.1 x.2.2.2.2.2.2.2.1 y.1.1 y.1.2.1 y.1.2.2.1 y.1.2.2.2.2.1 y.1.2.2.2.2.2.1 y.2.1 y.2.2.1.1 y.2.2.1.2.1 y.2.2.1.2.2.1 y.2.2.1.2.2.2.1 y.2.2.1.2.2.2.2.1 y.2.2.2.1 y.2.2.2.2.1.1 y.2.2.2.2.1.2.1 y.2.2.2.2.1.2.2.1 y.2.2.2.2.1.2.2.2.1 y.2.2.2.2.2.1.1 y.2.2.2.2.2.1.2.1 y.2.2.2.2.2.1.2.2.1 y.2.2.2.2.2.1.2.2.2.1 y.2.2.2.2.2.1.2.2.2.2.1 (fun z0 z1 z2 z3 z4 z5 z6 z7 z8 z9 z10 z11 z12 z13 z14 z15 z16 z17 z18 z19 z20 z21 => K (.normal) [.ptr 0 0, .ptr 65600 0, .own 137439015936, .ptr 393344 0, .ptr 524432 0, .bool z0] [some (.box [.list (.int .u8) z1, .int .i64 z2, .int .i64 z3, .own 137439015937, .int .i64 z4, .int .i64 z5]), some (.row (.named 1) z6 true), some (.box [.int .i64 z7, .int .i64 z8, .bool z9, .bool z10, .int .i64 z11]), some (.row (.named 2) z12 true), some (.box [.int .i64 z13, .int .i64 z14, .int .i64 z15, .bool z16]), some (.box [.int .i64 z17, .str z18, .int .i64 z19, .bool z20, .bool z21])])
noncomputable def f88_j15_d {R : Type} (k : Nat) : Lr D R := ldoor [.ptr 0 0, .ptr 65600 0, .own 137439014912, .bool, .ptr 393344 0, .ptr 524432 0, .bool, .bool] [some (.box [.list (.int .u8), .int .i64, .int .i64, .own 137439014913, .int .i64, .int .i64]), some (.row (.named 1) true), some (.box [.int .i64, .int .i64, .bool, .bool, .int .i64]), some (.row (.named 2) true), some (.box [.int .i64, .int .i64, .int .i64, .bool]), some (.box [.int .i64, .str, .int .i64, .bool, .bool])] (f88_j15_g k)
noncomputable def f88_j15_r {R : Type} (k : Nat) : Lrc D R := (lrcAdd 1000018 (f88_j18_d k) (lrcAdd 1000017 (f88_j17_d k) noLrc))
theorem f88_j15_d_ok {R : Type} (k : Nat) : JoinOk Try.prog cx 167 1 f88_ann (f88_j15_d (R := R) k) f88_j15_b :=
  join_ok (keep := kp) (lrc := f88_j15_r (R := R) k) cxOk mixed (f88_o_ok k) (show f88_ann (Am.keyOf f88_j15_b + 1000000) = some f88_j15_a by kernel_rfl) (L := []) (by kernel_rfl) trivial (J := [f88_j17_b, f88_j18_b]) (by kernel_rfl) (⟨(f88_j17_d_ok k).use (by kernel_rfl), (f88_j18_d_ok k).use (by kernel_rfl), trivial⟩) ((LrcNat.add (f88_j18_d_ok k).2 (LrcNat.add (f88_j17_d_ok k).2 LrcNat.no))) (fun _x _y _K => by kernel_rfl)
noncomputable def f88_j13_b : Code := joinAt f88_ann f88_b 4
noncomputable def f88_j13_g {R : Type} (k : Nat) (x : (Unit × Unit × Unit × Bool × Unit × Unit × Bool × Int × Bool × Unit)) (y : ((List Int × Int × Int × Unit × Int × Int × Unit) × List D1 × (Int × Int × Bool × Bool × Int × Unit) × List D2 × (Int × Int × Int × Bool × Unit) × (Int × ByteArray × Int × Bool × Bool × Unit) × Unit)) (K : KX R) : Option R := f88_j13 k x.2.2.2.1 x.2.2.2.2.2.2.1 x.2.2.2.2.2.2.2.1 x.2.2.2.2.2.2.2.2.1 y.1.1 y.1.2.1 y.1.2.2.1 y.1.2.2.2.2.1 y.1.2.2.2.2.2.1 y.2.1 y.2.2.1.1 y.2.2.1.2.1 y.2.2.1.2.2.1 y.2.2.1.2.2.2.1 y.2.2.1.2.2.2.2.1 y.2.2.2.1 y.2.2.2.2.1.1 y.2.2.2.2.1.2.1 y.2.2.2.2.1.2.2.1 y.2.2.2.2.1.2.2.2.1 y.2.2.2.2.2.1.1 y.2.2.2.2.2.1.2.1 y.2.2.2.2.2.1.2.2.1 y.2.2.2.2.2.1.2.2.2.1 y.2.2.2.2.2.1.2.2.2.2.1 (fun z0 z1 z2 z3 z4 z5 z6 z7 z8 z9 z10 z11 z12 z13 z14 z15 z16 z17 z18 z19 z20 z21 => K (.normal) [.ptr 0 0, .ptr 65600 0, .own 137439007744, .ptr 393344 0, .ptr 524432 0, .bool z0] [some (.box [.list (.int .u8) z1, .int .i64 z2, .int .i64 z3, .own 137439007745, .int .i64 z4, .int .i64 z5]), some (.row (.named 1) z6 true), some (.box [.int .i64 z7, .int .i64 z8, .bool z9, .bool z10, .int .i64 z11]), some (.row (.named 2) z12 true), some (.box [.int .i64 z13, .int .i64 z14, .int .i64 z15, .bool z16]), some (.box [.int .i64 z17, .str z18, .int .i64 z19, .bool z20, .bool z21])])
noncomputable def f88_j13_d {R : Type} (k : Nat) : Lr D R := ldoor [.ptr 0 0, .ptr 65600 0, .own 137439006720, .bool, .ptr 393344 0, .ptr 524432 0, .bool, .int .i64, .bool] [some (.box [.list (.int .u8), .int .i64, .int .i64, .own 137439006721, .int .i64, .int .i64]), some (.row (.named 1) true), some (.box [.int .i64, .int .i64, .bool, .bool, .int .i64]), some (.row (.named 2) true), some (.box [.int .i64, .int .i64, .int .i64, .bool]), some (.box [.int .i64, .str, .int .i64, .bool, .bool])] (f88_j13_g k)
noncomputable def f88_j13_r {R : Type} (k : Nat) : Lrc D R := (lrcAdd 1000018 (f88_j18_d k) (lrcAdd 1000017 (f88_j17_d k) (lrcAdd 1000015 (f88_j15_d k) noLrc)))
theorem f88_j13_d_ok {R : Type} (k : Nat) : JoinOk Try.prog cx 167 1 f88_ann (f88_j13_d (R := R) k) f88_j13_b :=
  join_ok (keep := kp) (lrc := f88_j13_r (R := R) k) cxOk mixed (f88_o_ok k) (show f88_ann (Am.keyOf f88_j13_b + 1000000) = some f88_j13_a by kernel_rfl) (L := []) (by kernel_rfl) trivial (J := [f88_j15_b, f88_j17_b, f88_j18_b]) (by kernel_rfl) (⟨(f88_j15_d_ok k).use (by kernel_rfl), (f88_j17_d_ok k).use (by kernel_rfl), (f88_j18_d_ok k).use (by kernel_rfl), trivial⟩) ((LrcNat.add (f88_j18_d_ok k).2 (LrcNat.add (f88_j17_d_ok k).2 (LrcNat.add (f88_j15_d_ok k).2 LrcNat.no)))) (fun _x _y _K => by kernel_rfl)
noncomputable def f88_j23_b : Code := joinAt f88_ann f88_b 8
noncomputable def f88_j23_g {R : Type} (k : Nat) (x : (Unit × Unit × Unit × Unit × Unit × Bool × Unit)) (y : ((List Int × Int × Int × Unit × Int × Int × Unit) × List D1 × (Int × Int × Bool × Bool × Int × Unit) × List D2 × (Int × Int × Int × Bool × Unit) × (Int × ByteArray × Int × Bool × Bool × Unit) × Unit)) (K : KX R) : Option R := f88_j23 k x.2.2.2.2.2.1 y.1.1 y.1.2.1 y.1.2.2.1 y.1.2.2.2.2.1 y.1.2.2.2.2.2.1 y.2.1 y.2.2.1.1 y.2.2.1.2.1 y.2.2.1.2.2.1 y.2.2.1.2.2.2.1 y.2.2.1.2.2.2.2.1 y.2.2.2.1 y.2.2.2.2.1.1 y.2.2.2.2.1.2.1 y.2.2.2.2.1.2.2.1 y.2.2.2.2.1.2.2.2.1 y.2.2.2.2.2.1.1 y.2.2.2.2.2.1.2.1 y.2.2.2.2.2.1.2.2.1 y.2.2.2.2.2.1.2.2.2.1 y.2.2.2.2.2.1.2.2.2.2.1 (fun z0 z1 z2 z3 z4 z5 z6 => K (.exit 0) [.own 137439048704] [some (.row (.named 2) z0 true), some (.box [.list (.int .u8) z1, .int .i64 z2, .int .i64 z3, .own 137439048705, .int .i64 z4, .int .i64 z5]), some (.row (.named 1) z6 true)]) (fun z0 z1 z2 z3 z4 z5 z6 z7 z8 z9 z10 z11 => K (.normal) [.ptr 0 0, .ptr 65600 0, .own 137439049728] [some (.box [.list (.int .u8) z0, .int .i64 z1, .int .i64 z2, .own 1640946, .int .i64 z3, .int .i64 z4]), some (.row (.named 1) z5 true), some (.box [.int .i64 z6, .int .i64 z7, .bool z8, .bool z9, .int .i64 z10]), some (.row (.named 2) z11 true)])
noncomputable def f88_j23_d {R : Type} (k : Nat) : Lr D R := ldoor [.ptr 0 0, .ptr 65600 0, .own 137439047680, .ptr 393344 0, .ptr 524432 0, .bool] [some (.box [.list (.int .u8), .int .i64, .int .i64, .own 137439047681, .int .i64, .int .i64]), some (.row (.named 1) true), some (.box [.int .i64, .int .i64, .bool, .bool, .int .i64]), some (.row (.named 2) true), some (.box [.int .i64, .int .i64, .int .i64, .bool]), some (.box [.int .i64, .str, .int .i64, .bool, .bool])] (f88_j23_g k)
noncomputable def f88_j23_r {R : Type} (_k : Nat) : Lrc D R := noLrc
theorem f88_j23_d_ok {R : Type} (k : Nat) : JoinOk Try.prog cx 167 1 f88_ann (f88_j23_d (R := R) k) f88_j23_b :=
  join_ok (keep := kp) (lrc := f88_j23_r (R := R) k) cxOk mixed (f88_o_ok k) (show f88_ann (Am.keyOf f88_j23_b + 1000000) = some f88_j23_a by kernel_rfl) (L := []) (by kernel_rfl) trivial (J := []) (by kernel_rfl) trivial (LrcNat.no) (fun _x _y _K => by kernel_rfl)
noncomputable def f88_j10_b : Code := joinAt f88_ann f88_b 2
noncomputable def f88_j10_g {R : Type} (k : Nat) (x : (Unit × Unit × Unit × Bool × Unit × Unit × Bool × Unit)) (y : ((List Int × Int × Int × Unit × Int × Int × Unit) × List D1 × (Int × Int × Bool × Bool × Int × Unit) × List D2 × (Int × Int × Int × Bool × Unit) × (Int × ByteArray × Int × Bool × Bool × Unit) × Unit)) (K : KX R) : Option R := f88_j10 k x.2.2.2.1 x.2.2.2.2.2.2.1 y.1.1 y.1.2.1 y.1.2.2.1 y.1.2.2.2.2.1 y.1.2.2.2.2.2.1 y.2.1 y.2.2.1.1 y.2.2.1.2.1 y.2.2.1.2.2.1 y.2.2.1.2.2.2.1 y.2.2.1.2.2.2.2.1 y.2.2.2.1 y.2.2.2.2.1.1 y.2.2.2.2.1.2.1 y.2.2.2.2.1.2.2.1 y.2.2.2.2.1.2.2.2.1 y.2.2.2.2.2.1.1 y.2.2.2.2.2.1.2.1 y.2.2.2.2.2.1.2.2.1 y.2.2.2.2.2.1.2.2.2.1 y.2.2.2.2.2.1.2.2.2.2.1 (fun z0 z1 z2 z3 z4 z5 z6 => K (.exit 0) [.own 137438995456] [some (.row (.named 2) z0 true), some (.box [.list (.int .u8) z1, .int .i64 z2, .int .i64 z3, .own 137438995457, .int .i64 z4, .int .i64 z5]), some (.row (.named 1) z6 true)]) (fun z0 z1 z2 z3 z4 z5 z6 z7 z8 z9 z10 z11 => K (.normal) [.ptr 0 0, .ptr 65600 0, .own 137439049728] [some (.box [.list (.int .u8) z0, .int .i64 z1, .int .i64 z2, .own 1640946, .int .i64 z3, .int .i64 z4]), some (.row (.named 1) z5 true), some (.box [.int .i64 z6, .int .i64 z7, .bool z8, .bool z9, .int .i64 z10]), some (.row (.named 2) z11 true)])
noncomputable def f88_j10_d {R : Type} (k : Nat) : Lr D R := ldoor [.ptr 0 0, .ptr 65600 0, .own 137438994432, .bool, .ptr 393344 0, .ptr 524432 0, .bool] [some (.box [.list (.int .u8), .int .i64, .int .i64, .own 137438994433, .int .i64, .int .i64]), some (.row (.named 1) true), some (.box [.int .i64, .int .i64, .bool, .bool, .int .i64]), some (.row (.named 2) true), some (.box [.int .i64, .int .i64, .int .i64, .bool]), some (.box [.int .i64, .str, .int .i64, .bool, .bool])] (f88_j10_g k)
noncomputable def f88_j10_r {R : Type} (k : Nat) : Lrc D R := (lrcAdd 1000023 (f88_j23_d k) (lrcAdd 1000018 (f88_j18_d k) (lrcAdd 1000017 (f88_j17_d k) (lrcAdd 1000015 (f88_j15_d k) (lrcAdd 1000013 (f88_j13_d k) (lrcAdd 1000012 (f88_j12_d k) noLrc))))))
theorem f88_j10_d_ok {R : Type} (k : Nat) : JoinOk Try.prog cx 167 1 f88_ann (f88_j10_d (R := R) k) f88_j10_b :=
  join_ok (keep := kp) (lrc := f88_j10_r (R := R) k) cxOk mixed (f88_o_ok k) (show f88_ann (Am.keyOf f88_j10_b + 1000000) = some f88_j10_a by kernel_rfl) (L := []) (by kernel_rfl) trivial (J := [f88_j12_b, f88_j13_b, f88_j15_b, f88_j17_b, f88_j18_b, f88_j23_b]) (by kernel_rfl) (⟨(f88_j12_d_ok k).use (by kernel_rfl), (f88_j13_d_ok k).use (by kernel_rfl), (f88_j15_d_ok k).use (by kernel_rfl), (f88_j17_d_ok k).use (by kernel_rfl), (f88_j18_d_ok k).use (by kernel_rfl), (f88_j23_d_ok k).use (by kernel_rfl), trivial⟩) ((LrcNat.add (f88_j23_d_ok k).2 (LrcNat.add (f88_j18_d_ok k).2 (LrcNat.add (f88_j17_d_ok k).2 (LrcNat.add (f88_j15_d_ok k).2 (LrcNat.add (f88_j13_d_ok k).2 (LrcNat.add (f88_j12_d_ok k).2 LrcNat.no))))))) (fun _x _y _K => by kernel_rfl)
noncomputable def f88_j9_b : Code := joinAt f88_ann f88_b 1
noncomputable def f88_j9_g {R : Type} (k : Nat) (x : (Unit × Unit × Unit × Bool × Unit × Unit × Bool × Unit)) (y : ((List Int × Int × Int × Unit × Int × Int × Unit) × List D1 × (Int × Int × Bool × Bool × Int × Unit) × List D2 × (Int × Int × Int × Bool × Unit) × (Int × ByteArray × Int × Bool × Bool × Unit) × Unit)) (K : KX R) : Option R := f88_j9 k x.2.2.2.1 x.2.2.2.2.2.2.1 y.1.1 y.1.2.1 y.1.2.2.1 y.1.2.2.2.2.1 y.1.2.2.2.2.2.1 y.2.1 y.2.2.1.1 y.2.2.1.2.1 y.2.2.1.2.2.1 y.2.2.1.2.2.2.1 y.2.2.1.2.2.2.2.1 y.2.2.2.1 y.2.2.2.2.1.1 y.2.2.2.2.1.2.1 y.2.2.2.2.1.2.2.1 y.2.2.2.2.1.2.2.2.1 y.2.2.2.2.2.1.1 y.2.2.2.2.2.1.2.1 y.2.2.2.2.2.1.2.2.1 y.2.2.2.2.2.1.2.2.2.1 y.2.2.2.2.2.1.2.2.2.2.1 (fun z0 z1 z2 z3 z4 z5 z6 => K (.exit 0) [.own 137438991360] [some (.row (.named 2) z0 true), some (.box [.list (.int .u8) z1, .int .i64 z2, .int .i64 z3, .own 137438991361, .int .i64 z4, .int .i64 z5]), some (.row (.named 1) z6 true)]) (fun z0 z1 z2 z3 z4 z5 z6 z7 z8 z9 z10 z11 => K (.normal) [.ptr 0 0, .ptr 65600 0, .own 137439049728] [some (.box [.list (.int .u8) z0, .int .i64 z1, .int .i64 z2, .own 1640946, .int .i64 z3, .int .i64 z4]), some (.row (.named 1) z5 true), some (.box [.int .i64 z6, .int .i64 z7, .bool z8, .bool z9, .int .i64 z10]), some (.row (.named 2) z11 true)])
noncomputable def f88_j9_d {R : Type} (k : Nat) : Lr D R := ldoor [.ptr 0 0, .ptr 65600 0, .own 137438990336, .bool, .ptr 393344 0, .ptr 524432 0, .bool] [some (.box [.list (.int .u8), .int .i64, .int .i64, .own 137438990337, .int .i64, .int .i64]), some (.row (.named 1) true), some (.box [.int .i64, .int .i64, .bool, .bool, .int .i64]), some (.row (.named 2) true), some (.box [.int .i64, .int .i64, .int .i64, .bool]), some (.box [.int .i64, .str, .int .i64, .bool, .bool])] (f88_j9_g k)
noncomputable def f88_j9_r {R : Type} (k : Nat) : Lrc D R := (lrcAdd 1000023 (f88_j23_d k) (lrcAdd 1000018 (f88_j18_d k) (lrcAdd 1000017 (f88_j17_d k) (lrcAdd 1000015 (f88_j15_d k) (lrcAdd 1000013 (f88_j13_d k) (lrcAdd 1000012 (f88_j12_d k) (lrcAdd 1000010 (f88_j10_d k) noLrc)))))))
theorem f88_j9_d_ok {R : Type} (k : Nat) : JoinOk Try.prog cx 167 1 f88_ann (f88_j9_d (R := R) k) f88_j9_b :=
  join_ok (keep := kp) (lrc := f88_j9_r (R := R) k) cxOk mixed (f88_o_ok k) (show f88_ann (Am.keyOf f88_j9_b + 1000000) = some f88_j9_a by kernel_rfl) (L := []) (by kernel_rfl) trivial (J := [f88_j10_b, f88_j12_b, f88_j13_b, f88_j15_b, f88_j17_b, f88_j18_b, f88_j23_b]) (by kernel_rfl) (⟨(f88_j10_d_ok k).use (by kernel_rfl), (f88_j12_d_ok k).use (by kernel_rfl), (f88_j13_d_ok k).use (by kernel_rfl), (f88_j15_d_ok k).use (by kernel_rfl), (f88_j17_d_ok k).use (by kernel_rfl), (f88_j18_d_ok k).use (by kernel_rfl), (f88_j23_d_ok k).use (by kernel_rfl), trivial⟩) ((LrcNat.add (f88_j23_d_ok k).2 (LrcNat.add (f88_j18_d_ok k).2 (LrcNat.add (f88_j17_d_ok k).2 (LrcNat.add (f88_j15_d_ok k).2 (LrcNat.add (f88_j13_d_ok k).2 (LrcNat.add (f88_j12_d_ok k).2 (LrcNat.add (f88_j10_d_ok k).2 LrcNat.no)))))))) (fun _x _y _K => by kernel_rfl)
noncomputable def f88_j5_b : Code := joinAt f88_ann f88_b 0
noncomputable def f88_j5_g {R : Type} (k : Nat) (x : (Unit × Unit × Unit × Bool × Unit)) (y : ((List Int × Int × Int × Unit × Int × Int × Unit) × List D1 × (Int × Int × Bool × Bool × Int × Unit) × List D2 × Unit)) (K : KX R) : Option R := f88_j5 k x.2.2.2.1 y.1.1 y.1.2.1 y.1.2.2.1 y.1.2.2.2.2.1 y.1.2.2.2.2.2.1 y.2.1 y.2.2.1.1 y.2.2.1.2.1 y.2.2.1.2.2.1 y.2.2.1.2.2.2.1 y.2.2.1.2.2.2.2.1 y.2.2.2.1 (fun z0 z1 z2 z3 z4 z5 z6 => K (.exit 0) [.own 137438974976] [some (.row (.named 2) z0 true), some (.box [.list (.int .u8) z1, .int .i64 z2, .int .i64 z3, .own 137438974977, .int .i64 z4, .int .i64 z5]), some (.row (.named 1) z6 true)]) (fun z0 z1 z2 z3 z4 z5 z6 z7 z8 z9 z10 z11 z12 => K (.normal) [.ptr 0 0, .ptr 65600 0, .own 137439049728, .bool z0] [some (.box [.list (.int .u8) z1, .int .i64 z2, .int .i64 z3, .own 1640946, .int .i64 z4, .int .i64 z5]), some (.row (.named 1) z6 true), some (.box [.int .i64 z7, .int .i64 z8, .bool z9, .bool z10, .int .i64 z11]), some (.row (.named 2) z12 true)])
noncomputable def f88_j5_d {R : Type} (k : Nat) : Lr D R := ldoor [.ptr 0 0, .ptr 65600 0, .own 137438973952, .bool] [some (.box [.list (.int .u8), .int .i64, .int .i64, .own 137438973953, .int .i64, .int .i64]), some (.row (.named 1) true), some (.box [.int .i64, .int .i64, .bool, .bool, .int .i64]), some (.row (.named 2) true)] (f88_j5_g k)
noncomputable def f88_j5_r {R : Type} (k : Nat) : Lrc D R := (lrcAdd 1000023 (f88_j23_d k) (lrcAdd 1000018 (f88_j18_d k) (lrcAdd 1000017 (f88_j17_d k) (lrcAdd 1000015 (f88_j15_d k) (lrcAdd 1000013 (f88_j13_d k) (lrcAdd 1000012 (f88_j12_d k) (lrcAdd 1000010 (f88_j10_d k) (lrcAdd 1000009 (f88_j9_d k) noLrc))))))))
theorem f88_j5_d_ok {R : Type} (k : Nat) : JoinOk Try.prog cx 167 1 f88_ann (f88_j5_d (R := R) k) f88_j5_b :=
  join_ok (keep := kp) (lrc := f88_j5_r (R := R) k) cxOk mixed (f88_o_ok k) (show f88_ann (Am.keyOf f88_j5_b + 1000000) = some f88_j5_a by kernel_rfl) (L := []) (by kernel_rfl) trivial (J := [f88_j9_b, f88_j10_b, f88_j12_b, f88_j13_b, f88_j15_b, f88_j17_b, f88_j18_b, f88_j23_b]) (by kernel_rfl) (⟨(f88_j9_d_ok k).use (by kernel_rfl), (f88_j10_d_ok k).use (by kernel_rfl), (f88_j12_d_ok k).use (by kernel_rfl), (f88_j13_d_ok k).use (by kernel_rfl), (f88_j15_d_ok k).use (by kernel_rfl), (f88_j17_d_ok k).use (by kernel_rfl), (f88_j18_d_ok k).use (by kernel_rfl), (f88_j23_d_ok k).use (by kernel_rfl), trivial⟩) ((LrcNat.add (f88_j23_d_ok k).2 (LrcNat.add (f88_j18_d_ok k).2 (LrcNat.add (f88_j17_d_ok k).2 (LrcNat.add (f88_j15_d_ok k).2 (LrcNat.add (f88_j13_d_ok k).2 (LrcNat.add (f88_j12_d_ok k).2 (LrcNat.add (f88_j10_d_ok k).2 (LrcNat.add (f88_j9_d_ok k).2 LrcNat.no))))))))) (fun _x _y _K => by kernel_rfl)
noncomputable def f88_l3_b : Code := loopAt f88_b 0
noncomputable def f88_l3_g {R : Type} (k : Nat) (x : (Unit × Unit × Unit × Bool × Unit)) (y : ((List Int × Int × Int × Unit × Int × Int × Unit) × List D1 × (Int × Int × Bool × Bool × Int × Unit) × List D2 × Unit)) (K : KX R) : Option R := f88_l3 k x.2.2.2.1 y.1.1 y.1.2.1 y.1.2.2.1 y.1.2.2.2.2.1 y.1.2.2.2.2.2.1 y.2.1 y.2.2.1.1 y.2.2.1.2.1 y.2.2.1.2.2.1 y.2.2.1.2.2.2.1 y.2.2.1.2.2.2.2.1 y.2.2.2.1 (fun z0 z1 z2 z3 z4 z5 z6 => K (.exit 0) [.own 68719490048] [some (.row (.named 2) z0 true), some (.box [.list (.int .u8) z1, .int .i64 z2, .int .i64 z3, .own 68719490049, .int .i64 z4, .int .i64 z5]), some (.row (.named 1) z6 true)])
noncomputable def f88_l3_d {R : Type} (k : Nat) : Lr D R := ldoor [.ptr 0 0, .ptr 65600 0, .own 68719489024, .bool] [some (.box [.list (.int .u8), .int .i64, .int .i64, .own 68719489025, .int .i64, .int .i64]), some (.row (.named 1) true), some (.box [.int .i64, .int .i64, .bool, .bool, .int .i64]), some (.row (.named 2) true)] (f88_l3_g k)
noncomputable def f88_l3_r {R : Type} (k : Nat) : Lrc D R := (lrcAdd 1000023 (f88_j23_d k) (lrcAdd 1000018 (f88_j18_d k) (lrcAdd 1000017 (f88_j17_d k) (lrcAdd 1000015 (f88_j15_d k) (lrcAdd 1000013 (f88_j13_d k) (lrcAdd 1000012 (f88_j12_d k) (lrcAdd 1000010 (f88_j10_d k) (lrcAdd 1000009 (f88_j9_d k) (lrcAdd 1000005 (f88_j5_d k) noLrc)))))))))
theorem f88_l3_d_ok {R : Type} : ∀ k, LoopOk Try.prog cx 167 1 f88_ann (f88_l3_d (R := R) k) f88_l3_b :=
  loop_ok (keep := kp) (lrc := f88_l3_r (R := R)) cxOk mixed (f88_o_ok) (show f88_ann (Am.keyOf f88_l3_b) = some f88_l3_a by kernel_rfl) (L := []) (by kernel_rfl) (fun _k => trivial) (J := [f88_j5_b, f88_j9_b, f88_j10_b, f88_j12_b, f88_j13_b, f88_j15_b, f88_j17_b, f88_j18_b, f88_j23_b]) (by kernel_rfl) (fun k => ⟨(f88_j5_d_ok k).use (by kernel_rfl), (f88_j9_d_ok k).use (by kernel_rfl), (f88_j10_d_ok k).use (by kernel_rfl), (f88_j12_d_ok k).use (by kernel_rfl), (f88_j13_d_ok k).use (by kernel_rfl), (f88_j15_d_ok k).use (by kernel_rfl), (f88_j17_d_ok k).use (by kernel_rfl), (f88_j18_d_ok k).use (by kernel_rfl), (f88_j23_d_ok k).use (by kernel_rfl), trivial⟩) (fun k => (LrcNat.add (f88_j23_d_ok k).2 (LrcNat.add (f88_j18_d_ok k).2 (LrcNat.add (f88_j17_d_ok k).2 (LrcNat.add (f88_j15_d_ok k).2 (LrcNat.add (f88_j13_d_ok k).2 (LrcNat.add (f88_j12_d_ok k).2 (LrcNat.add (f88_j10_d_ok k).2 (LrcNat.add (f88_j9_d_ok k).2 (LrcNat.add (f88_j5_d_ok k).2 LrcNat.no)))))))))) (fun _x _y _K => by kernel_rfl) (fun _k _x _y _K => by kernel_rfl)
noncomputable def f88_r {R : Type} (k : Nat) : Lrc D R := (lrcAdd 1000023 (f88_j23_d k) (lrcAdd 1000018 (f88_j18_d k) (lrcAdd 1000017 (f88_j17_d k) (lrcAdd 1000015 (f88_j15_d k) (lrcAdd 1000013 (f88_j13_d k) (lrcAdd 1000012 (f88_j12_d k) (lrcAdd 1000010 (f88_j10_d k) (lrcAdd 1000009 (f88_j9_d k) (lrcAdd 1000005 (f88_j5_d k) (lrcAdd 3 (f88_l3_d k) noLrc))))))))))
theorem f88_ok {R : Type} (k : Nat) {e : Dr D R} (he : FnOk Try.prog cx 88 e) : FnOk Try.prog cx 88 (f88_d (f88 k) e) :=
  he.door fun _x _y => body_ok (keep := kp) (ann := f88_ann) (lrc := f88_r (R := R) k) (N := 167) (n0 := 1) (c := []) cxOk mixed (f88_o_ok k) (body := f88_b) (by kernel_rfl : Try.prog.funcs[88]? = some Try.f88) (by kernel_rfl) (by kernel_rfl) (by kernel_rfl) (by kernel_rfl) (of_decide_eq_true (by kernel_rfl)) (L := [f88_l3_b]) (by kernel_rfl) (⟨(f88_l3_d_ok k).use (by kernel_rfl), trivial⟩) (J := [f88_j5_b, f88_j9_b, f88_j10_b, f88_j12_b, f88_j13_b, f88_j15_b, f88_j17_b, f88_j18_b, f88_j23_b]) (by kernel_rfl) (⟨(f88_j5_d_ok k).use (by kernel_rfl), (f88_j9_d_ok k).use (by kernel_rfl), (f88_j10_d_ok k).use (by kernel_rfl), (f88_j12_d_ok k).use (by kernel_rfl), (f88_j13_d_ok k).use (by kernel_rfl), (f88_j15_d_ok k).use (by kernel_rfl), (f88_j17_d_ok k).use (by kernel_rfl), (f88_j18_d_ok k).use (by kernel_rfl), (f88_j23_d_ok k).use (by kernel_rfl), trivial⟩) ((LrcNat.add (f88_j23_d_ok k).2 (LrcNat.add (f88_j18_d_ok k).2 (LrcNat.add (f88_j17_d_ok k).2 (LrcNat.add (f88_j15_d_ok k).2 (LrcNat.add (f88_j13_d_ok k).2 (LrcNat.add (f88_j12_d_ok k).2 (LrcNat.add (f88_j10_d_ok k).2 (LrcNat.add (f88_j9_d_ok k).2 (LrcNat.add (f88_j5_d_ok k).2 (LrcNat.add (f88_l3_d_ok k).2 LrcNat.no))))))))))) (fun _K => by delta f88 f88_o; generalize @f25 R = a0; generalize @f56_2 R = a1; generalize @f87_2 R = a2; generalize @f99_2 R = a3; generalize @f100 R = a4; generalize @f68 R = a5; generalize @f101_3 R = a6; revert a0 a1 a2 a3 a4 a5 a6; refine id ?_; intros; kernel_rfl)


end Go.Proofs.Ytklhjegfkpmdoaa

/-! What the functions do, as plain functions; and that they do. -/
namespace Go.Proofs.Ytklhjegfkpmdoaa
open Go Go.Am
abbrev f55_T (R : Type) : Type := List Int → (List Int → Int → Int → Int → Int → List D1 → List D2 → Option R) → Option R
/-! ## 55: diorama/element.read -/
noncomputable def f55 {R : Type} (k : Nat) (a0 : List Int) (K : List Int → Int → Int → Int → Int → List D1 → List D2 → Option R) : Option R :=
 bif decide ((a0.length : Int) > 1048576) then
  f87 k 2 a0 0 0 0 0 (fun v1 v2 v3 v4 v5 =>
   K v1 v2 v3 v4 v5 ([] : List D1) ([] : List D2))
 else
  f88 k 0 (a0.length : Int) false false 1 a0 0 0 0 0 (fun v6 v7 v8 v9 v10 v11 v12 =>
   K v6 v7 v8 v9 v10 v12 v11)
noncomputable def f55_d {R : Type} (g : f55_T R) (e : Dr D R) : Dr D R := door [.list (.int .u8)] [] (fun (x : (List Int × Unit)) (_y : (Unit)) K => g x.1 (fun z0 z1 z2 z3 z4 z5 z6 => K ⟨.tup [.ptr 0 0, .own 2], [some (.box [.list (.int .u8) z0, .int .i64 z1, .int .i64 z2, .own 1, .int .i64 z3, .int .i64 z4]), some (.row (.named 1) z5 true), some (.row (.named 2) z6 true)]⟩)) e
noncomputable def f55_o {R : Type} (k : Nat) : Orc D R := (orcAdd 88 (f88_d (f88 k) noDr) (orcAdd 87 (f87_d (f87 k) noDr) noOrc))
theorem f55_o_ok {R : Type} (k : Nat) : OrcOk Try.prog cx (f55_o (R := R) k) := (OrcOk.add (f88_ok k FnOk.no) (OrcOk.add (f87_ok k FnOk.no) OrcOk.no))
noncomputable def f55_b : Code := bodyOf Try.f55
noncomputable def f55_ann : Nat → Option LAnn := fun _key => none
noncomputable def f55_r {R : Type} (_k : Nat) : Lrc D R := noLrc
theorem f55_ok {R : Type} (k : Nat) {e : Dr D R} (he : FnOk Try.prog cx 55 e) : FnOk Try.prog cx 55 (f55_d (f55 k) e) :=
  he.door fun _x _y => body_ok (keep := kp) (ann := f55_ann) (lrc := f55_r (R := R) k) (N := 20) (n0 := 0) (c := [(.tmp 3, .own 1099511627776 (.named 2)), (.cell 131200 3, .own 1099511627777 (.named 1))]) cxOk mixed (f55_o_ok k) (body := f55_b) (by kernel_rfl : Try.prog.funcs[55]? = some Try.f55) (by kernel_rfl) (by kernel_rfl) (by kernel_rfl) (by kernel_rfl) (of_decide_eq_true (by kernel_rfl)) (L := []) (by kernel_rfl) trivial (J := []) (by kernel_rfl) trivial (LrcNat.no) (fun _K => by delta f55 f55_o; generalize @f87 R = a0; generalize @f88 R = a1; revert a0 a1; refine id ?_; intros; kernel_rfl)

abbrev f19_T (R : Type) : Type := List Int → (Int → Int → List D2 → Option R) → Option R
/-! ## 19: diorama/element.Parse -/
noncomputable def f19 {R : Type} (k : Nat) (a0 : List Int) (K : Int → Int → List D2 → Option R) : Option R :=
 f55 k a0 (fun v1 v2 v3 v4 v5 v6 v7 =>
  f56_2 k v1 v2 v3 v4 v5 v6 (fun v8 _v9 _v10 _v11 v12 v13 _v14 =>
   bif (!v8) then
    K v13 v12 ([] : List D2)
   else
    K 0 0 v7))
noncomputable def f19_d {R : Type} (g : f19_T R) (e : Dr D R) : Dr D R := door [.list (.int .u8)] [] (fun (x : (List Int × Unit)) (_y : (Unit)) K => g x.1 (fun z0 z1 z2 => K ⟨.tup [.own 0, .int .i64 z0, .int .i64 z1], [some (.row (.named 2) z2 true)]⟩)) e
noncomputable def f19_o {R : Type} (k : Nat) : Orc D R := (orcAdd 55 (f55_d (f55 k) noDr) (orcAdd 56 (f56_2_d (f56_2 k) noDr) noOrc))
theorem f19_o_ok {R : Type} (k : Nat) : OrcOk Try.prog cx (f19_o (R := R) k) := (OrcOk.add (f55_ok k FnOk.no) (OrcOk.add (f56_2_ok k FnOk.no) OrcOk.no))
noncomputable def f19_b : Code := bodyOf Try.f19
noncomputable def f19_ann : Nat → Option LAnn := fun _key => none
noncomputable def f19_r {R : Type} (_k : Nat) : Lrc D R := noLrc
theorem f19_ok {R : Type} (k : Nat) {e : Dr D R} (he : FnOk Try.prog cx 19 e) : FnOk Try.prog cx 19 (f19_d (f19 k) e) :=
  he.door fun _x _y => body_ok (keep := kp) (ann := f19_ann) (lrc := f19_r (R := R) k) (N := 26) (n0 := 0) (c := [(.tmp 2, .own 1099511627776 (.named 2))]) cxOk mixed (f19_o_ok k) (body := f19_b) (by kernel_rfl : Try.prog.funcs[19]? = some Try.f19) (by kernel_rfl) (by kernel_rfl) (by kernel_rfl) (by kernel_rfl) (of_decide_eq_true (by kernel_rfl)) (L := []) (by kernel_rfl) trivial (J := []) (by kernel_rfl) trivial (LrcNat.no) (fun _K => by delta f19 f19_o; generalize @f56_2 R = a0; generalize @f55 R = a1; revert a0 a1; refine id ?_; intros; kernel_rfl)

abbrev f18_T (R : Type) : Type := (Bool → Option R) → Option R
/-! ## 18: diorama/dioramalaw04.awake -/
noncomputable def f18 {R : Type} (k : Nat) (K : Bool → Option R) : Option R :=
 f19 k ([28, 1, 17, 173, 134, 162, 129, 1, 236, 129, 0]) (fun _v1 v2 v3 =>
  f15 k 3 (fun v4 v5 =>
   bif (v2 == 0) then
    bif ((v3.length : Int) == 1) then
     bif inb 0 v3.length then
      bif (((D2.c2 (v3.getD 0 zero2)).length : Int) == 1) then
      bif inb 0 v3.length then
      bif inb 0 ((D2.c2 (v3.getD 0 zero2)).length) then
      bif ((D2.c0 ((D2.c2 (v3.getD 0 zero2)).getD 0 zero2)) == 162) then
      bif (v4 == 0) then
      bif ((v5.length : Int) == 3) then
      bif inb 0 v5.length then
      K ((v5.getD 0 0) == 236)
      else
      none
      else
      K false
      else
      K false
      else
      K false
      else
      none
      else
      none
      else
      K false
     else
      none
    else
     K false
   else
    K false))
noncomputable def f18_d {R : Type} (g : f18_T R) (e : Dr D R) : Dr D R := door [] [] (fun (_x : (Unit)) (_y : (Unit)) K => g (fun z0 => K ⟨.bool z0, []⟩)) e
noncomputable def f18_o {R : Type} (k : Nat) : Orc D R := (orcAdd 19 (f19_d (f19 k) noDr) (orcAdd 15 (f15_d (f15 k) noDr) noOrc))
theorem f18_o_ok {R : Type} (k : Nat) : OrcOk Try.prog cx (f18_o (R := R) k) := (OrcOk.add (f19_ok k FnOk.no) (OrcOk.add (f15_ok k FnOk.no) OrcOk.no))
noncomputable def f18_b : Code := bodyOf Try.f18
noncomputable def f18_ann : Nat → Option LAnn := fun _key => none
noncomputable def f18_r {R : Type} (_k : Nat) : Lrc D R := noLrc
theorem f18_ok {R : Type} (k : Nat) {e : Dr D R} (he : FnOk Try.prog cx 18 e) : FnOk Try.prog cx 18 (f18_d (f18 k) e) :=
  he.door fun _x _y => body_ok (keep := kp) (ann := f18_ann) (lrc := f18_r (R := R) k) (N := 56) (n0 := 0) (c := []) cxOk mixed (f18_o_ok k) (body := f18_b) (by kernel_rfl : Try.prog.funcs[18]? = some Try.f18) (by kernel_rfl) (by kernel_rfl) (by kernel_rfl) (by kernel_rfl) (of_decide_eq_true (by kernel_rfl)) (L := []) (by kernel_rfl) trivial (J := []) (by kernel_rfl) trivial (LrcNat.no) (fun _K => by delta f18 f18_o; generalize @f15 R = a0; generalize @f19 R = a1; revert a0 a1; refine id ?_; intros; kernel_rfl)

abbrev f23_T (R : Type) : Type := List D2 → List D2 → (Bool → Option R) → Option R
/-! ## 23: diorama/dioramaref04.Same -/
noncomputable def f23_l4 {R : Type} (g_f23 : Nat → f23_T R) : Nat → List D2 → List D2 → Int → Option R → (Bool → Option R) → Option R
  | 0, _, _, _, _, _ => none
  | k + 1, v1, v2, v3, X0, X1 =>
  bif decide (v3 < (v1.length : Int)) then
   bif inb v3 v1.length then
    bif inb v3 v2.length then
     bif ((D2.c0 (v1.getD v3.toNat zero2)) != (D2.c0 (v2.getD v3.toNat zero2))) then
      X1 false
     else
      bif inb v3 v1.length then
      bif inb v3 v2.length then
      bif (!((D2.c3 (v1.getD v3.toNat zero2)) == (D2.c3 (v2.getD v3.toNat zero2)))) then
      X1 false
      else
      bif inb v3 v1.length then
      bif inb v3 v2.length then
      f17 k (D2.c1 (v1.getD v3.toNat zero2)) (D2.c1 (v2.getD v3.toNat zero2)) (fun v4 =>
      bif (!v4) then
      X1 false
      else
      bif inb v3 v1.length then
      bif inb v3 v2.length then
      g_f23 k (D2.c2 (v1.getD v3.toNat zero2)) (D2.c2 (v2.getD v3.toNat zero2)) (fun v5 =>
      bif (!v5) then
      X1 false
      else
      f23_l4 g_f23 k v1 v2 (IntKind.i64.wrap (v3 + 1)) X0 X1)
      else
      none
      else
      none)
      else
      none
      else
      none
      else
      none
      else
      none
    else
     none
   else
    none
  else
   X0
noncomputable def f23_s {R : Type} (g_f23 : Nat → f23_T R) (k : Nat) (a0 a1 : List D2) (K : Bool → Option R) : Option R :=
 bif ((a0.length : Int) != (a1.length : Int)) then
  K false
 else
  f23_l4 g_f23 k a0 a1 0 (
   K true) K
noncomputable def f23_d {R : Type} (g : f23_T R) (e : Dr D R) : Dr D R := door [.list (.named 2), .list (.named 2)] [] (fun (x : (List D2 × List D2 × Unit)) (_y : (Unit)) K => g x.1 x.2.1 (fun z0 => K ⟨.bool z0, []⟩)) e
noncomputable def f23_o {R : Type} (g_f23 : Nat → f23_T R) (k : Nat) : Orc D R := (orcAdd 23 (f23_d (g_f23 k) noDr) (orcAdd 17 (f17_d (f17 k) noDr) noOrc))
theorem f23_o_ok {R : Type} (g_f23 : Nat → f23_T R) (h_f23 : ∀ (k : Nat) (e : Dr D R), FnOk Try.prog cx 23 e → FnOk Try.prog cx 23 (f23_d (g_f23 k) e)) (k : Nat) : OrcOk Try.prog cx (f23_o (R := R) g_f23 k) := (OrcOk.add (h_f23 k _ FnOk.no) (OrcOk.add (f17_ok k FnOk.no) OrcOk.no))
noncomputable def f23_b : Code := bodyOf Try.f23
noncomputable def f23_l4_a : LAnn := ⟨⟨[], [0, 1, 5], [], []⟩, exOf (some ⟨[], [4], [], []⟩) [(0, ⟨[], [], [], []⟩)]⟩
noncomputable def f23_ann : Nat → Option LAnn := fun key => bif Nat.beq key 4 then some f23_l4_a else none
noncomputable def f23_l4_b : Code := loopAt f23_b 0
noncomputable def f23_l4_g {R : Type} (g_f23 : Nat → f23_T R) (k : Nat) (x : (List D2 × List D2 × Int × Unit)) (_y : (Unit)) (K : KX R) : Option R := f23_l4 g_f23 k x.1 x.2.1 x.2.2.1 (K (.exit 0) [] []) (fun z0 => K (.ret) [.bool z0] [])
noncomputable def f23_l4_d {R : Type} (g_f23 : Nat → f23_T R) (k : Nat) : Lr D R := ldoor [.list (.named 2), .list (.named 2), .int .i64] [] (f23_l4_g g_f23 k)
noncomputable def f23_l4_r {R : Type} (_g_f23 : Nat → f23_T R) (_k : Nat) : Lrc D R := noLrc
theorem f23_l4_d_ok {R : Type} (g_f23 : Nat → f23_T R) (h_f23 : ∀ (k : Nat) (e : Dr D R), FnOk Try.prog cx 23 e → FnOk Try.prog cx 23 (f23_d (g_f23 k) e)) : ∀ k, LoopOk Try.prog cx 69 0 f23_ann (f23_l4_d (R := R) g_f23 k) f23_l4_b :=
  loop_ok (keep := kp) (lrc := f23_l4_r (R := R) g_f23) cxOk mixed (f23_o_ok g_f23 h_f23) (show f23_ann (Am.keyOf f23_l4_b) = some f23_l4_a by kernel_rfl) (L := []) (by kernel_rfl) (fun _k => trivial) (J := []) (by kernel_rfl) (fun _k => trivial) (fun _k => LrcNat.no) (fun _x _y _K => by kernel_rfl) (fun _k _x _y _K => by kernel_rfl)
noncomputable def f23_r {R : Type} (g_f23 : Nat → f23_T R) (k : Nat) : Lrc D R := (lrcAdd 4 (f23_l4_d g_f23 k) noLrc)
noncomputable def rec_f23 {R : Type} : Nat → (f23_T R)
  | 0 => (fun _ _ _ => none)
  | k + 1 => (f23_s (fun _ => (rec_f23 (R := R) k)) k)
theorem rec_f23_succ {R : Type} (k : Nat) : rec_f23 (R := R) (k + 1) = (f23_s (fun _ => (rec_f23 (R := R) k)) k) := rfl
theorem rec_f23_ok {R : Type} : ∀ k, (∀ e : Dr D R, FnOk Try.prog cx 23 e → FnOk Try.prog cx 23 (f23_d (rec_f23 (R := R) k) e))
  | 0 => fun e he => he.door0 fun x y _K => rfl
  | k + 1 => by
    rw [rec_f23_succ]
    exact fun e he => he.door fun _x _y => body_ok (keep := kp) (ann := f23_ann) (lrc := f23_r (R := R) (fun _ => (rec_f23 (R := R) k)) k) (N := 69) (n0 := 0) (c := []) cxOk mixed (f23_o_ok (fun _ => (rec_f23 (R := R) k)) (fun _ e he => (rec_f23_ok (R := R) k) e he) k) (body := f23_b) (by kernel_rfl : Try.prog.funcs[23]? = some Try.f23) (by kernel_rfl) (by kernel_rfl) (by kernel_rfl) (by kernel_rfl) (of_decide_eq_true (by kernel_rfl)) (L := [f23_l4_b]) (by kernel_rfl) (⟨(f23_l4_d_ok (fun _ => (rec_f23 (R := R) k)) (fun _ e he => (rec_f23_ok (R := R) k) e he) k).use (by kernel_rfl), trivial⟩) (J := []) (by kernel_rfl) trivial ((LrcNat.add (f23_l4_d_ok (fun _ => (rec_f23 (R := R) k)) (fun _ e he => (rec_f23_ok (R := R) k) e he) k).2 LrcNat.no)) (fun _K => by delta f23_s f23_o; generalize @f17 R = a0; revert a0; refine id ?_; intros; kernel_rfl)
noncomputable def f23 {R : Type} (k : Nat) (a0 a1 : List D2) (K : Bool → Option R) : Option R := (rec_f23 (R := R) k) a0 a1 K
theorem f23_ok {R : Type} (k : Nat) {e : Dr D R} (he : FnOk Try.prog cx 23 e) : FnOk Try.prog cx 23 (f23_d (f23 k) e) := (rec_f23_ok (R := R) k) e he
theorem f23_step {R : Type} (k : Nat) (a0 a1 : List D2) (K : Bool → Option R) : f23 (k + 1) a0 a1 K = f23_s (fun _ => f23 (R := R) k) k a0 a1 K := rfl

abbrev f61_T (R : Type) : Type := Int → Int → (Int → List Int → Option R) → Option R
/-! ## 61: diorama/bits.PutInt -/
noncomputable def f61 {R : Type} (k : Nat) (a0 a1 : Int) (K : Int → List Int → Option R) : Option R :=
 bif decide (a1 < 1) then
  K 1 ([] : List Int)
 else
  bif decide (a1 > 8) then
   K 1 ([] : List Int)
  else
   bif decide (a0 < 0) then
    K 1 ([] : List Int)
   else
    bif decide (a1 < 8) then
     bif decide ((IntKind.i64.wrap (8 * a1)) < 0) then
      none
     else
      bif decide ((shrI .i64 a0 (IntKind.i64.wrap (8 * a1))) > 0) then
      K 1 ([] : List Int)
      else
      f91 k (IntKind.u64.wrap (a0)) a1 (fun v1 =>
      K 0 v1)
    else
     f91 k (IntKind.u64.wrap (a0)) a1 (fun v2 =>
      K 0 v2)
noncomputable def f61_d {R : Type} (g : f61_T R) (e : Dr D R) : Dr D R := door [.int .i64, .int .i64] [] (fun (x : (Int × Int × Unit)) (_y : (Unit)) K => g x.1 x.2.1 (fun z0 z1 => K ⟨.tup [.own 0, .int .i64 z0], [some (.row (.int .u8) z1 true)]⟩)) e
noncomputable def f61_o {R : Type} (k : Nat) : Orc D R := (orcAdd 91 (f91_d (f91 k) noDr) noOrc)
theorem f61_o_ok {R : Type} (k : Nat) : OrcOk Try.prog cx (f61_o (R := R) k) := (OrcOk.add (f91_ok k FnOk.no) OrcOk.no)
noncomputable def f61_b : Code := bodyOf Try.f61
noncomputable def f61_ann : Nat → Option LAnn := fun _key => none
noncomputable def f61_r {R : Type} (_k : Nat) : Lrc D R := noLrc
theorem f61_ok {R : Type} (k : Nat) {e : Dr D R} (he : FnOk Try.prog cx 61 e) : FnOk Try.prog cx 61 (f61_d (f61 k) e) :=
  he.door fun _x _y => body_ok (keep := kp) (ann := f61_ann) (lrc := f61_r (R := R) k) (N := 31) (n0 := 0) (c := [(.tmp 4, .own 1099511627776 (.int .u8))]) cxOk mixed (f61_o_ok k) (body := f61_b) (by kernel_rfl : Try.prog.funcs[61]? = some Try.f61) (by kernel_rfl) (by kernel_rfl) (by kernel_rfl) (by kernel_rfl) (of_decide_eq_true (by kernel_rfl)) (L := []) (by kernel_rfl) trivial (J := []) (by kernel_rfl) trivial (LrcNat.no) (fun _K => by delta f61 f61_o; generalize @f91 R = a0; revert a0; refine id ?_; intros; kernel_rfl)

abbrev f31_T (R : Type) : Type := Int → List Int → List D2 → Bool → (Int → Int → Option R) → Option R
/-! ## 31: diorama/element.Number -/
noncomputable def f31 {R : Type} (k : Nat) (_a0 : Int) (a1 : List Int) (_a2 : List D2) (a3 : Bool) (K : Int → Int → Option R) : Option R :=
 bif a3 then
  K 0 4
 else
  bif decide ((a1.length : Int) > 8) then
   K 0 4
  else
   bif ((a1.length : Int) == 0) then
    K 0 0
   else
    f64 k a1 0 (a1.length : Int) K
noncomputable def f31_d {R : Type} (g : f31_T R) (e : Dr D R) : Dr D R := door [.agg [.int .i64, .list (.int .u8), .list (.named 2), .bool]] [] (fun (x : ((Int × List Int × List D2 × Bool × Unit) × Unit)) (_y : (Unit)) K => g x.1.1 x.1.2.1 x.1.2.2.1 x.1.2.2.2.1 (fun z0 z1 => K ⟨.tup [.int .i64 z0, .int .i64 z1], []⟩)) e
noncomputable def f31_o {R : Type} (k : Nat) : Orc D R := (orcAdd 64 (f64_d (f64 k) noDr) noOrc)
theorem f31_o_ok {R : Type} (k : Nat) : OrcOk Try.prog cx (f31_o (R := R) k) := (OrcOk.add (f64_ok k FnOk.no) OrcOk.no)
noncomputable def f31_b : Code := bodyOf Try.f31
noncomputable def f31_ann : Nat → Option LAnn := fun _key => none
noncomputable def f31_r {R : Type} (_k : Nat) : Lrc D R := noLrc
theorem f31_ok {R : Type} (k : Nat) {e : Dr D R} (he : FnOk Try.prog cx 31 e) : FnOk Try.prog cx 31 (f31_d (f31 k) e) :=
  he.door fun _x _y => body_ok (keep := kp) (ann := f31_ann) (lrc := f31_r (R := R) k) (N := 24) (n0 := 0) (c := []) cxOk mixed (f31_o_ok k) (body := f31_b) (by kernel_rfl : Try.prog.funcs[31]? = some Try.f31) (by kernel_rfl) (by kernel_rfl) (by kernel_rfl) (by kernel_rfl) (of_decide_eq_true (by kernel_rfl)) (L := []) (by kernel_rfl) trivial (J := []) (by kernel_rfl) trivial (LrcNat.no) (fun _K => by delta f31 f31_o; generalize @f64 R = a0; revert a0; refine id ?_; intros; kernel_rfl)

abbrev f32_T (R : Type) : Type := Int → List Int → List D2 → Bool → (Int → Int → Option R) → Option R
/-! ## 32: diorama/dioramaref04.Number -/
noncomputable def f32_l7 {R : Type} : Nat → Int → Int → Int → List Int → List D2 → Bool → (Int → Option R) → Option R
  | 0, _, _, _, _, _, _, _ => none
  | k + 1, v1, v2, v3, v4, v5, v6, X0 =>
  bif decide (v2 < (v4.length : Int)) then
   bif inb v2 v4.length then
    f32_l7 k (IntKind.i64.wrap ((IntKind.i64.wrap (v1 * 256)) + (IntKind.i64.wrap ((v4.getD v2.toNat 0))))) (IntKind.i64.wrap (v2 + 1)) v3 v4 v5 v6 X0
   else
    none
  else
   X0 v1
noncomputable def f32 {R : Type} (k : Nat) (a0 : Int) (a1 : List Int) (a2 : List D2) (a3 : Bool) (K : Int → Int → Option R) : Option R :=
 bif a3 then
  K 0 4
 else
  bif decide ((a1.length : Int) > 8) then
   K 0 4
  else
   bif ((a1.length : Int) == 8) then
    bif inb 0 a1.length then
     bif decide ((a1.getD 0 0) ≥ 128) then
      K 0 1
     else
      f32_l7 k 0 0 a0 a1 a2 a3 (fun v7 =>
      K v7 0)
    else
     none
   else
    f32_l7 k 0 0 a0 a1 a2 a3 (fun v8 =>
     K v8 0)
noncomputable def f32_d {R : Type} (g : f32_T R) (e : Dr D R) : Dr D R := door [.agg [.int .i64, .list (.int .u8), .list (.named 2), .bool]] [] (fun (x : ((Int × List Int × List D2 × Bool × Unit) × Unit)) (_y : (Unit)) K => g x.1.1 x.1.2.1 x.1.2.2.1 x.1.2.2.2.1 (fun z0 z1 => K ⟨.tup [.int .i64 z0, .int .i64 z1], []⟩)) e
noncomputable def f32_o {R : Type} (_k : Nat) : Orc D R := noOrc
theorem f32_o_ok {R : Type} (k : Nat) : OrcOk Try.prog cx (f32_o (R := R) k) := OrcOk.no
noncomputable def f32_b : Code := bodyOf Try.f32
noncomputable def f32_l7_a : LAnn := ⟨⟨[], [1, 4, 5], [65568], []⟩, exOf (none) [(0, ⟨[], [4], [], []⟩)]⟩
noncomputable def f32_ann : Nat → Option LAnn := fun key => bif Nat.beq key 7 then some f32_l7_a else none
noncomputable def f32_l7_b : Code := loopAt f32_b 0
noncomputable def f32_l7_g {R : Type} (k : Nat) (x : (Unit × Int × Int × Unit)) (y : ((Int × List Int × List D2 × Bool × Unit) × Unit)) (K : KX R) : Option R := f32_l7 k x.2.1 x.2.2.1 y.1.1 y.1.2.1 y.1.2.2.1 y.1.2.2.2.1 (fun z0 => K (.exit 0) [.int .i64 z0] [])
noncomputable def f32_l7_d {R : Type} (k : Nat) : Lr D R := ldoor [.ptr 65568 0, .int .i64, .int .i64] [some (.box [.int .i64, .list (.int .u8), .list (.named 2), .bool])] (f32_l7_g k)
noncomputable def f32_l7_r {R : Type} (_k : Nat) : Lrc D R := noLrc
theorem f32_l7_d_ok {R : Type} : ∀ k, LoopOk Try.prog cx 42 0 f32_ann (f32_l7_d (R := R) k) f32_l7_b :=
  loop_ok (keep := kp) (lrc := f32_l7_r (R := R)) cxOk mixed (f32_o_ok) (show f32_ann (Am.keyOf f32_l7_b) = some f32_l7_a by kernel_rfl) (L := []) (by kernel_rfl) (fun _k => trivial) (J := []) (by kernel_rfl) (fun _k => trivial) (fun _k => LrcNat.no) (fun _x _y _K => by kernel_rfl) (fun _k _x _y _K => by kernel_rfl)
noncomputable def f32_r {R : Type} (k : Nat) : Lrc D R := (lrcAdd 7 (f32_l7_d k) noLrc)
theorem f32_ok {R : Type} (k : Nat) {e : Dr D R} (he : FnOk Try.prog cx 32 e) : FnOk Try.prog cx 32 (f32_d (f32 k) e) :=
  he.door fun _x _y => body_ok (keep := kp) (ann := f32_ann) (lrc := f32_r (R := R) k) (N := 42) (n0 := 0) (c := []) cxOk mixed (f32_o_ok k) (body := f32_b) (by kernel_rfl : Try.prog.funcs[32]? = some Try.f32) (by kernel_rfl) (by kernel_rfl) (by kernel_rfl) (by kernel_rfl) (of_decide_eq_true (by kernel_rfl)) (L := [f32_l7_b]) (by kernel_rfl) (⟨(f32_l7_d_ok k).use (by kernel_rfl), trivial⟩) (J := []) (by kernel_rfl) trivial ((LrcNat.add (f32_l7_d_ok k).2 LrcNat.no)) (fun _K => by kernel_rfl)

abbrev f61_2_T (R : Type) : Type := Int → Int → (List Int → Bool → Int → Option R) → Option R
/-! ## 61: diorama/bits.PutInt -/
noncomputable def f61_2 {R : Type} (k : Nat) (a0 a1 : Int) (K : List Int → Bool → Int → Option R) : Option R :=
 bif decide (a1 < 1) then
  K ([] : List Int) true 1
 else
  bif decide (a1 > 8) then
   K ([] : List Int) true 1
  else
   bif decide (a0 < 0) then
    K ([] : List Int) true 1
   else
    bif decide (a1 < 8) then
     bif decide ((IntKind.i64.wrap (8 * a1)) < 0) then
      none
     else
      bif decide ((shrI .i64 a0 (IntKind.i64.wrap (8 * a1))) > 0) then
      K ([] : List Int) true 1
      else
      f91 k (IntKind.u64.wrap (a0)) a1 (fun v1 =>
      K v1 false 0)
    else
     f91 k (IntKind.u64.wrap (a0)) a1 (fun v2 =>
      K v2 false 0)
noncomputable def f61_2_d {R : Type} (g : f61_2_T R) (e : Dr D R) : Dr D R := door [.int .i64, .int .i64] [] (fun (x : (Int × Int × Unit)) (_y : (Unit)) K => g x.1 x.2.1 (fun z0 z1 z2 => K ⟨.tup [.opt (.int .u8) z0 z1, .int .i64 z2], []⟩)) e
noncomputable def f61_2_o {R : Type} (k : Nat) : Orc D R := (orcAdd 91 (f91_d (f91 k) noDr) noOrc)
theorem f61_2_o_ok {R : Type} (k : Nat) : OrcOk Try.prog cx (f61_2_o (R := R) k) := (OrcOk.add (f91_ok k FnOk.no) OrcOk.no)
noncomputable def f61_2_b : Code := bodyOf Try.f61
noncomputable def f61_2_ann : Nat → Option LAnn := fun _key => none
noncomputable def f61_2_r {R : Type} (_k : Nat) : Lrc D R := noLrc
theorem f61_2_ok {R : Type} (k : Nat) {e : Dr D R} (he : FnOk Try.prog cx 61 e) : FnOk Try.prog cx 61 (f61_2_d (f61_2 k) e) :=
  he.door fun _x _y => body_ok (keep := kp) (ann := f61_2_ann) (lrc := f61_2_r (R := R) k) (N := 31) (n0 := 0) (c := [(.tmp 4, .opt (.int .u8))]) cxOk mixed (f61_2_o_ok k) (body := f61_2_b) (by kernel_rfl : Try.prog.funcs[61]? = some Try.f61) (by kernel_rfl) (by kernel_rfl) (by kernel_rfl) (by kernel_rfl) (of_decide_eq_true (by kernel_rfl)) (L := []) (by kernel_rfl) trivial (J := []) (by kernel_rfl) trivial (LrcNat.no) (fun _K => by delta f61_2 f61_2_o; generalize @f91 R = a0; revert a0; refine id ?_; intros; kernel_rfl)

abbrev f33_T (R : Type) : Type := Int → Int → (Int → List Int → Bool → Bool → Option R) → Option R
/-! ## 33: diorama/element.PutNumber -/
noncomputable def f33_l3 {R : Type} : Nat → Int → Int → Int → Bool → Int → List Int → Bool → Bool → (Int → Bool → Int → List Int → Bool → Bool → Option R) → Option R
  | 0, _, _, _, _, _, _, _, _, _ => none
  | k + 1, v1, v2, v3, v4, v5, v6, v7, v8, X0 =>
  bif decide (v1 > 0) then
   bif v7 || !(v6).isEmpty then
    bif v7 then
     f61_2 k v1 v2 (fun v9 v10 _v11 =>
      f33_l3 k v1 (IntKind.i64.wrap (v2 + 1)) v3 v4 v5 v9 v10 v8 X0)
    else
     X0 v3 v4 v5 v6 v7 v8
   else
    none
  else
   X0 v3 v4 v5 v6 v7 v8
noncomputable def f33 {R : Type} (k : Nat) (a0 a1 : Int) (K : Int → List Int → Bool → Bool → Option R) : Option R :=
 f33_l3 k a1 1 0 false a0 ([] : List Int) true false (fun _v12 _v13 v14 v15 v16 v17 =>
  K v14 v15 v16 v17)
noncomputable def f33_d {R : Type} (g : f33_T R) (e : Dr D R) : Dr D R := door [.int .i64, .int .i64] [] (fun (x : (Int × Int × Unit)) (_y : (Unit)) K => g x.1 x.2.1 (fun z0 z1 z2 z3 => K ⟨.agg [.int .i64 z0, .opt (.int .u8) z1 z2, .nil, .bool z3], []⟩)) e
noncomputable def f33_o {R : Type} (k : Nat) : Orc D R := (orcAdd 61 (f61_2_d (f61_2 k) noDr) noOrc)
theorem f33_o_ok {R : Type} (k : Nat) : OrcOk Try.prog cx (f33_o (R := R) k) := (OrcOk.add (f61_2_ok k FnOk.no) OrcOk.no)
noncomputable def f33_b : Code := bodyOf Try.f33
noncomputable def f33_l3_a : LAnn := ⟨⟨[(.cell 131168 1, .opt (.int .u8))], [1, 4, 5, 6], [65616, 131168], []⟩, exOf (none) [(0, ⟨[], [4, 5], [65616, 131168], []⟩)]⟩
noncomputable def f33_ann : Nat → Option LAnn := fun key => bif Nat.beq key 3 then some f33_l3_a else none
noncomputable def f33_l3_b : Code := loopAt f33_b 0
noncomputable def f33_l3_g {R : Type} (k : Nat) (x : (Int × Unit × Unit × Int × Unit)) (y : ((Int × Unit × Unit × Bool × Unit) × (Int × (List Int × Bool) × Unit × Bool × Unit) × Unit)) (K : KX R) : Option R := f33_l3 k x.1 x.2.2.2.1 y.1.1 y.1.2.2.2.1 y.2.1.1 y.2.1.2.1.1 y.2.1.2.1.2 y.2.1.2.2.2.1 (fun z0 z1 z2 z3 z4 z5 => K (.exit 0) [.ptr 65616 0, .ptr 131168 0] [some (.box [.int .i64 z0, .nil, .nil, .bool z1]), some (.box [.int .i64 z2, .opt (.int .u8) z3 z4, .nil, .bool z5])])
noncomputable def f33_l3_d {R : Type} (k : Nat) : Lr D R := ldoor [.int .i64, .ptr 65616 0, .ptr 131168 0, .int .i64] [some (.box [.int .i64, .nil, .nil, .bool]), some (.box [.int .i64, .opt (.int .u8), .nil, .bool])] (f33_l3_g k)
noncomputable def f33_l3_r {R : Type} (_k : Nat) : Lrc D R := noLrc
theorem f33_l3_d_ok {R : Type} : ∀ k, LoopOk Try.prog cx 26 0 f33_ann (f33_l3_d (R := R) k) f33_l3_b :=
  loop_ok (keep := kp) (lrc := f33_l3_r (R := R)) cxOk mixed (f33_o_ok) (show f33_ann (Am.keyOf f33_l3_b) = some f33_l3_a by kernel_rfl) (L := []) (by kernel_rfl) (fun _k => trivial) (J := []) (by kernel_rfl) (fun _k => trivial) (fun _k => LrcNat.no) (fun _x _y _K => by kernel_rfl) (fun _k _x _y _K => by kernel_rfl)
noncomputable def f33_r {R : Type} (k : Nat) : Lrc D R := (lrcAdd 3 (f33_l3_d k) noLrc)
theorem f33_ok {R : Type} (k : Nat) {e : Dr D R} (he : FnOk Try.prog cx 33 e) : FnOk Try.prog cx 33 (f33_d (f33 k) e) :=
  he.door fun _x _y => body_ok (keep := kp) (ann := f33_ann) (lrc := f33_r (R := R) k) (N := 26) (n0 := 0) (c := []) cxOk mixed (f33_o_ok k) (body := f33_b) (by kernel_rfl : Try.prog.funcs[33]? = some Try.f33) (by kernel_rfl) (by kernel_rfl) (by kernel_rfl) (by kernel_rfl) (of_decide_eq_true (by kernel_rfl)) (L := [f33_l3_b]) (by kernel_rfl) (⟨(f33_l3_d_ok k).use (by kernel_rfl), trivial⟩) (J := []) (by kernel_rfl) trivial ((LrcNat.add (f33_l3_d_ok k).2 LrcNat.no)) (fun _K => by delta f33 f33_o; generalize @f61_2 R = a0; revert a0; refine id ?_; intros; kernel_rfl)

abbrev f34_T (R : Type) : Type := Int → Int → (Int → Bool → List Int → Option R) → Option R
/-! ## 34: diorama/dioramaref04.PutNumber -/
noncomputable def f34_l2 {R : Type} : Nat → Int → Int → Bool → Int → Bool → List Int → (Int → Bool → Int → Bool → List Int → Option R) → Option R
  | 0, _, _, _, _, _, _, _ => none
  | k + 1, v1, v2, v3, v4, v5, v6, X0 =>
  bif decide (v1 > 0) then
   bif room 1 (([(IntKind.u8.wrap ((v1.tmod 256)))]).length + v6.length) then
    f34_l2 k (IntKind.i64.wrap (v1.tdiv 256)) v2 v3 v4 v5 (([(IntKind.u8.wrap ((v1.tmod 256)))]) ++ v6) X0
   else
    none
  else
   X0 v2 v3 v4 v5 v6
noncomputable def f34 {R : Type} (k : Nat) (a0 a1 : Int) (K : Int → Bool → List Int → Option R) : Option R :=
 f34_l2 k a1 0 false a0 false ([] : List Int) (fun _v7 _v8 v9 v10 v11 =>
  K v9 v10 v11)
noncomputable def f34_d {R : Type} (g : f34_T R) (e : Dr D R) : Dr D R := door [.int .i64, .int .i64] [] (fun (x : (Int × Int × Unit)) (_y : (Unit)) K => g x.1 x.2.1 (fun z0 z1 z2 => K ⟨.agg [.int .i64 z0, .own 0, .nil, .bool z1], [some (.row (.int .u8) z2 true)]⟩)) e
noncomputable def f34_o {R : Type} (_k : Nat) : Orc D R := noOrc
theorem f34_o_ok {R : Type} (k : Nat) : OrcOk Try.prog cx (f34_o (R := R) k) := OrcOk.no
noncomputable def f34_b : Code := bodyOf Try.f34
noncomputable def f34_l2_a : LAnn := ⟨⟨[(.cell 131168 1, .own 68719484928 (.int .u8))], [1, 4, 5], [65616, 131168, 68719484928], []⟩, exOf (none) [(0, ⟨[], [4, 5], [65616, 131168, 68719484928], []⟩)]⟩
noncomputable def f34_ann : Nat → Option LAnn := fun key => bif Nat.beq key 2 then some f34_l2_a else none
noncomputable def f34_l2_b : Code := loopAt f34_b 0
noncomputable def f34_l2_g {R : Type} (k : Nat) (x : (Int × Unit × Unit × Unit)) (y : ((Int × Unit × Unit × Bool × Unit) × (Int × Unit × Unit × Bool × Unit) × List Int × Unit)) (K : KX R) : Option R := f34_l2 k x.1 y.1.1 y.1.2.2.2.1 y.2.1.1 y.2.1.2.2.2.1 y.2.2.1 (fun z0 z1 z2 z3 z4 => K (.exit 0) [.ptr 65616 0, .ptr 131168 0] [some (.box [.int .i64 z0, .nil, .nil, .bool z1]), some (.box [.int .i64 z2, .own 68719484928, .nil, .bool z3]), some (.row (.int .u8) z4 true)])
noncomputable def f34_l2_d {R : Type} (k : Nat) : Lr D R := ldoor [.int .i64, .ptr 65616 0, .ptr 131168 0] [some (.box [.int .i64, .nil, .nil, .bool]), some (.box [.int .i64, .own 68719484928, .nil, .bool]), some (.row (.int .u8) true)] (f34_l2_g k)
noncomputable def f34_l2_r {R : Type} (_k : Nat) : Lrc D R := noLrc
theorem f34_l2_d_ok {R : Type} : ∀ k, LoopOk Try.prog cx 21 0 f34_ann (f34_l2_d (R := R) k) f34_l2_b :=
  loop_ok (keep := kp) (lrc := f34_l2_r (R := R)) cxOk mixed (f34_o_ok) (show f34_ann (Am.keyOf f34_l2_b) = some f34_l2_a by kernel_rfl) (L := []) (by kernel_rfl) (fun _k => trivial) (J := []) (by kernel_rfl) (fun _k => trivial) (fun _k => LrcNat.no) (fun _x _y _K => by kernel_rfl) (fun _k _x _y _K => by kernel_rfl)
noncomputable def f34_r {R : Type} (k : Nat) : Lrc D R := (lrcAdd 2 (f34_l2_d k) noLrc)
theorem f34_ok {R : Type} (k : Nat) {e : Dr D R} (he : FnOk Try.prog cx 34 e) : FnOk Try.prog cx 34 (f34_d (f34 k) e) :=
  he.door fun _x _y => body_ok (keep := kp) (ann := f34_ann) (lrc := f34_r (R := R) k) (N := 21) (n0 := 0) (c := []) cxOk mixed (f34_o_ok k) (body := f34_b) (by kernel_rfl : Try.prog.funcs[34]? = some Try.f34) (by kernel_rfl) (by kernel_rfl) (by kernel_rfl) (by kernel_rfl) (of_decide_eq_true (by kernel_rfl)) (L := [f34_l2_b]) (by kernel_rfl) (⟨(f34_l2_d_ok k).use (by kernel_rfl), trivial⟩) (J := []) (by kernel_rfl) trivial ((LrcNat.add (f34_l2_d_ok k).2 LrcNat.no)) (fun _K => by kernel_rfl)

abbrev f8_T (R : Type) : Type := Int → List Int → List D2 → Bool → Int → (Bool → Option R) → Option R
/-! ## 8: diorama/dioramalaw04.ElementNumbers -/
noncomputable def f8 {R : Type} (k : Nat) (a0 : Int) (a1 : List Int) (a2 : List D2) (a3 : Bool) (a4 : Int) (K : Bool → Option R) : Option R :=
 f31 k a0 a1 a2 a3 (fun v1 v2 =>
  f32 k a0 a1 a2 a3 (fun v3 v4 =>
   f33 k a0 a4 (fun v5 v6 _v7 v8 =>
    f34 k a0 a4 (fun v9 v10 v11 =>
     bif (v1 == v3) then
      bif (v2 == v4) then
      f23 k ([(D2.mk v5 v6 ([]) v8)]) ([(D2.mk v9 v11 ([]) v10)]) (fun v12 =>
      bif v12 then
      f18 k K
      else
      K false)
      else
      K false
     else
      K false))))
noncomputable def f8_d {R : Type} (g : f8_T R) (e : Dr D R) : Dr D R := door [.agg [.int .i64, .list (.int .u8), .list (.named 2), .bool], .int .i64] [] (fun (x : ((Int × List Int × List D2 × Bool × Unit) × Int × Unit)) (_y : (Unit)) K => g x.1.1 x.1.2.1 x.1.2.2.1 x.1.2.2.2.1 x.2.1 (fun z0 => K ⟨.bool z0, []⟩)) e
noncomputable def f8_o {R : Type} (k : Nat) : Orc D R := (orcAdd 34 (f34_d (f34 k) noDr) (orcAdd 33 (f33_d (f33 k) noDr) (orcAdd 32 (f32_d (f32 k) noDr) (orcAdd 31 (f31_d (f31 k) noDr) (orcAdd 23 (f23_d (f23 k) noDr) (orcAdd 18 (f18_d (f18 k) noDr) noOrc))))))
theorem f8_o_ok {R : Type} (k : Nat) : OrcOk Try.prog cx (f8_o (R := R) k) := (OrcOk.add (f34_ok k FnOk.no) (OrcOk.add (f33_ok k FnOk.no) (OrcOk.add (f32_ok k FnOk.no) (OrcOk.add (f31_ok k FnOk.no) (OrcOk.add (f23_ok k FnOk.no) (OrcOk.add (f18_ok k FnOk.no) OrcOk.no))))))
noncomputable def f8_b : Code := bodyOf Try.f8
noncomputable def f8_ann : Nat → Option LAnn := fun _key => none
noncomputable def f8_r {R : Type} (_k : Nat) : Lrc D R := noLrc
theorem f8_ok {R : Type} (k : Nat) {e : Dr D R} (he : FnOk Try.prog cx 8 e) : FnOk Try.prog cx 8 (f8_d (f8 k) e) :=
  he.door fun _x _y => body_ok (keep := kp) (ann := f8_ann) (lrc := f8_r (R := R) k) (N := 47) (n0 := 0) (c := []) cxOk mixed (f8_o_ok k) (body := f8_b) (by kernel_rfl : Try.prog.funcs[8]? = some Try.f8) (by kernel_rfl) (by kernel_rfl) (by kernel_rfl) (by kernel_rfl) (of_decide_eq_true (by kernel_rfl)) (L := []) (by kernel_rfl) trivial (J := []) (by kernel_rfl) trivial (LrcNat.no) (fun _K => by delta f8 f8_o; generalize @f18 R = a0; generalize @f23 R = a1; generalize @f31 R = a2; generalize @f32 R = a3; generalize @f33 R = a4; generalize @f34 R = a5; revert a0 a1 a2 a3 a4 a5; refine id ?_; intros; kernel_rfl)


end Go.Proofs.Ytklhjegfkpmdoaa
