/- Proved: each of these functions does what a plain function says. Conditions: none. -/
import Derived.Test.YtehmahdngjdhpaaDoorMach4
import Derived.Test.YtehmahdngjdhpaaDoorProg
import Derived.WalkKit
import Derived.LaidEql
import Derived.Stop.Asserts
import Derived.RowKitTokens

set_option maxRecDepth 100000
/-! The types of this program, for the machine. -/
namespace Go.Proofs.YtehmahdngjdhpaaDoor
open Go Go.Am
abbrev D0 : Type := Int × Int × Int × Int × Int
inductive D1 : Type where
  | mk (x0 : Int) (x1 : List Int) (x2 : List D1) (x3 : Bool)
def D1.c0 : D1 → Int
  | .mk x0 _ _ _ => x0
def D1.c1 : D1 → List Int
  | .mk _ x1 _ _ => x1
def D1.c2 : D1 → List D1
  | .mk _ _ x2 _ => x2
def D1.c3 : D1 → Bool
  | .mk _ _ _ x3 => x3
abbrev D2 : Type := ByteArray × Int × Int × List Int
abbrev D3 : Type := List Int × List D0 × Int × Int × Int
abbrev D4 : Type := List Int × Int × List D0
abbrev D5 : Type := Int × Int
abbrev D6 : Type := ByteArray × Int × Int × Int
noncomputable def D : Nat → Type
  | 0 => D0
  | 1 => D1
  | 2 => D2
  | 3 => D3
  | 4 => D4
  | 5 => D5
  | 6 => D6
  | _ => Unit
noncomputable def flds : Nat → List Ty
  | 0 => [.int .i64, .int .i64, .int .i64, .int .i64, .int .i64]
  | 1 => [.int .i64, (.slice (.int .u8)), (.slice (.named 1)), .bool]
  | 2 => [.str, .int .i64, .int .i64, (.slice (.int .u8))]
  | 3 => [(.slice (.int .u8)), (.slice (.named 0)), .int .i64, .int .i64, .int .i64]
  | 4 => [(.slice (.int .u8)), .int .i64, (.slice (.named 0))]
  | 5 => [.int .i64, .int .i64]
  | 6 => [.str, .int .i64, .int .i64, .int .i64]
  | _ => []
noncomputable def toT : (r : Nat) → D r → Tup D (flds r)
  | 0 => fun (x : D0) => x
  | 1 => fun (x : D1) => (x.c0, x.c1, x.c2, x.c3)
  | 2 => fun (x : D2) => x
  | 3 => fun (x : D3) => x
  | 4 => fun (x : D4) => x
  | 5 => fun (x : D5) => x
  | 6 => fun (x : D6) => x
  | _n + 7 => fun _ => ()
noncomputable def ofT : (r : Nat) → Tup D (flds r) → D r
  | 0 => fun (x : D0) => x
  | 1 => fun (x : Int × List Int × List D1 × Bool) => D1.mk x.1 x.2.1 x.2.2.1 x.2.2.2
  | 2 => fun (x : D2) => x
  | 3 => fun (x : D3) => x
  | 4 => fun (x : D4) => x
  | 5 => fun (x : D5) => x
  | 6 => fun (x : D6) => x
  | _n + 7 => fun _ => ()
noncomputable def zero1 : D1 := D1.mk 0 [] [] false
noncomputable def zero0 : D0 := (0, 0, 0, 0, 0)
noncomputable def zero2 : D2 := (ByteArray.empty, 0, 0, [])
noncomputable def zero3 : D3 := ([], [], 0, 0, 0)
noncomputable def zero4 : D4 := ([], 0, [])
noncomputable def zero5 : D5 := (0, 0)
noncomputable def zero6 : D6 := (ByteArray.empty, 0, 0, 0)
noncomputable def zeros : (r : Nat) → D r
  | 0 => zero0
  | 1 => zero1
  | 2 => zero2
  | 3 => zero3
  | 4 => zero4
  | 5 => zero5
  | 6 => zero6
  | _n + 7 => ()
noncomputable def deep0 (v : D0) : List IV := [.int .i64 v.1] ++ [.int .i64 v.2.1] ++ [.int .i64 v.2.2.1] ++ [.int .i64 v.2.2.2.1] ++ [.int .i64 v.2.2.2.2]
mutual
noncomputable def deep1 : D1 → List IV
  | .mk x0 x1 x2 x3 => [.int .i64 x0] ++ [.list 1 (x1.map fun y => [.int .u8 y])] ++ [.list 4 (deep1s x2)] ++ [.bool x3]
noncomputable def deep1s : List D1 → List (List IV)
  | [] => []
  | x :: l => deep1 x :: deep1s l
end
theorem deep1s_map : ∀ l, deep1s l = l.map deep1
  | [] => by rw [deep1s]; rfl
  | _x :: l => by rw [deep1s, deep1s_map l]; rfl
noncomputable def deep2 (v : D2) : List IV := [.str v.1] ++ [.int .i64 v.2.1] ++ [.int .i64 v.2.2.1] ++ [.list 1 (v.2.2.2.map fun y => [.int .u8 y])]
noncomputable def deep3 (v : D3) : List IV := [.list 1 (v.1.map fun y => [.int .u8 y])] ++ [.list 5 (v.2.1.map fun y => deep0 y)] ++ [.int .i64 v.2.2.1] ++ [.int .i64 v.2.2.2.1] ++ [.int .i64 v.2.2.2.2]
noncomputable def deep4 (v : D4) : List IV := [.list 1 (v.1.map fun y => [.int .u8 y])] ++ [.int .i64 v.2.1] ++ [.list 5 (v.2.2.map fun y => deep0 y)]
noncomputable def deep5 (v : D5) : List IV := [.int .i64 v.1] ++ [.int .i64 v.2]
noncomputable def deep6 (v : D6) : List IV := [.str v.1] ++ [.int .i64 v.2.1] ++ [.int .i64 v.2.2.1] ++ [.int .i64 v.2.2.2]
noncomputable def deeps : (r : Nat) → D r → List IV
  | 0 => deep0
  | 1 => deep1
  | 2 => deep2
  | 3 => deep3
  | 4 => deep4
  | 5 => deep5
  | 6 => deep6
  | _n + 7 => fun _ => []
noncomputable def tab : List (Nat × TI D) := [
  (3, ⟨.int .i64, 1, 8, false, [.int .i64 0], some (.int .i64), false⟩),
  (22, ⟨.slice 5, 1, 24, false, [.nil], some (.slice (.int .u8)), false⟩),
  (23, ⟨.slice 38, 1, 24, false, [.nil], some (.slice (.named 1)), false⟩),
  (4, ⟨.bool, 1, 1, false, [.bool false], some .bool, false⟩),
  (38, ⟨.struct [(0, 1, false), (1, 1, false), (2, 1, false), (3, 1, false)], 4, 64, true, [.int .i64 0, .nil, .nil, .bool false], some (.named 1), false⟩),
  (30, ⟨.slice 79, 1, 24, false, [.nil], some (.slice (.named 0)), false⟩),
  (24, ⟨.int .i64, 1, 8, false, [.int .i64 0], some (.int .i64), false⟩),
  (5, ⟨.int .u8, 1, 1, false, [.int .u8 0], some (.int .u8), false⟩),
  (78, ⟨.struct [(0, 1, false), (1, 1, false), (2, 1, false), (3, 1, false), (4, 1, false)], 5, 72, true, [.nil, .nil, .int .i64 0, .int .i64 0, .int .i64 0], some (.named 3), false⟩),
  (9, ⟨.str, 1, 16, false, [.str ByteArray.empty], some .str, false⟩),
  (79, ⟨.struct [(0, 1, false), (1, 1, false), (2, 1, false), (3, 1, false), (4, 1, false)], 5, 40, true, [.int .i64 0, .int .i64 0, .int .i64 0, .int .i64 0, .int .i64 0], some (.named 0), true⟩),
  (61, ⟨.slice 9, 1, 24, false, [.nil], some (.slice .str), false⟩),
  (27, ⟨.slice 60, 1, 24, false, [.nil], some (.slice (.named 0)), false⟩),
  (110, ⟨.struct [(0, 1, false), (1, 1, false)], 2, 16, true, [.int .i64 0, .int .i64 0], some (.named 5), false⟩),
  (60, ⟨.struct [(0, 1, false), (1, 1, false), (2, 1, false), (3, 1, false), (4, 1, false)], 5, 40, true, [.int .i64 0, .int .i64 0, .int .i64 0, .int .i64 0, .int .i64 0], some (.named 0), false⟩),
  (114, ⟨.struct [(0, 1, false), (1, 1, false), (2, 1, false), (3, 1, false)], 4, 40, true, [.str ByteArray.empty, .int .i64 0, .int .i64 0, .int .i64 0], some (.named 6), false⟩),
  (96, ⟨.func, 1, 8, false, [.nilf], none, false⟩),
  (106, ⟨.struct [(0, 1, false), (1, 1, false), (2, 1, false)], 3, 56, true, [.nil, .int .i64 0, .nil], some (.named 4), false⟩),
  (58, ⟨.slice 3, 1, 24, false, [.nil], some (.slice (.int .i64)), false⟩),
  (97, ⟨.struct [(0, 1, false), (1, 1, false)], 2, 16, true, [.int .i64 0, .nilf], none, false⟩),
  (108, ⟨.iface, 1, 16, false, [.nilI], none, false⟩),
  (51, ⟨.struct [(0, 1, false), (1, 1, false), (2, 1, false), (3, 1, false)], 4, 56, true, [.str ByteArray.empty, .int .i64 0, .int .i64 0, .nil], some (.named 2), false⟩),
  (142, ⟨.int .u64, 1, 8, false, [.int .u64 0], some (.int .u64), false⟩),
  (99, ⟨.slice 97, 1, 24, false, [.nil], none, false⟩),
  (116, ⟨.ptr 110, 1, 8, false, [.nilp], none, false⟩),
  (145, ⟨.arr 256 5, 256, 256, true, [.int .u8 0, .int .u8 0, .int .u8 0, .int .u8 0, .int .u8 0, .int .u8 0, .int .u8 0, .int .u8 0, .int .u8 0, .int .u8 0, .int .u8 0, .int .u8 0, .int .u8 0, .int .u8 0, .int .u8 0, .int .u8 0, .int .u8 0, .int .u8 0, .int .u8 0, .int .u8 0, .int .u8 0, .int .u8 0, .int .u8 0, .int .u8 0, .int .u8 0, .int .u8 0, .int .u8 0, .int .u8 0, .int .u8 0, .int .u8 0, .int .u8 0, .int .u8 0, .int .u8 0, .int .u8 0, .int .u8 0, .int .u8 0, .int .u8 0, .int .u8 0, .int .u8 0, .int .u8 0, .int .u8 0, .int .u8 0, .int .u8 0, .int .u8 0, .int .u8 0, .int .u8 0, .int .u8 0, .int .u8 0, .int .u8 0, .int .u8 0, .int .u8 0, .int .u8 0, .int .u8 0, .int .u8 0, .int .u8 0, .int .u8 0, .int .u8 0, .int .u8 0, .int .u8 0, .int .u8 0, .int .u8 0, .int .u8 0, .int .u8 0, .int .u8 0, .int .u8 0, .int .u8 0, .int .u8 0, .int .u8 0, .int .u8 0, .int .u8 0, .int .u8 0, .int .u8 0, .int .u8 0, .int .u8 0, .int .u8 0, .int .u8 0, .int .u8 0, .int .u8 0, .int .u8 0, .int .u8 0, .int .u8 0, .int .u8 0, .int .u8 0, .int .u8 0, .int .u8 0, .int .u8 0, .int .u8 0, .int .u8 0, .int .u8 0, .int .u8 0, .int .u8 0, .int .u8 0, .int .u8 0, .int .u8 0, .int .u8 0, .int .u8 0, .int .u8 0, .int .u8 0, .int .u8 0, .int .u8 0, .int .u8 0, .int .u8 0, .int .u8 0, .int .u8 0, .int .u8 0, .int .u8 0, .int .u8 0, .int .u8 0, .int .u8 0, .int .u8 0, .int .u8 0, .int .u8 0, .int .u8 0, .int .u8 0, .int .u8 0, .int .u8 0, .int .u8 0, .int .u8 0, .int .u8 0, .int .u8 0, .int .u8 0, .int .u8 0, .int .u8 0, .int .u8 0, .int .u8 0, .int .u8 0, .int .u8 0, .int .u8 0, .int .u8 0, .int .u8 0, .int .u8 0, .int .u8 0, .int .u8 0, .int .u8 0, .int .u8 0, .int .u8 0, .int .u8 0, .int .u8 0, .int .u8 0, .int .u8 0, .int .u8 0, .int .u8 0, .int .u8 0, .int .u8 0, .int .u8 0, .int .u8 0, .int .u8 0, .int .u8 0, .int .u8 0, .int .u8 0, .int .u8 0, .int .u8 0, .int .u8 0, .int .u8 0, .int .u8 0, .int .u8 0, .int .u8 0, .int .u8 0, .int .u8 0, .int .u8 0, .int .u8 0, .int .u8 0, .int .u8 0, .int .u8 0, .int .u8 0, .int .u8 0, .int .u8 0, .int .u8 0, .int .u8 0, .int .u8 0, .int .u8 0, .int .u8 0, .int .u8 0, .int .u8 0, .int .u8 0, .int .u8 0, .int .u8 0, .int .u8 0, .int .u8 0, .int .u8 0, .int .u8 0, .int .u8 0, .int .u8 0, .int .u8 0, .int .u8 0, .int .u8 0, .int .u8 0, .int .u8 0, .int .u8 0, .int .u8 0, .int .u8 0, .int .u8 0, .int .u8 0, .int .u8 0, .int .u8 0, .int .u8 0, .int .u8 0, .int .u8 0, .int .u8 0, .int .u8 0, .int .u8 0, .int .u8 0, .int .u8 0, .int .u8 0, .int .u8 0, .int .u8 0, .int .u8 0, .int .u8 0, .int .u8 0, .int .u8 0, .int .u8 0, .int .u8 0, .int .u8 0, .int .u8 0, .int .u8 0, .int .u8 0, .int .u8 0, .int .u8 0, .int .u8 0, .int .u8 0, .int .u8 0, .int .u8 0, .int .u8 0, .int .u8 0, .int .u8 0, .int .u8 0, .int .u8 0, .int .u8 0, .int .u8 0, .int .u8 0, .int .u8 0, .int .u8 0, .int .u8 0, .int .u8 0, .int .u8 0, .int .u8 0, .int .u8 0, .int .u8 0, .int .u8 0, .int .u8 0, .int .u8 0, .int .u8 0, .int .u8 0, .int .u8 0, .int .u8 0, .int .u8 0, .int .u8 0, .int .u8 0, .int .u8 0, .int .u8 0, .int .u8 0, .int .u8 0, .int .u8 0, .int .u8 0, .int .u8 0, .int .u8 0], none, false⟩),
  (101, ⟨.slice 24, 1, 24, false, [.nil], some (.slice (.int .i64)), false⟩)]
def asciiTab : List Int := [0, 0, 0, 0, 0, 0, 0, 0, 0, 1, 1, 1, 1, 1, 0, 0, 0, 0, 0, 0, 0, 0, 0, 0, 0, 0, 0, 0, 0, 0, 0, 0, 1, 0, 0, 0, 0, 0, 0, 0, 0, 0, 0, 0, 0, 0, 0, 0, 0, 0, 0, 0, 0, 0, 0, 0, 0, 0, 0, 0, 0, 0, 0, 0, 0, 0, 0, 0, 0, 0, 0, 0, 0, 0, 0, 0, 0, 0, 0, 0, 0, 0, 0, 0, 0, 0, 0, 0, 0, 0, 0, 0, 0, 0, 0, 0, 0, 0, 0, 0, 0, 0, 0, 0, 0, 0, 0, 0, 0, 0, 0, 0, 0, 0, 0, 0, 0, 0, 0, 0, 0, 0, 0, 0, 0, 0, 0, 0, 0, 0, 0, 0, 0, 0, 0, 0, 0, 0, 0, 0, 0, 0, 0, 0, 0, 0, 0, 0, 0, 0, 0, 0, 0, 0, 0, 0, 0, 0, 0, 0, 0, 0, 0, 0, 0, 0, 0, 0, 0, 0, 0, 0, 0, 0, 0, 0, 0, 0, 0, 0, 0, 0, 0, 0, 0, 0, 0, 0, 0, 0, 0, 0, 0, 0, 0, 0, 0, 0, 0, 0, 0, 0, 0, 0, 0, 0, 0, 0, 0, 0, 0, 0, 0, 0, 0, 0, 0, 0, 0, 0, 0, 0, 0, 0, 0, 0, 0, 0, 0, 0, 0, 0, 0, 0, 0, 0, 0, 0, 0, 0, 0, 0, 0, 0, 0, 0, 0, 0, 0, 0, 0, 0, 0, 0, 0, 0]
noncomputable def gvs : Nat → PV D := fun g => bif Nat.beq g 1 then .lelem (.int .u8) asciiTab 0 0 else .undef
noncomputable def gcs : List (Nat × Value) := [(0, .iface 149 (.agg #[.pointer (some ⟨4, 108, none⟩)]))]
noncomputable def cx : Cx D := mkCx tab flds toT ofT zeros deeps gvs gcs
theorem deep1_eq (v : D1) : deep1 v = deepTup cx (flds 1) (toT 1 v) := by
  cases v with
  | mk _x0 _x1 _x2 _x3 => rw [deep1, deep1s_map]; rfl
theorem cxOk : CxOk cx Tryd.prog :=
  mkCx_ok (fun r => match r with
  | 0 => rfl
  | 1 => rfl
  | 2 => rfl
  | 3 => rfl
  | 4 => rfl
  | 5 => rfl
  | 6 => rfl
  | _n + 7 => rfl) (fun r x => match r, x with
  | 0, _ => rfl
  | 1, _ => rfl
  | 2, _ => rfl
  | 3, _ => rfl
  | 4, _ => rfl
  | 5, _ => rfl
  | 6, _ => rfl
  | _n + 7, _ => rfl) (fun r v => match r, v with
  | 0, _ => rfl
  | 1, v => deep1_eq v
  | 2, _ => rfl
  | 3, _ => rfl
  | 4, _ => rfl
  | 5, _ => rfl
  | 6, _ => rfl
  | _n + 7, _ => rfl) (by kernel_rfl)
abbrev KX (R : Type) : Type := Ex → List (PV D) → List (Option (Am.Obj D)) → Option R
abbrev KR (R : Type) : Type := RV D → Option R
theorem mixed : Tryd.prog.follows .mixedOrders = true := by kernel_rfl
def lit0 : ByteArray := ⟨#[109, 111, 118, 105, 32, 116, 114, 97, 107]⟩
def lit1 : ByteArray := ⟨#[45, 32, 109, 111, 118, 105, 32, 116, 114, 97, 107]⟩
noncomputable def kp : FuncId → List Bool := fun f => bif Nat.beq f 57 then [true, false, false] else []

end Go.Proofs.YtehmahdngjdhpaaDoor

/-! errors.As, at a target of a struct type of two numbers, by hand: what it does. -/
namespace Go.Proofs.YtehmahdngjdhpaaDoor
open Go.RowKit Go.Extern.Stop Go.Stop Go.Extern
theorem as_nil (t : Value) (w : World) :
    Calls Tryd.prog 77 #[.nilIface, t] w fun e w' => e = .returned (.bool false) ∧ w' = w := by
  go_enter Tryd.func77, Tryd.ntmps77
  go_wp2
  go_ret
  exact ⟨rfl, rfl⟩
theorem As.valueOfP (t : Addr) (w : World) : (ReflectliteValue.unpack (.iface 116 (.pointer (some t)))).run Tryd.prog w
    = .ok (.agg #[.pointer (some ⟨4, 116, none⟩), .pointer (some ⟨w.heap.size, 0, none⟩), .int .u64 150]) (w.alloc (.cells #[.pointer (some t)] 116)) := by kernel_rfl
theorem As.typeP (a : Addr) (w : World) : (ReflectliteValue.methodAny (ReflectliteValue.valueError "reflectlite.Value.Type" 0) (fun t _ _ _ => ReflectliteType.toType t) #[.agg #[.pointer (some ⟨4, 116, none⟩), .pointer (some a), .int .u64 150]]).run Tryd.prog w
    = .ok (.iface 149 (.agg #[.pointer (some ⟨4, 116, none⟩)])) w := by kernel_rfl
theorem As.methodKind (h : Value) (w : World) : (Go.method 309 149 (.agg #[h]) "Kind").run Tryd.prog w = .ok (120, h) w := by kernel_rfl
theorem As.kindP (w : World) : ((ReflectliteType.abiMethod fun t => (fun a : Nat => Value.int IntKind.u8 (a : Int)) <$> Rtype.kind t) #[.pointer (some ⟨4, 116, none⟩)]).run Tryd.prog w = .ok (.int .u8 22) w := by kernel_rfl
theorem As.kindV (w : World) : ((ReflectliteType.abiMethod fun t => (fun a : Nat => Value.int IntKind.u8 (a : Int)) <$> Rtype.kind t) #[.pointer (some ⟨4, 110, none⟩)]).run Tryd.prog w = .ok (.int .u8 25) w := by kernel_rfl
theorem rlm (z : Sem Value) (f : TypeId → Addr → Nat → Nat → Sem Value) (v : Value) :
    ReflectliteValue.method z f #[v] = (do match ← ReflectliteValue.parts v with | none => z | some (t, a, fl) => f t a fl (fl % 32)) := rfl
theorem As.partsP (a : Addr) (w : World) : (ReflectliteValue.parts (.agg #[.pointer (some ⟨4, 116, none⟩), .pointer (some a), .int .u64 150])).run Tryd.prog w = .ok (some (116, a, 150)) w := by kernel_rfl
theorem As.isNilP (a p : Addr) (W : World) (ha : W.cell? a = some (.pointer (some p))) :
    (ReflectliteValue.method (ReflectliteValue.valueError "reflectlite.Value.IsNil" 0) ReflectliteValue.isNil #[.agg #[.pointer (some ⟨4, 116, none⟩), .pointer (some a), .int .u64 150]]).run Tryd.prog W = .ok (.bool false) W := by
  rw [rlm]
  simp only [Sem.run_bind, As.partsP, Result.andThen]
  simp [ReflectliteValue.isNil, loadVar, isAgg, underlying, Tryd.underlying116, ha, Result.andThen]
theorem As.methodElem (h : Value) (w : World) : (Go.method 309 149 (.agg #[h]) "Elem").run Tryd.prog w = .ok (130, .agg #[h]) w := by kernel_rfl
theorem As.methodImplements (h : Value) (w : World) : (Go.method 309 149 (.agg #[h]) "Implements").run Tryd.prog w = .ok (131, .agg #[h]) w := by kernel_rfl
theorem As.methodAssignableTo (h : Value) (w : World) : (Go.method 309 149 (.agg #[h]) "AssignableTo").run Tryd.prog w = .ok (128, .agg #[h]) w := by kernel_rfl
theorem As.elemP (w : World) : (ReflectliteType.method ReflectliteType.elem #[.agg #[.pointer (some ⟨4, 116, none⟩)]]).run Tryd.prog w = .ok (.iface 149 (.agg #[.pointer (some ⟨4, 110, none⟩)])) w := by kernel_rfl
theorem As.implementsV (w : World) : (ReflectliteType.relation "Implements" ReflectliteType.implements_ #[.agg #[.pointer (some ⟨4, 110, none⟩)], .iface 149 (.agg #[.pointer (some ⟨4, 108, none⟩)])]).run Tryd.prog w = .ok (.bool true) w := by kernel_rfl
theorem As.typeOfV (v : Value) (w : World) : (ReflectliteType.typeOf #[.iface 110 v]).run Tryd.prog w = .ok (.iface 149 (.agg #[.pointer (some ⟨4, 110, none⟩)])) w := by kernel_rfl
theorem As.assignableV (w : World) : (ReflectliteType.relation "AssignableTo" ReflectliteType.assignableTo #[.agg #[.pointer (some ⟨4, 110, none⟩)], .iface 149 (.agg #[.pointer (some ⟨4, 110, none⟩)])]).run Tryd.prog w = .ok (.bool true) w := by kernel_rfl
theorem As.valueOfV (c0 c1 : Value) (w : World) : (ReflectliteValue.unpack (.iface 110 (.agg #[c0, c1]))).run Tryd.prog w
    = .ok (.agg #[.pointer (some ⟨4, 110, none⟩), .pointer (some ⟨w.heap.size, 0, none⟩), .int .u64 153]) (w.alloc (.cells #[c0, c1] 110)) := by kernel_rfl
theorem As.elemOfP (w : World) : (Rtype.elem? 116).run Tryd.prog w = .ok (some 110) w := by kernel_rfl
theorem As.mkV (p : Addr) (w : World) : (ReflectliteValue.mk 110 p ReflectliteValue.flagAddr).run Tryd.prog w = .ok (.agg #[.pointer (some ⟨4, 110, none⟩), .pointer (some p), .int .u64 409]) w := by kernel_rfl
theorem As.elemVP (a p : Addr) (W : World) (ha : W.cell? a = some (.pointer (some p))) :
    (ReflectliteValue.method (ReflectliteValue.valueError "reflectlite.Value.Elem" 0) ReflectliteValue.elem #[.agg #[.pointer (some ⟨4, 116, none⟩), .pointer (some a), .int .u64 150]]).run Tryd.prog W
      = .ok (.agg #[.pointer (some ⟨4, 110, none⟩), .pointer (some p), .int .u64 409]) W := by
  rw [rlm]
  simp only [Sem.run_bind, As.partsP, Result.andThen]
  simp [ReflectliteValue.elem, loadVar, isAgg, underlying, Tryd.underlying116, ha, Result.andThen, As.elemOfP, As.mkV]
theorem rls (v x : Value) : ReflectliteValue.set #[v, x] = (do
    let (some (dst, a, fl), some (src, b, _)) := (← ReflectliteValue.parts v, ← ReflectliteValue.parts x)
      | unsupported (.noEntry "extern/(internal/reflectlite.Value).Set.zeroValue")
    if fl / ReflectliteValue.flagAddr % 2 == 0 then unsupported (.noEntry "extern/(internal/reflectlite.Value).Set.unaddressable")
    let val ← loadVar src b
    if ← Rtype.directlyAssignable dst src then storeVar dst a val
    else if ← Rtype.implements dst src then
      if (← Rtype.kind src) == 20 then
        match val with
        | .nilIface => unsupported (.noEntry "extern/reflectlite: a nil value of one interface type handed on as a value of another")
        | _ => storeVar dst a val
      else storeVar dst a (.iface src val)
    else panicString ("reflectlite.Set: value of type " ++ (← Rtype.spelt src) ++ " is not assignable to type " ++ (← Rtype.spelt dst))
    pure (.tuple #[])) := rfl
theorem As.partsVa (a : Addr) (w : World) : (ReflectliteValue.parts (.agg #[.pointer (some ⟨4, 110, none⟩), .pointer (some a), .int .u64 409])).run Tryd.prog w = .ok (some (110, a, 409)) w := by kernel_rfl
theorem As.partsV (a : Addr) (w : World) : (ReflectliteValue.parts (.agg #[.pointer (some ⟨4, 110, none⟩), .pointer (some a), .int .u64 153])).run Tryd.prog w = .ok (some (110, a, 153)) w := by kernel_rfl
theorem As.directV (w : World) : (Rtype.directlyAssignable 110 110).run Tryd.prog w = .ok true w := by kernel_rfl
theorem As.sizeV (w : World) : (sizeOf 110).run Tryd.prog w = .ok 2 w := by kernel_rfl
theorem As.aggV (w : World) : (isAgg 110).run Tryd.prog w = .ok true w := by kernel_rfl
theorem As.setV (ta b : Addr) (c0 c1 : Value) (W W' : World) (hb : (loadCells b 2).run Tryd.prog W = .ok #[c0, c1] W) (hs : (storeCells ta [c0, c1]).run Tryd.prog W = .ok () W') :
    (ReflectliteValue.set #[.agg #[.pointer (some ⟨4, 110, none⟩), .pointer (some ta), .int .u64 409], .agg #[.pointer (some ⟨4, 110, none⟩), .pointer (some b), .int .u64 153]]).run Tryd.prog W
      = .ok (.tuple #[]) W' := by
  rw [rls]
  simp only [Sem.run_bind, As.partsVa, As.partsV, Result.andThen]
  simp [ReflectliteValue.flagAddr, loadVar, hb, Result.andThen, As.directV, storeVar, Value.cells, hs]

set_option maxHeartbeats 4000000 in
theorem as_hit (b : Nat) (c0 c1 : Value) (c : Array Value) (e : TypeId) (fr : Nat × Nat) (w : World) (hg : w.cell? ⟨0, 0, none⟩ = some (.iface 149 (.agg #[.pointer (some ⟨4, 108, none⟩)])))
    (hc : w.heap[b]? = some (.cells c e fr)) (h2 : c.size = 2) (hfr : ∀ j, j < c.size → ¬ (fr.1 ≤ j ∧ j < fr.2)) (o0 : c0.oneCell' = true) (o1 : c1.oneCell' = true) :
    ∃ W', Am.Wrote ((((w.alloc (.cells #[.pointer (some ⟨b, 0, none⟩)] 116)).alloc (.cells #[.pointer (some ⟨4, 116, none⟩), .pointer (some ⟨w.heap.size, 0, none⟩), .int .u64 150] 130)).alloc (.cells #[.pointer (some ⟨4, 116, none⟩), .pointer (some ⟨w.heap.size, 0, none⟩), .int .u64 150] 130)).alloc (.cells #[c0, c1] 110)) b (Am.setLs c 0 [c0, c1]) e fr W' ∧
      Calls Tryd.prog 77 #[.iface 110 (.agg #[c0, c1]), .iface 116 (.pointer (some ⟨b, 0, none⟩))] w fun ev w' => ev = .returned (.bool true) ∧ w' = W' := by
  have h6 := @run_callFunc_extern Tryd.prog 90 _ (fun args => ReflectliteValue.unpack (args.getD 0 (.tuple #[]))) Tryd.func90 (by kernel_rfl) (by kernel_rfl) (by kernel_rfl) (by kernel_rfl)
  have h7 := @run_callFunc_extern Tryd.prog 91 _ (ReflectliteValue.methodAny (ReflectliteValue.valueError "reflectlite.Value.Type" 0) (fun t _ _ _ => ReflectliteType.toType t)) Tryd.func91 (by kernel_rfl) (by kernel_rfl) (by kernel_rfl) (by kernel_rfl)
  have h8 := @run_callFunc_extern Tryd.prog 92 _ (ReflectliteValue.method (ReflectliteValue.valueError "reflectlite.Value.IsNil" 0) ReflectliteValue.isNil) Tryd.func92 (by kernel_rfl) (by kernel_rfl) (by kernel_rfl) (by kernel_rfl)
  have h27 := @run_callFunc_extern Tryd.prog 120 _ (ReflectliteType.abiMethod fun t => do pure (.int .u8 (← Rtype.kind t))) Tryd.func120 (by kernel_rfl) (by kernel_rfl) (by kernel_rfl) (by kernel_rfl)
  have h37 := @run_callFunc_extern Tryd.prog 130 _ (ReflectliteType.method ReflectliteType.elem) Tryd.func130 (by kernel_rfl) (by kernel_rfl) (by kernel_rfl) (by kernel_rfl)
  have h38 := @run_callFunc_extern Tryd.prog 131 _ (ReflectliteType.relation "Implements" ReflectliteType.implements_) Tryd.func131 (by kernel_rfl) (by kernel_rfl) (by kernel_rfl) (by kernel_rfl)
  have h10 := @run_callFunc_extern Tryd.prog 100 _ ReflectliteType.typeOf Tryd.func100 (by kernel_rfl) (by kernel_rfl) (by kernel_rfl) (by kernel_rfl)
  have h35 := @run_callFunc_extern Tryd.prog 128 _ (ReflectliteType.relation "AssignableTo" ReflectliteType.assignableTo) Tryd.func128 (by kernel_rfl) (by kernel_rfl) (by kernel_rfl) (by kernel_rfl)
  have h11 := @run_callFunc_extern Tryd.prog 101 _ (ReflectliteValue.method (ReflectliteValue.valueError "reflectlite.Value.Elem" 0) ReflectliteValue.elem) Tryd.func101 (by kernel_rfl) (by kernel_rfl) (by kernel_rfl) (by kernel_rfl)
  have h12 := @run_callFunc_extern Tryd.prog 102 _ ReflectliteValue.set Tryd.func102 (by kernel_rfl) (by kernel_rfl) (by kernel_rfl) (by kernel_rfl)
  have tO := As.typeOfV
  have mA := As.methodAssignableTo
  have a25 := As.assignableV
  have v25 := As.valueOfV
  have f6 := As.valueOfP
  have f7 := As.typeP
  have mK := As.methodKind
  have mE := As.methodElem
  have mI := As.methodImplements
  have k27 := As.kindP
  have k25 := As.kindV
  have e27 := As.elemP
  have i25 := As.implementsV
  have hbl : b < w.heap.size := (Array.getElem?_eq_some_iff.1 hc).1
  have hlt : 0 < w.heap.size := by
    by_cases h : 0 < w.heap.size
    · exact h
    · have h0 : w.heap[0]? = none := Array.getElem?_eq_none (by omega)
      simp [World.cell?, h0] at hg
  have n8 := As.isNilP ⟨w.heap.size, 0, none⟩ ⟨b, 0, none⟩ ((w.alloc (.cells #[.pointer (some ⟨b, 0, none⟩)] 116)).alloc (.cells #[.pointer (some ⟨4, 116, none⟩), .pointer (some ⟨w.heap.size, 0, none⟩), .int .u64 150] 130)) (by simp)
  have hg2 : ((w.alloc (.cells #[.pointer (some ⟨b, 0, none⟩)] 116)).alloc (.cells #[.pointer (some ⟨4, 116, none⟩), .pointer (some ⟨w.heap.size, 0, none⟩), .int .u64 150] 130)).cell? ⟨0, 0, none⟩ = some (.iface 149 (.agg #[.pointer (some ⟨4, 108, none⟩)])) := by
    rw [World.cell?_alloc_lt _ _ ⟨0, 0, none⟩ (by first | (simp; done) | (simp; omega)), World.cell?_alloc_lt _ _ ⟨0, 0, none⟩ hlt]; exact hg
  have el := As.elemVP ⟨w.heap.size, 0, none⟩ ⟨b, 0, none⟩ (((w.alloc (.cells #[.pointer (some ⟨b, 0, none⟩)] 116)).alloc (.cells #[.pointer (some ⟨4, 116, none⟩), .pointer (some ⟨w.heap.size, 0, none⟩), .int .u64 150] 130)).alloc (.cells #[.pointer (some ⟨4, 116, none⟩), .pointer (some ⟨w.heap.size, 0, none⟩), .int .u64 150] 130)) (by rw [World.cell?_alloc_lt _ _ ⟨w.heap.size, 0, none⟩ (by simp; omega)]; simp)
  obtain ⟨W4, hW4⟩ : ∃ W4, W4 = ((((w.alloc (.cells #[.pointer (some ⟨b, 0, none⟩)] 116)).alloc (.cells #[.pointer (some ⟨4, 116, none⟩), .pointer (some ⟨w.heap.size, 0, none⟩), .int .u64 150] 130)).alloc (.cells #[.pointer (some ⟨4, 116, none⟩), .pointer (some ⟨w.heap.size, 0, none⟩), .int .u64 150] 130)).alloc (.cells #[c0, c1] 110)) := ⟨_, rfl⟩
  have hsz : W4.heap.size = w.heap.size + 4 := by
    rw [hW4]
    show ((((w.heap.push _).push _).push _).push _).size = _
    simp only [Array.size_push]
  have hb4 : W4.heap[b]? = some (.cells c e fr) := by
    rw [hW4]; simp only [World.alloc]
    rw [Array.getElem?_push_lt (by simp; omega), Array.getElem_push_lt (by simp; omega), Array.getElem_push_lt (by simp; omega), Array.getElem_push_lt hbl]
    rw [← hc]; exact (Array.getElem?_eq_getElem hbl).symm
  obtain ⟨W', hs1, hs2⟩ := Am.storeCells_run (P := Tryd.prog) b 0 e fr [c0, c1] 0 W4 c hb4 (by simp [o0, o1]) (by simp [h2]) hfr
  have hld : (loadCells ⟨w.heap.size + 1 + 1 + 1, 0, none⟩ 2).run Tryd.prog W4 = .ok #[c0, c1] W4 := by
    have := run_loadCells_list (P := Tryd.prog) W4 ⟨w.heap.size + 1 + 1 + 1, 0, none⟩ [c0, c1] (fun j v hj => by
      match j, hj with
      | 0, hj =>
        show W4.cell? ⟨w.heap.size + 1 + 1 + 1, 0, none⟩ = some v
        rw [hW4, World.cell?_alloc_at _ _ _ _ (by simp)]
        simpa using hj
      | 1, hj =>
        show W4.cell? ⟨w.heap.size + 1 + 1 + 1, 1, none⟩ = some v
        rw [hW4, World.cell?_alloc_at _ _ _ _ (by simp)]
        simpa using hj
      | j + 2, hj => simp at hj)
    simpa using this
  have st := As.setV ⟨b, 0, none⟩ ⟨w.heap.size + 1 + 1 + 1, 0, none⟩ c0 c1 W4 W' hld hs1
  rw [hW4] at st
  refine ⟨W', by rw [← hW4]; simpa using hs2, ?_⟩
  clear hs1 hs2 hld hb4 hsz hW4 hfr hc
  go_enter Tryd.func77, Tryd.ntmps77
  go_wp2
  refine wp_loop_rounds 1 ?_
  rw [rounds_succ]
  go_wp2
  go_ret
  exact ⟨rfl, rfl⟩
end Go.Proofs.YtehmahdngjdhpaaDoor

/-! errors.As for the machine. -/
namespace Go.Proofs.YtehmahdngjdhpaaDoor
open Go Go.Am
abbrev asNil_T (R : Type) : Type := Int → Int → (Bool → Int → Int → Option R) → Option R
noncomputable def asNil {R : Type} (_k : Nat) (b0 b1 : Int) (K : Bool → Int → Int → Option R) : Option R := K false b0 b1
noncomputable def asNil_d {R : Type} (g : asNil_T R) (e : Dr D R) : Dr D R := door [.nilI, .ifc 116 (.ptr 0 0)] [.box [.int .i64, .int .i64]] (fun (_x : (Unit × Unit × Unit)) (y : ((Int × Int × Unit) × Unit)) K => g y.1.1 y.1.2.1 (fun z0 z1 z2 => K ⟨.bool z0, [some (.box [.int .i64 z1, .int .i64 z2])]⟩)) e
abbrev asHit_T (R : Type) : Type := Int → Int → Int → Int → (Bool → Int → Int → Option R) → Option R
noncomputable def asHit {R : Type} (_k : Nat) (a0 a1 _b0 _b1 : Int) (K : Bool → Int → Int → Option R) : Option R := K true a0 a1
noncomputable def asHit_d {R : Type} (g : asHit_T R) (e : Dr D R) : Dr D R := door [.ifc 110 (.agg [.int .i64, .int .i64]), .ifc 116 (.ptr 0 0)] [.box [.int .i64, .int .i64]] (fun (x : ((Int × Int × Unit) × Unit × Unit)) (y : ((Int × Int × Unit) × Unit)) K => g x.1.1 x.1.2.1 y.1.1 y.1.2.1 (fun z0 z1 z2 => K ⟨.bool z0, [some (.box [.int .i64 z1, .int .i64 z2])]⟩)) e
theorem asBody : ∃ fn body, Tryd.prog.funcs[77]? = some fn ∧ fn.body = some body ∧ (fn.name == "runtime.NumGoroutine") = false := ⟨Tryd.f77, _, by kernel_rfl, rfl, by kernel_rfl⟩
theorem asNil_ok {R : Type} (k : Nat) {e : Dr D R} (he : FnOk Tryd.prog cx 77 e) : FnOk Tryd.prog cx 77 (asNil_d (asNil k) e) :=
  he.door fun x y => ⟨fun K r hK => by
    intro β F w vals hp hr hn hn'
    obtain ⟨fn, body, h1, h2, h3⟩ := asBody
    refine callOut_of h1 h2 h3 ?_
    match vals, hr with
    | [v1, v2], hr =>
      obtain ⟨r1, r2, _⟩ := hr
      cases r1
      refine (as_nil v2 w).mono ?_
      rintro ev w' ⟨rfl, rfl⟩
      exact ⟨_, rfl, _, β, F, hK, ret_same hp rfl rfl hn'⟩, .ret _⟩
theorem asHit_ok {R : Type} (k : Nat) {e : Dr D R} (he : FnOk Tryd.prog cx 77 e) : FnOk Tryd.prog cx 77 (asHit_d (asHit k) e) :=
  he.door fun x y => ⟨fun K r hK => by
    intro β F w vals hp hr hn hn'
    obtain ⟨fn, body, h1, h2, h3⟩ := asBody
    refine callOut_of h1 h2 h3 ?_
    match vals, hr with
    | [v1, v2], hr =>
      obtain ⟨r1, r2, _⟩ := hr
      obtain ⟨u, rfl, cs, rfl, r1⟩ := r1
      obtain ⟨c0, c1, rfl, q0, q1⟩ : ∃ c0 c1, cs = #[c0, c1] ∧ c0 = .int .i64 x.1.1 ∧ c1 = .int .i64 x.1.2.1 := by
        match hcs : cs.toList, r1 with
        | [c0, c1], r1 => exact ⟨c0, c1, by rw [← Array.toList_inj, hcs], r1.1, r1.2.1⟩
      subst q0 q1
      obtain ⟨u, rfl, r2⟩ := r2
      obtain ⟨b, c, e', fr, hβ, hB⟩ := hp.box 0 [.int .i64 y.1.1, .int .i64 y.1.2.1] rfl
      have r2 : ∃ b o0 c, β 0 = some (b, o0, c) ∧ u = .pointer (some ⟨b, o0 + 0, none⟩) := r2
      obtain ⟨b', o0, c', hβ', rfl⟩ := r2
      rw [hβ] at hβ'
      simp only [Option.some.injEq, Prod.mk.injEq] at hβ'
      obtain ⟨rfl, rfl, rfl⟩ := hβ'
      have hsz : c.size = 2 := by
        have := ((PReps_all2 ..).1 hB.reps).length
        simpa using this.symm
      have hg := (hp.gl.2 (0, .iface 149 (.agg #[.pointer (some ⟨4, 108, none⟩)])) (by show _ ∈ gcs; simp [gcs])).2
      obtain ⟨W', hw, hcall⟩ := as_hit b (.int .i64 x.1.1) (.int .i64 x.1.2.1) c e' fr w hg hB.at_ hsz hB.free rfl rfl
      rw [setLs_two c hsz] at hw
      refine hcall.mono ?_
      rintro ev w' ⟨rfl, rfl⟩
      refine ⟨_, rfl, _, β, F, hK, ret_box (cs' := [.int .i64 x.1.1, .int .i64 x.1.2.1]) (c' := #[.int .i64 x.1.1, .int .i64 x.1.2.1]) (e := e') (fr := fr) hp hβ (fun z hz hl => ?_) ?_ hw.at_ (by rw [show (#[Value.int .i64 x.1.1, Value.int .i64 x.1.2.1] : Array Value).size = c.size by rw [hsz]; rfl]; exact hB.free) (fun S => ⟨rfl, rfl, trivial⟩) hw.os hw.tape hw.output rfl rfl (fun S => rfl)⟩
      · rw [hw.other z hz]
        simp only [World.alloc]
        rw [Array.getElem?_push_lt (by simp; omega), Array.getElem_push_lt (by simp; omega), Array.getElem_push_lt (by simp; omega), Array.getElem_push_lt hl]
        exact (Array.getElem?_eq_getElem hl).symm
      · rw [hw.size]
        show _ ≤ ((((w.heap.push _).push _).push _).push _).size
        simp only [Array.size_push]; omega, .ret _⟩
end Go.Proofs.YtehmahdngjdhpaaDoor

/-! What the functions do, as plain functions; and that they do. -/
namespace Go.Proofs.YtehmahdngjdhpaaDoor
open Go Go.Am
abbrev f79_T (R : Type) : Type := List Int → Int → Int → (Int → Int → Option R) → Option R
/-! ## 79: diorama/bits.Int -/
noncomputable def f79_l7 {R : Type} : Nat → Int → List Int → Int → Int → (Int → Option R) → Option R
  | 0, _, _, _, _, _ => none
  | k + 1, v1, v2, v3, v4, X0 =>
  bif decide (v4 < v3) then
   bif inb v4 v2.length then
    f79_l7 k (orI .u64 (shlI .u64 v1 8) (IntKind.u64.wrap ((v2.getD v4.toNat 0)))) v2 v3 (IntKind.i64.wrap (v4 + 1)) X0
   else
    none
  else
   X0 v1
noncomputable def f79 {R : Type} (k : Nat) (a0 : List Int) (a1 a2 : Int) (K : Int → Int → Option R) : Option R :=
 bif decide (a2 < 1) then
  K 0 1
 else
  bif decide (a2 > 8) then
   K 0 1
  else
   bif decide (a1 < 0) then
    K 0 1
   else
    bif decide (a1 > (a0.length : Int)) then
     K 0 3
    else
     bif decide ((IntKind.i64.wrap ((a0.length : Int) - a1)) < a2) then
      K 0 3
     else
      bif upto (IntKind.i64.wrap (a1 + a2)) a0.length then
      bif (decide (0 ≤ a1)) && (decide (a1 ≤ (IntKind.i64.wrap (a1 + a2)))) then
      f79_l7 k 0 ((a0.take ((IntKind.i64.wrap (a1 + a2)).toNat)).drop a1.toNat) (((a0.take ((IntKind.i64.wrap (a1 + a2)).toNat)).drop a1.toNat).length : Int) 0 (fun v5 =>
      bif decide (v5 > 9223372036854775807) then
      K 0 1
      else
      K (IntKind.i64.wrap (v5)) 0)
      else
      none
      else
      none
noncomputable def f79_d {R : Type} (g : f79_T R) (e : Dr D R) : Dr D R := door [.list (.int .u8), .int .i64, .int .i64] [] (fun (x : (List Int × Int × Int × Unit)) (_y : (Unit)) K => g x.1 x.2.1 x.2.2.1 (fun z0 z1 => K ⟨.tup [.int .i64 z0, .int .i64 z1], []⟩)) e
noncomputable def f79_o {R : Type} (_k : Nat) : Orc D R := noOrc
theorem f79_o_ok {R : Type} (k : Nat) : OrcOk Tryd.prog cx (f79_o (R := R) k) := OrcOk.no
noncomputable def f79_b : Code := bodyOf Tryd.f79
noncomputable def f79_l7_a : LAnn := ⟨⟨[], [8, 38, 39, 40], [], []⟩, exOf (none) [(0, ⟨[], [8], [], []⟩)]⟩
noncomputable def f79_ann : Nat → Option LAnn := fun key => bif Nat.beq key 7 then some f79_l7_a else none
noncomputable def f79_l7_b : Code := loopAt f79_b 0
noncomputable def f79_l7_g {R : Type} (k : Nat) (x : (Int × List Int × Int × Int × Unit)) (_y : (Unit)) (K : KX R) : Option R := f79_l7 k x.1 x.2.1 x.2.2.1 x.2.2.2.1 (fun z0 => K (.exit 0) [.int .u64 z0] [])
noncomputable def f79_l7_d {R : Type} (k : Nat) : Lr D R := ldoor [.int .u64, .list (.int .u8), .int .i64, .int .i64] [] (f79_l7_g k)
noncomputable def f79_l7_r {R : Type} (_k : Nat) : Lrc D R := noLrc
theorem f79_l7_d_ok {R : Type} : ∀ k, LoopOk Tryd.prog cx 54 0 f79_ann (f79_l7_d (R := R) k) f79_l7_b :=
  loop_ok (keep := kp) (lrc := f79_l7_r (R := R)) cxOk mixed (f79_o_ok) (show f79_ann (Am.keyOf f79_l7_b) = some f79_l7_a by kernel_rfl) (L := []) (by kernel_rfl) (fun _k => trivial) (J := []) (by kernel_rfl) (fun _k => trivial) (fun _k => LrcNat.no) (fun _x _y _K => by kernel_rfl) (fun _k _x _y _K => by kernel_rfl)
noncomputable def f79_r {R : Type} (k : Nat) : Lrc D R := (lrcAdd 7 (f79_l7_d k) noLrc)
theorem f79_ok {R : Type} (k : Nat) {e : Dr D R} (he : FnOk Tryd.prog cx 79 e) : FnOk Tryd.prog cx 79 (f79_d (f79 k) e) :=
  he.door fun _x _y => body_ok (keep := kp) (ann := f79_ann) (lrc := f79_r (R := R) k) (N := 54) (n0 := 0) (c := []) cxOk mixed (f79_o_ok k) (body := f79_b) (by kernel_rfl : Tryd.prog.funcs[79]? = some Tryd.f79) (by kernel_rfl) (by kernel_rfl) (by kernel_rfl) (by kernel_rfl) (of_decide_eq_true (by kernel_rfl)) (L := [f79_l7_b]) (by kernel_rfl) (⟨(f79_l7_d_ok k).use (by kernel_rfl), trivial⟩) (J := []) (by kernel_rfl) trivial ((LrcNat.add (f79_l7_d_ok k).2 LrcNat.no)) (fun _K => by kernel_rfl)

abbrev f54_T (R : Type) : Type := List Int → Int → (Int → Option R) → Option R
/-! ## 54: diorama/box.number -/
noncomputable def f54 {R : Type} (k : Nat) (a0 : List Int) (a1 : Int) (K : Int → Option R) : Option R :=
 f79 k a0 0 a1 (fun v1 v2 =>
  bif (v2 != 0) then
   K 9223372036854775807
  else
   K v1)
noncomputable def f54_d {R : Type} (g : f54_T R) (e : Dr D R) : Dr D R := door [.list (.int .u8), .int .i64] [] (fun (x : (List Int × Int × Unit)) (_y : (Unit)) K => g x.1 x.2.1 (fun z0 => K ⟨.int .i64 z0, []⟩)) e
noncomputable def f54_o {R : Type} (k : Nat) : Orc D R := (orcAdd 79 (f79_d (f79 k) noDr) noOrc)
theorem f54_o_ok {R : Type} (k : Nat) : OrcOk Tryd.prog cx (f54_o (R := R) k) := (OrcOk.add (f79_ok k FnOk.no) OrcOk.no)
noncomputable def f54_b : Code := bodyOf Tryd.f54
noncomputable def f54_ann : Nat → Option LAnn := fun _key => none
noncomputable def f54_r {R : Type} (_k : Nat) : Lrc D R := noLrc
theorem f54_ok {R : Type} (k : Nat) {e : Dr D R} (he : FnOk Tryd.prog cx 54 e) : FnOk Tryd.prog cx 54 (f54_d (f54 k) e) :=
  he.door fun _x _y => body_ok (keep := kp) (ann := f54_ann) (lrc := f54_r (R := R) k) (N := 16) (n0 := 0) (c := []) cxOk mixed (f54_o_ok k) (body := f54_b) (by kernel_rfl : Tryd.prog.funcs[54]? = some Tryd.f54) (by kernel_rfl) (by kernel_rfl) (by kernel_rfl) (by kernel_rfl) (of_decide_eq_true (by kernel_rfl)) (L := []) (by kernel_rfl) trivial (J := []) (by kernel_rfl) trivial (LrcNat.no) (fun _K => by delta f54 f54_o; generalize @f79 R = a0; revert a0; refine id ?_; intros; kernel_rfl)

abbrev f89_T (R : Type) : Type := Int → ByteArray → Int → Int → Int → List Int → Int → (Int → Int → ByteArray → Int → Int → List Int → Int → Option R) → (Int → Int → ByteArray → List Int → Int → Option R) → Option R
/-! ## 89: (*diorama/box.parser).head -/
noncomputable def f89 {R : Type} (k : Nat) (a0 : Int) (_a1 : ByteArray) (_a2 a3 a4 : Int) (a5 : List Int) (a6 : Int) (K0 : Int → Int → ByteArray → Int → Int → List Int → Int → Option R) (K1 : Int → Int → ByteArray → List Int → Int → Option R) : Option R :=
 bif decide ((IntKind.i64.wrap (a3 - a0)) < 8) then
  K0 0 0 (⟨#[]⟩ : ByteArray) 3 a0 a5 a6
 else
  bif upto a0 a5.length then
   f54 k (a5.drop a0.toNat) 4 (fun v1 =>
    bif (v1 == 1) then
     bif decide ((IntKind.i64.wrap (a3 - a0)) < 16) then
      K0 0 0 (⟨#[]⟩ : ByteArray) 3 a0 a5 a6
     else
      bif upto (IntKind.i64.wrap (a0 + 8)) a5.length then
      f54 k (a5.drop ((IntKind.i64.wrap (a0 + 8)).toNat)) 8 (fun v2 =>
      bif decide (v2 > (IntKind.i64.wrap ((a5.length : Int) - a0))) then
      K0 0 0 (⟨#[]⟩ : ByteArray) 3 a0 a5 a6
      else
      bif decide (v2 < 16) then
      K0 0 0 (⟨#[]⟩ : ByteArray) 41 a0 a5 a6
      else
      bif decide (v2 > (IntKind.i64.wrap (a3 - a0))) then
      K0 0 0 (⟨#[]⟩ : ByteArray) 41 a0 a5 a6
      else
      bif upto (IntKind.i64.wrap (a0 + 8)) a5.length then
      bif (decide (0 ≤ (IntKind.i64.wrap (a0 + 4)))) && (decide ((IntKind.i64.wrap (a0 + 4)) ≤ (IntKind.i64.wrap (a0 + 8)))) then
      K1 16 v2 (strOf ((a5.take ((IntKind.i64.wrap (a0 + 8)).toNat)).drop ((IntKind.i64.wrap (a0 + 4)).toNat))) a5 a6
      else
      none
      else
      none)
      else
      none
    else
     bif (v1 == 0) then
      bif decide (a4 > 1) then
      K0 0 0 (⟨#[]⟩ : ByteArray) 41 a0 a5 a6
      else
      bif upto (IntKind.i64.wrap (a0 + 8)) a5.length then
      bif (decide (0 ≤ (IntKind.i64.wrap (a0 + 4)))) && (decide ((IntKind.i64.wrap (a0 + 4)) ≤ (IntKind.i64.wrap (a0 + 8)))) then
      K1 8 (IntKind.i64.wrap (a3 - a0)) (strOf ((a5.take ((IntKind.i64.wrap (a0 + 8)).toNat)).drop ((IntKind.i64.wrap (a0 + 4)).toNat))) a5 a6
      else
      none
      else
      none
     else
      bif decide (v1 > (IntKind.i64.wrap ((a5.length : Int) - a0))) then
      K0 0 0 (⟨#[]⟩ : ByteArray) 3 a0 a5 a6
      else
      bif decide (v1 < 8) then
      K0 0 0 (⟨#[]⟩ : ByteArray) 41 a0 a5 a6
      else
      bif decide (v1 > (IntKind.i64.wrap (a3 - a0))) then
      K0 0 0 (⟨#[]⟩ : ByteArray) 41 a0 a5 a6
      else
      bif upto (IntKind.i64.wrap (a0 + 8)) a5.length then
      bif (decide (0 ≤ (IntKind.i64.wrap (a0 + 4)))) && (decide ((IntKind.i64.wrap (a0 + 4)) ≤ (IntKind.i64.wrap (a0 + 8)))) then
      K1 8 v1 (strOf ((a5.take ((IntKind.i64.wrap (a0 + 8)).toNat)).drop ((IntKind.i64.wrap (a0 + 4)).toNat))) a5 a6
      else
      none
      else
      none)
  else
   none
noncomputable def f89_d {R : Type} (g : f89_T R) (e : Dr D R) : Dr D R := door [.ptr 0 0, .int .i64, .agg [.str, .int .i64, .int .i64, .int .i64]] [.box [.list (.int .u8), .int .i64, .nil]] (fun (x : (Unit × Int × (ByteArray × Int × Int × Int × Unit) × Unit)) (y : ((List Int × Int × Unit × Unit) × Unit)) K => g x.2.1 x.2.2.1.1 x.2.2.1.2.1 x.2.2.1.2.2.1 x.2.2.1.2.2.2.1 y.1.1 y.1.2.1 (fun z0 z1 z2 z3 z4 z5 z6 => K ⟨.tup [.int .i64 z0, .int .i64 z1, .str z2, .ifc 110 (.agg [.int .i64 z3, .int .i64 z4])], [some (.box [.list (.int .u8) z5, .int .i64 z6, .nil])]⟩) (fun z0 z1 z2 z3 z4 => K ⟨.tup [.int .i64 z0, .int .i64 z1, .str z2, .nilI], [some (.box [.list (.int .u8) z3, .int .i64 z4, .nil])]⟩)) e
noncomputable def f89_o {R : Type} (k : Nat) : Orc D R := (orcAdd 54 (f54_d (f54 k) noDr) noOrc)
theorem f89_o_ok {R : Type} (k : Nat) : OrcOk Tryd.prog cx (f89_o (R := R) k) := (OrcOk.add (f54_ok k FnOk.no) OrcOk.no)
noncomputable def f89_b : Code := bodyOf Tryd.f89
noncomputable def f89_ann : Nat → Option LAnn := fun _key => none
noncomputable def f89_r {R : Type} (_k : Nat) : Lrc D R := noLrc
theorem f89_ok {R : Type} (k : Nat) {e : Dr D R} (he : FnOk Tryd.prog cx 89 e) : FnOk Tryd.prog cx 89 (f89_d (f89 k) e) :=
  he.door fun _x _y => body_ok (keep := kp) (ann := f89_ann) (lrc := f89_r (R := R) k) (N := 89) (n0 := 1) (c := []) cxOk mixed (f89_o_ok k) (body := f89_b) (by kernel_rfl : Tryd.prog.funcs[89]? = some Tryd.f89) (by kernel_rfl) (by kernel_rfl) (by kernel_rfl) (by kernel_rfl) (of_decide_eq_true (by kernel_rfl)) (L := []) (by kernel_rfl) trivial (J := []) (by kernel_rfl) trivial (LrcNat.no) (fun _K => by delta f89 f89_o; generalize @f54 R = a0; revert a0; refine id ?_; intros; kernel_rfl)

abbrev f53_T (R : Type) : Type := Int → (Bool → Option R) → Option R
/-! ## 53: diorama/box.letter -/
noncomputable def f53 {R : Type} (_k : Nat) (a0 : Int) (K : Bool → Option R) : Option R :=
 bif decide (a0 ≥ 97) then
  bif decide (a0 ≤ 122) then
   K true
  else
   bif decide (a0 ≥ 48) then
    K (decide (a0 ≤ 57))
   else
    K false
 else
  bif decide (a0 ≥ 48) then
   K (decide (a0 ≤ 57))
  else
   K false
noncomputable def f53_d {R : Type} (g : f53_T R) (e : Dr D R) : Dr D R := door [.int .u8] [] (fun (x : (Int × Unit)) (_y : (Unit)) K => g x.1 (fun z0 => K ⟨.bool z0, []⟩)) e
noncomputable def f53_o {R : Type} (_k : Nat) : Orc D R := noOrc
theorem f53_o_ok {R : Type} (k : Nat) : OrcOk Tryd.prog cx (f53_o (R := R) k) := OrcOk.no
noncomputable def f53_b : Code := bodyOf Tryd.f53
noncomputable def f53_ann : Nat → Option LAnn := fun _key => none
noncomputable def f53_r {R : Type} (_k : Nat) : Lrc D R := noLrc
theorem f53_ok {R : Type} (k : Nat) {e : Dr D R} (he : FnOk Tryd.prog cx 53 e) : FnOk Tryd.prog cx 53 (f53_d (f53 k) e) :=
  he.door fun _x _y => body_ok (keep := kp) (ann := f53_ann) (lrc := f53_r (R := R) k) (N := 17) (n0 := 0) (c := []) cxOk mixed (f53_o_ok k) (body := f53_b) (by kernel_rfl : Tryd.prog.funcs[53]? = some Tryd.f53) (by kernel_rfl) (by kernel_rfl) (by kernel_rfl) (by kernel_rfl) (of_decide_eq_true (by kernel_rfl)) (L := []) (by kernel_rfl) trivial (J := []) (by kernel_rfl) trivial (LrcNat.no) (fun _K => by kernel_rfl)

abbrev f26_T (R : Type) : Type := ByteArray → (Int → Int → Option R) → Option R
/-! ## 26: diorama/box.Type -/
noncomputable def f26 {R : Type} (k : Nat) (a0 : ByteArray) (K : Int → Int → Option R) : Option R :=
 bif ((a0.size : Int) != 4) then
  K 0 80
 else
  bif inb 0 a0.size then
   f53 k ((a0.data.toList.getD 0 0).toNat : Int) (fun v1 =>
    bif (!v1) then
     K 0 80
    else
     bif inb 1 a0.size then
      f53 k ((a0.data.toList.getD 1 0).toNat : Int) (fun v2 =>
      bif (!v2) then
      K 0 80
      else
      bif inb 2 a0.size then
      f53 k ((a0.data.toList.getD 2 0).toNat : Int) (fun v3 =>
      bif (!v3) then
      K 0 80
      else
      bif inb 3 a0.size then
      f53 k ((a0.data.toList.getD 3 0).toNat : Int) (fun v4 =>
      bif (!v4) then
      K 0 80
      else
      f54 k (bytesOf a0) 4 (fun v5 =>
      K v5 0))
      else
      none)
      else
      none)
     else
      none)
  else
   none
noncomputable def f26_d {R : Type} (g : f26_T R) (e : Dr D R) : Dr D R := door [.str] [] (fun (x : (ByteArray × Unit)) (_y : (Unit)) K => g x.1 (fun z0 z1 => K ⟨.tup [.int .i64 z0, .int .i64 z1], []⟩)) e
noncomputable def f26_o {R : Type} (k : Nat) : Orc D R := (orcAdd 53 (f53_d (f53 k) noDr) (orcAdd 54 (f54_d (f54 k) noDr) noOrc))
theorem f26_o_ok {R : Type} (k : Nat) : OrcOk Tryd.prog cx (f26_o (R := R) k) := (OrcOk.add (f53_ok k FnOk.no) (OrcOk.add (f54_ok k FnOk.no) OrcOk.no))
noncomputable def f26_b : Code := bodyOf Tryd.f26
noncomputable def f26_ann : Nat → Option LAnn := fun _key => none
noncomputable def f26_r {R : Type} (_k : Nat) : Lrc D R := noLrc
theorem f26_ok {R : Type} (k : Nat) {e : Dr D R} (he : FnOk Tryd.prog cx 26 e) : FnOk Tryd.prog cx 26 (f26_d (f26 k) e) :=
  he.door fun _x _y => body_ok (keep := kp) (ann := f26_ann) (lrc := f26_r (R := R) k) (N := 34) (n0 := 0) (c := []) cxOk mixed (f26_o_ok k) (body := f26_b) (by kernel_rfl : Tryd.prog.funcs[26]? = some Tryd.f26) (by kernel_rfl) (by kernel_rfl) (by kernel_rfl) (by kernel_rfl) (of_decide_eq_true (by kernel_rfl)) (L := []) (by kernel_rfl) trivial (J := []) (by kernel_rfl) trivial (LrcNat.no) (fun _K => by delta f26 f26_o; generalize @f54 R = a0; generalize @f53 R = a1; revert a0 a1; refine id ?_; intros; kernel_rfl)

abbrev f59_T (R : Type) : Type := ByteArray → (ByteArray → Bool → Option R) → Option R
/-! ## 59: diorama/box.parents -/
noncomputable def f59 {R : Type} (_k : Nat) (a0 : ByteArray) (K : ByteArray → Bool → Option R) : Option R :=
 bif (a0.toList == (⟨#[109, 111, 118, 105]⟩ : ByteArray).toList) then
  bif (a0.toList == (⟨#[109, 111, 118, 105]⟩ : ByteArray).toList) then
   K (⟨#[45]⟩ : ByteArray) true
  else
   bif (a0.toList == (⟨#[116, 114, 97, 107]⟩ : ByteArray).toList) then
    K (⟨#[109, 111, 118, 105]⟩ : ByteArray) true
   else
    bif (a0.toList == (⟨#[109, 100, 105, 97]⟩ : ByteArray).toList) then
     bif (a0.toList == (⟨#[109, 100, 105, 97]⟩ : ByteArray).toList) then
      K (⟨#[116, 114, 97, 107]⟩ : ByteArray) true
     else
      bif (a0.toList == (⟨#[115, 116, 98, 108]⟩ : ByteArray).toList) then
      bif (a0.toList == (⟨#[115, 116, 98, 108]⟩ : ByteArray).toList) then
      K (⟨#[109, 100, 105, 97]⟩ : ByteArray) true
      else
      bif (a0.toList == (⟨#[117, 100, 97, 116]⟩ : ByteArray).toList) then
      K lit0 true
      else
      bif (a0.toList == (⟨#[116, 102, 114, 103]⟩ : ByteArray).toList) then
      K (⟨#[102, 114, 97, 103]⟩ : ByteArray) true
      else
      bif (a0.toList == (⟨#[109, 101, 116, 97]⟩ : ByteArray).toList) then
      K lit1 true
      else
      bif (a0.toList == (⟨#[105, 116, 101, 109]⟩ : ByteArray).toList) then
      K (⟨#[109, 101, 116, 97]⟩ : ByteArray) true
      else
      K (⟨#[]⟩ : ByteArray) false
      else
      bif (a0.toList == (⟨#[112, 114, 111, 116]⟩ : ByteArray).toList) then
      K (⟨#[109, 100, 105, 97]⟩ : ByteArray) true
      else
      bif (a0.toList == (⟨#[117, 100, 97, 116]⟩ : ByteArray).toList) then
      K lit0 true
      else
      bif (a0.toList == (⟨#[116, 102, 114, 103]⟩ : ByteArray).toList) then
      K (⟨#[102, 114, 97, 103]⟩ : ByteArray) true
      else
      bif (a0.toList == (⟨#[109, 101, 116, 97]⟩ : ByteArray).toList) then
      K lit1 true
      else
      bif (a0.toList == (⟨#[105, 116, 101, 109]⟩ : ByteArray).toList) then
      K (⟨#[109, 101, 116, 97]⟩ : ByteArray) true
      else
      K (⟨#[]⟩ : ByteArray) false
    else
     bif (a0.toList == (⟨#[101, 100, 116, 115]⟩ : ByteArray).toList) then
      K (⟨#[116, 114, 97, 107]⟩ : ByteArray) true
     else
      bif (a0.toList == (⟨#[115, 116, 98, 108]⟩ : ByteArray).toList) then
      bif (a0.toList == (⟨#[115, 116, 98, 108]⟩ : ByteArray).toList) then
      K (⟨#[109, 100, 105, 97]⟩ : ByteArray) true
      else
      bif (a0.toList == (⟨#[117, 100, 97, 116]⟩ : ByteArray).toList) then
      K lit0 true
      else
      bif (a0.toList == (⟨#[116, 102, 114, 103]⟩ : ByteArray).toList) then
      K (⟨#[102, 114, 97, 103]⟩ : ByteArray) true
      else
      bif (a0.toList == (⟨#[109, 101, 116, 97]⟩ : ByteArray).toList) then
      K lit1 true
      else
      bif (a0.toList == (⟨#[105, 116, 101, 109]⟩ : ByteArray).toList) then
      K (⟨#[109, 101, 116, 97]⟩ : ByteArray) true
      else
      K (⟨#[]⟩ : ByteArray) false
      else
      bif (a0.toList == (⟨#[112, 114, 111, 116]⟩ : ByteArray).toList) then
      K (⟨#[109, 100, 105, 97]⟩ : ByteArray) true
      else
      bif (a0.toList == (⟨#[117, 100, 97, 116]⟩ : ByteArray).toList) then
      K lit0 true
      else
      bif (a0.toList == (⟨#[116, 102, 114, 103]⟩ : ByteArray).toList) then
      K (⟨#[102, 114, 97, 103]⟩ : ByteArray) true
      else
      bif (a0.toList == (⟨#[109, 101, 116, 97]⟩ : ByteArray).toList) then
      K lit1 true
      else
      bif (a0.toList == (⟨#[105, 116, 101, 109]⟩ : ByteArray).toList) then
      K (⟨#[109, 101, 116, 97]⟩ : ByteArray) true
      else
      K (⟨#[]⟩ : ByteArray) false
 else
  bif (a0.toList == (⟨#[102, 114, 97, 103]⟩ : ByteArray).toList) then
   K (⟨#[45]⟩ : ByteArray) true
  else
   bif (a0.toList == (⟨#[116, 114, 97, 107]⟩ : ByteArray).toList) then
    K (⟨#[109, 111, 118, 105]⟩ : ByteArray) true
   else
    bif (a0.toList == (⟨#[109, 100, 105, 97]⟩ : ByteArray).toList) then
     bif (a0.toList == (⟨#[109, 100, 105, 97]⟩ : ByteArray).toList) then
      K (⟨#[116, 114, 97, 107]⟩ : ByteArray) true
     else
      bif (a0.toList == (⟨#[115, 116, 98, 108]⟩ : ByteArray).toList) then
      bif (a0.toList == (⟨#[115, 116, 98, 108]⟩ : ByteArray).toList) then
      K (⟨#[109, 100, 105, 97]⟩ : ByteArray) true
      else
      bif (a0.toList == (⟨#[117, 100, 97, 116]⟩ : ByteArray).toList) then
      K lit0 true
      else
      bif (a0.toList == (⟨#[116, 102, 114, 103]⟩ : ByteArray).toList) then
      K (⟨#[102, 114, 97, 103]⟩ : ByteArray) true
      else
      bif (a0.toList == (⟨#[109, 101, 116, 97]⟩ : ByteArray).toList) then
      K lit1 true
      else
      bif (a0.toList == (⟨#[105, 116, 101, 109]⟩ : ByteArray).toList) then
      K (⟨#[109, 101, 116, 97]⟩ : ByteArray) true
      else
      K (⟨#[]⟩ : ByteArray) false
      else
      bif (a0.toList == (⟨#[112, 114, 111, 116]⟩ : ByteArray).toList) then
      K (⟨#[109, 100, 105, 97]⟩ : ByteArray) true
      else
      bif (a0.toList == (⟨#[117, 100, 97, 116]⟩ : ByteArray).toList) then
      K lit0 true
      else
      bif (a0.toList == (⟨#[116, 102, 114, 103]⟩ : ByteArray).toList) then
      K (⟨#[102, 114, 97, 103]⟩ : ByteArray) true
      else
      bif (a0.toList == (⟨#[109, 101, 116, 97]⟩ : ByteArray).toList) then
      K lit1 true
      else
      bif (a0.toList == (⟨#[105, 116, 101, 109]⟩ : ByteArray).toList) then
      K (⟨#[109, 101, 116, 97]⟩ : ByteArray) true
      else
      K (⟨#[]⟩ : ByteArray) false
    else
     bif (a0.toList == (⟨#[101, 100, 116, 115]⟩ : ByteArray).toList) then
      K (⟨#[116, 114, 97, 107]⟩ : ByteArray) true
     else
      bif (a0.toList == (⟨#[115, 116, 98, 108]⟩ : ByteArray).toList) then
      bif (a0.toList == (⟨#[115, 116, 98, 108]⟩ : ByteArray).toList) then
      K (⟨#[109, 100, 105, 97]⟩ : ByteArray) true
      else
      bif (a0.toList == (⟨#[117, 100, 97, 116]⟩ : ByteArray).toList) then
      K lit0 true
      else
      bif (a0.toList == (⟨#[116, 102, 114, 103]⟩ : ByteArray).toList) then
      K (⟨#[102, 114, 97, 103]⟩ : ByteArray) true
      else
      bif (a0.toList == (⟨#[109, 101, 116, 97]⟩ : ByteArray).toList) then
      K lit1 true
      else
      bif (a0.toList == (⟨#[105, 116, 101, 109]⟩ : ByteArray).toList) then
      K (⟨#[109, 101, 116, 97]⟩ : ByteArray) true
      else
      K (⟨#[]⟩ : ByteArray) false
      else
      bif (a0.toList == (⟨#[112, 114, 111, 116]⟩ : ByteArray).toList) then
      K (⟨#[109, 100, 105, 97]⟩ : ByteArray) true
      else
      bif (a0.toList == (⟨#[117, 100, 97, 116]⟩ : ByteArray).toList) then
      K lit0 true
      else
      bif (a0.toList == (⟨#[116, 102, 114, 103]⟩ : ByteArray).toList) then
      K (⟨#[102, 114, 97, 103]⟩ : ByteArray) true
      else
      bif (a0.toList == (⟨#[109, 101, 116, 97]⟩ : ByteArray).toList) then
      K lit1 true
      else
      bif (a0.toList == (⟨#[105, 116, 101, 109]⟩ : ByteArray).toList) then
      K (⟨#[109, 101, 116, 97]⟩ : ByteArray) true
      else
      K (⟨#[]⟩ : ByteArray) false
noncomputable def f59_d {R : Type} (g : f59_T R) (e : Dr D R) : Dr D R := door [.str] [] (fun (x : (ByteArray × Unit)) (_y : (Unit)) K => g x.1 (fun z0 z1 => K ⟨.tup [.str z0, .bool z1], []⟩)) e
noncomputable def f59_o {R : Type} (_k : Nat) : Orc D R := noOrc
theorem f59_o_ok {R : Type} (k : Nat) : OrcOk Tryd.prog cx (f59_o (R := R) k) := OrcOk.no
noncomputable def f59_b : Code := bodyOf Tryd.f59
noncomputable def f59_ann : Nat → Option LAnn := fun _key => none
noncomputable def f59_r {R : Type} (_k : Nat) : Lrc D R := noLrc
theorem f59_ok {R : Type} (k : Nat) {e : Dr D R} (he : FnOk Tryd.prog cx 59 e) : FnOk Tryd.prog cx 59 (f59_d (f59 k) e) :=
  he.door fun _x _y => body_ok (keep := kp) (ann := f59_ann) (lrc := f59_r (R := R) k) (N := 24) (n0 := 0) (c := []) cxOk mixed (f59_o_ok k) (body := f59_b) (by kernel_rfl : Tryd.prog.funcs[59]? = some Tryd.f59) (by kernel_rfl) (by kernel_rfl) (by kernel_rfl) (by kernel_rfl) (of_decide_eq_true (by kernel_rfl)) (L := []) (by kernel_rfl) trivial (J := []) (by kernel_rfl) trivial (LrcNat.no) (fun _K => by kernel_rfl)

abbrev f85_T (R : Type) : Type := ByteArray → (List ByteArray → Option R) → Option R
/-! ## 85: strings.Fields -/
noncomputable def f85_l18 {R : Type} : Nat → ByteArray → Int → Int → List ByteArray → (ByteArray → Int → Int → List ByteArray → Option R) → Option R
  | 0, _, _, _, _, _ => none
  | k + 1, v9, v10, v11, v12, X0 =>
  bif decide (v11 < (v9.size : Int)) then
   bif inb v11 v9.size then
    bif (((true && true) && true) && inb ((v9.data.toList.getD v11.toNat 0).toNat : Int) 256) && inb ((v9.data.toList.getD v11.toNat 0).toNat : Int) asciiTab.length then
     bif ((asciiTab.getD (((v9.data.toList.getD v11.toNat 0).toNat : Int).toNat) 0) != 0) then
      f85_l18 k v9 v10 (IntKind.i64.wrap (v11 + 1)) v12 X0
     else
      X0 v9 v10 v11 v12
    else
     none
   else
    none
  else
   X0 v9 v10 v11 v12
noncomputable def f85_l27 {R : Type} : Nat → ByteArray → Int → Int → List ByteArray → (ByteArray → Int → Int → List ByteArray → Option R) → Option R
  | 0, _, _, _, _, _ => none
  | k + 1, v22, v23, v24, v25, X0 =>
  bif decide (v24 < (v22.size : Int)) then
   bif inb v24 v22.size then
    bif (((true && true) && true) && inb ((v22.data.toList.getD v24.toNat 0).toNat : Int) 256) && inb ((v22.data.toList.getD v24.toNat 0).toNat : Int) asciiTab.length then
     bif ((asciiTab.getD (((v22.data.toList.getD v24.toNat 0).toNat : Int).toNat) 0) != 0) then
      f85_l27 k v22 v23 (IntKind.i64.wrap (v24 + 1)) v25 X0
     else
      X0 v22 v23 v24 v25
    else
     none
   else
    none
  else
   X0 v22 v23 v24 v25
noncomputable def f85_l21 {R : Type} : Nat → ByteArray → Int → Int → Int → List ByteArray → (ByteArray → Int → Int → List ByteArray → Option R) → Option R
  | 0, _, _, _, _, _, _ => none
  | k + 1, v17, v18, v19, v20, v21, X0 =>
  bif decide (v20 < (v17.size : Int)) then
   bif inb v20 v17.size then
    bif (((true && true) && true) && inb ((v17.data.toList.getD v20.toNat 0).toNat : Int) 256) && inb ((v17.data.toList.getD v20.toNat 0).toNat : Int) asciiTab.length then
     bif ((asciiTab.getD (((v17.data.toList.getD v20.toNat 0).toNat : Int).toNat) 0) == 0) then
      f85_l21 k v17 v18 v19 (IntKind.i64.wrap (v20 + 1)) v21 X0
     else
      bif upto v20 v17.size then
      bif (decide (0 ≤ v19)) && (decide (v19 ≤ v20)) then
      bif inb v18 v21.length then
      f85_l27 k v17 (IntKind.i64.wrap (v18 + 1)) (IntKind.i64.wrap (v20 + 1)) (v21.set v18.toNat (v17.extract v19.toNat v20.toNat)) (fun v26 v27 v28 v29 =>
      f85_l21 k v26 v27 v28 v28 v29 X0)
      else
      none
      else
      none
      else
      none
    else
     none
   else
    none
  else
   X0 v17 v18 v19 v21
noncomputable def f85_l5 {R : Type} : Nat → ByteArray → Int → Int → Int → Int → (ByteArray → Int → Int → Option R) → Option R
  | 0, _, _, _, _, _, _ => none
  | k + 1, v1, v2, v3, v4, v5, X0 =>
  bif decide (v5 < (v1.size : Int)) then
   bif inb v5 v1.size then
    bif (((true && true) && true) && inb ((v1.data.toList.getD v5.toNat 0).toNat : Int) 256) && inb ((v1.data.toList.getD v5.toNat 0).toNat : Int) asciiTab.length then
     f85_l5 k v1 (IntKind.i64.wrap (v2 + (andI .i64 v3 (xorI .i64 (-1) (IntKind.i64.wrap ((asciiTab.getD (((v1.data.toList.getD v5.toNat 0).toNat : Int).toNat) 0))))))) (IntKind.i64.wrap ((asciiTab.getD (((v1.data.toList.getD v5.toNat 0).toNat : Int).toNat) 0))) (orI .u8 v4 ((v1.data.toList.getD v5.toNat 0).toNat : Int)) (IntKind.i64.wrap (v5 + 1)) X0
    else
     none
   else
    none
  else
   X0 v1 v2 v4
noncomputable def f85 {R : Type} (k : Nat) (a0 : ByteArray) (K : List ByteArray → Option R) : Option R :=
 f85_l5 k a0 0 1 0 0 (fun v6 v7 v8 =>
  bif decide (v8 ≥ 128) then
   none
  else
   bif (decide ((0 : Int) ≤ v7)) && (decide (v7 ≤ v7)) && (decide (v7 * ((16 : Nat) : Int) ≤ 140737488355328)) then
    f85_l18 k v6 0 0 (List.replicate v7.toNat ByteArray.empty) (fun v13 v14 v15 v16 =>
     f85_l21 k v13 v14 v15 v15 v16 (fun v30 v31 v32 v33 =>
      bif decide (v32 < (v30.size : Int)) then
      bif upto v32 v30.size then
      bif inb v31 v33.length then
      K (v33.set v31.toNat (v30.extract v32.toNat v30.size))
      else
      none
      else
      none
      else
      K v33))
   else
    none)
noncomputable def f85_d {R : Type} (g : f85_T R) (e : Dr D R) : Dr D R := door [.str] [] (fun (x : (ByteArray × Unit)) (_y : (Unit)) K => g x.1 (fun z0 => K ⟨.own 0, [some (.row .str z0 true)]⟩)) e
noncomputable def f85_o {R : Type} (_k : Nat) : Orc D R := noOrc
theorem f85_o_ok {R : Type} (k : Nat) : OrcOk Tryd.prog cx (f85_o (R := R) k) := OrcOk.no
noncomputable def f85_b : Code := bodyOf Tryd.f85
noncomputable def f85_l18_a : LAnn := ⟨⟨[], [0, 9, 10, 12], [983712], []⟩, exOf (none) [(2, ⟨[], [0, 9, 10, 12], [983712], []⟩)]⟩
noncomputable def f85_l27_a : LAnn := ⟨⟨[], [0, 9, 10, 12], [983712], []⟩, exOf (none) [(6, ⟨[], [0, 9, 10, 12], [983712], []⟩)]⟩
noncomputable def f85_l21_a : LAnn := ⟨⟨[], [0, 9, 10, 11, 12], [983712], []⟩, exOf (none) [(4, ⟨[], [0, 9, 10, 11], [983712], []⟩)]⟩
noncomputable def f85_l5_a : LAnn := ⟨⟨[], [0, 3, 4, 5, 6], [], []⟩, exOf (none) [(0, ⟨[], [0, 3, 5], [], []⟩)]⟩
noncomputable def f85_ann : Nat → Option LAnn := fun key => bif Nat.beq key 5 then some f85_l5_a else bif Nat.beq key 21 then some f85_l21_a else bif Nat.beq key 27 then some f85_l27_a else bif Nat.beq key 18 then some f85_l18_a else none
noncomputable def f85_l18_b : Code := loopAt f85_b 1
noncomputable def f85_l18_g {R : Type} (k : Nat) (x : (ByteArray × Unit × Int × Int × Unit)) (y : (List ByteArray × Unit)) (K : KX R) : Option R := f85_l18 k x.1 x.2.2.1 x.2.2.2.1 y.1 (fun z0 z1 z2 z3 => K (.exit 2) [.str z0, .own 983712, .int .i64 z1, .int .i64 z2] [some (.row .str z3 true)])
noncomputable def f85_l18_d {R : Type} (k : Nat) : Lr D R := ldoor [.str, .own 983712, .int .i64, .int .i64] [some (.row .str true)] (f85_l18_g k)
noncomputable def f85_l18_r {R : Type} (_k : Nat) : Lrc D R := noLrc
theorem f85_l18_d_ok {R : Type} : ∀ k, LoopOk Tryd.prog cx 106 0 f85_ann (f85_l18_d (R := R) k) f85_l18_b :=
  loop_ok (keep := kp) (lrc := f85_l18_r (R := R)) cxOk mixed (f85_o_ok) (show f85_ann (Am.keyOf f85_l18_b) = some f85_l18_a by kernel_rfl) (L := []) (by kernel_rfl) (fun _k => trivial) (J := []) (by kernel_rfl) (fun _k => trivial) (fun _k => LrcNat.no) (fun _x _y _K => by kernel_rfl) (fun _k _x _y _K => by kernel_rfl)
noncomputable def f85_l27_b : Code := loopAt f85_b 3
noncomputable def f85_l27_g {R : Type} (k : Nat) (x : (ByteArray × Unit × Int × Int × Unit)) (y : (List ByteArray × Unit)) (K : KX R) : Option R := f85_l27 k x.1 x.2.2.1 x.2.2.2.1 y.1 (fun z0 z1 z2 z3 => K (.exit 6) [.str z0, .own 983712, .int .i64 z1, .int .i64 z2] [some (.row .str z3 true)])
noncomputable def f85_l27_d {R : Type} (k : Nat) : Lr D R := ldoor [.str, .own 983712, .int .i64, .int .i64] [some (.row .str true)] (f85_l27_g k)
noncomputable def f85_l27_r {R : Type} (_k : Nat) : Lrc D R := noLrc
theorem f85_l27_d_ok {R : Type} : ∀ k, LoopOk Tryd.prog cx 106 0 f85_ann (f85_l27_d (R := R) k) f85_l27_b :=
  loop_ok (keep := kp) (lrc := f85_l27_r (R := R)) cxOk mixed (f85_o_ok) (show f85_ann (Am.keyOf f85_l27_b) = some f85_l27_a by kernel_rfl) (L := []) (by kernel_rfl) (fun _k => trivial) (J := []) (by kernel_rfl) (fun _k => trivial) (fun _k => LrcNat.no) (fun _x _y _K => by kernel_rfl) (fun _k _x _y _K => by kernel_rfl)
noncomputable def f85_l21_b : Code := loopAt f85_b 2
noncomputable def f85_l21_g {R : Type} (k : Nat) (x : (ByteArray × Unit × Int × Int × Int × Unit)) (y : (List ByteArray × Unit)) (K : KX R) : Option R := f85_l21 k x.1 x.2.2.1 x.2.2.2.1 x.2.2.2.2.1 y.1 (fun z0 z1 z2 z3 => K (.exit 4) [.str z0, .own 983712, .int .i64 z1, .int .i64 z2] [some (.row .str z3 true)])
noncomputable def f85_l21_d {R : Type} (k : Nat) : Lr D R := ldoor [.str, .own 983712, .int .i64, .int .i64, .int .i64] [some (.row .str true)] (f85_l21_g k)
noncomputable def f85_l21_r {R : Type} (k : Nat) : Lrc D R := (lrcAdd 27 (f85_l27_d k) noLrc)
theorem f85_l21_d_ok {R : Type} : ∀ k, LoopOk Tryd.prog cx 106 0 f85_ann (f85_l21_d (R := R) k) f85_l21_b :=
  loop_ok (keep := kp) (lrc := f85_l21_r (R := R)) cxOk mixed (f85_o_ok) (show f85_ann (Am.keyOf f85_l21_b) = some f85_l21_a by kernel_rfl) (L := [f85_l27_b]) (by kernel_rfl) (fun k => ⟨(f85_l27_d_ok k).use (by kernel_rfl), trivial⟩) (J := []) (by kernel_rfl) (fun _k => trivial) (fun k => (LrcNat.add (f85_l27_d_ok k).2 LrcNat.no)) (fun _x _y _K => by kernel_rfl) (fun _k _x _y _K => by kernel_rfl)
noncomputable def f85_l5_b : Code := loopAt f85_b 0
noncomputable def f85_l5_g {R : Type} (k : Nat) (x : (ByteArray × Int × Int × Int × Int × Unit)) (_y : (Unit)) (K : KX R) : Option R := f85_l5 k x.1 x.2.1 x.2.2.1 x.2.2.2.1 x.2.2.2.2.1 (fun z0 z1 z2 => K (.exit 0) [.str z0, .int .i64 z1, .int .u8 z2] [])
noncomputable def f85_l5_d {R : Type} (k : Nat) : Lr D R := ldoor [.str, .int .i64, .int .i64, .int .u8, .int .i64] [] (f85_l5_g k)
noncomputable def f85_l5_r {R : Type} (_k : Nat) : Lrc D R := noLrc
theorem f85_l5_d_ok {R : Type} : ∀ k, LoopOk Tryd.prog cx 106 0 f85_ann (f85_l5_d (R := R) k) f85_l5_b :=
  loop_ok (keep := kp) (lrc := f85_l5_r (R := R)) cxOk mixed (f85_o_ok) (show f85_ann (Am.keyOf f85_l5_b) = some f85_l5_a by kernel_rfl) (L := []) (by kernel_rfl) (fun _k => trivial) (J := []) (by kernel_rfl) (fun _k => trivial) (fun _k => LrcNat.no) (fun _x _y _K => by kernel_rfl) (fun _k _x _y _K => by kernel_rfl)
noncomputable def f85_r {R : Type} (k : Nat) : Lrc D R := (lrcAdd 27 (f85_l27_d k) (lrcAdd 21 (f85_l21_d k) (lrcAdd 18 (f85_l18_d k) (lrcAdd 5 (f85_l5_d k) noLrc))))
theorem f85_ok {R : Type} (k : Nat) {e : Dr D R} (he : FnOk Tryd.prog cx 85 e) : FnOk Tryd.prog cx 85 (f85_d (f85 k) e) :=
  he.door fun _x _y => body_ok (keep := kp) (ann := f85_ann) (lrc := f85_r (R := R) k) (N := 106) (n0 := 0) (c := []) cxOk mixed (f85_o_ok k) (body := f85_b) (by kernel_rfl : Tryd.prog.funcs[85]? = some Tryd.f85) (by kernel_rfl) (by kernel_rfl) (by kernel_rfl) (by kernel_rfl) (of_decide_eq_true (by kernel_rfl)) (L := [f85_l5_b, f85_l18_b, f85_l21_b, f85_l27_b]) (by kernel_rfl) (⟨(f85_l5_d_ok k).use (by kernel_rfl), (f85_l18_d_ok k).use (by kernel_rfl), (f85_l21_d_ok k).use (by kernel_rfl), (f85_l27_d_ok k).use (by kernel_rfl), trivial⟩) (J := []) (by kernel_rfl) trivial ((LrcNat.add (f85_l27_d_ok k).2 (LrcNat.add (f85_l21_d_ok k).2 (LrcNat.add (f85_l18_d_ok k).2 (LrcNat.add (f85_l5_d_ok k).2 LrcNat.no))))) (fun _K => by kernel_rfl)

abbrev f97_T (R : Type) : Type := List ByteArray → ByteArray → (Int → Option R) → Option R
/-! ## 97: slices.Index[[]string,string] -/
noncomputable def f97_l2 {R : Type} : Nat → List ByteArray → ByteArray → Int → Int → Option R → (Int → Option R) → Option R
  | 0, _, _, _, _, _, _ => none
  | k + 1, v1, v2, v3, v4, X0, X1 =>
  bif decide (v4 < v3) then
   bif inb v4 v1.length then
    bif (v2.toList == (v1.getD v4.toNat ByteArray.empty).toList) then
     X1 v4
    else
     f97_l2 k v1 v2 v3 (IntKind.i64.wrap (v4 + 1)) X0 X1
   else
    none
  else
   X0
noncomputable def f97 {R : Type} (k : Nat) (a0 : List ByteArray) (a1 : ByteArray) (K : Int → Option R) : Option R :=
 f97_l2 k a0 a1 (a0.length : Int) 0 (
  K (-1)) K
noncomputable def f97_d {R : Type} (g : f97_T R) (e : Dr D R) : Dr D R := door [.list .str, .str] [] (fun (x : (List ByteArray × ByteArray × Unit)) (_y : (Unit)) K => g x.1 x.2.1 (fun z0 => K ⟨.int .i64 z0, []⟩)) e
noncomputable def f97_o {R : Type} (_k : Nat) : Orc D R := noOrc
theorem f97_o_ok {R : Type} (k : Nat) : OrcOk Tryd.prog cx (f97_o (R := R) k) := OrcOk.no
noncomputable def f97_b : Code := bodyOf Tryd.f97
noncomputable def f97_l2_a : LAnn := ⟨⟨[], [0, 1, 7, 8], [], []⟩, exOf (some ⟨[], [4], [], []⟩) [(0, ⟨[], [], [], []⟩)]⟩
noncomputable def f97_ann : Nat → Option LAnn := fun key => bif Nat.beq key 2 then some f97_l2_a else none
noncomputable def f97_l2_b : Code := loopAt f97_b 0
noncomputable def f97_l2_g {R : Type} (k : Nat) (x : (List ByteArray × ByteArray × Int × Int × Unit)) (_y : (Unit)) (K : KX R) : Option R := f97_l2 k x.1 x.2.1 x.2.2.1 x.2.2.2.1 (K (.exit 0) [] []) (fun z0 => K (.ret) [.int .i64 z0] [])
noncomputable def f97_l2_d {R : Type} (k : Nat) : Lr D R := ldoor [.list .str, .str, .int .i64, .int .i64] [] (f97_l2_g k)
noncomputable def f97_l2_r {R : Type} (_k : Nat) : Lrc D R := noLrc
theorem f97_l2_d_ok {R : Type} : ∀ k, LoopOk Tryd.prog cx 19 0 f97_ann (f97_l2_d (R := R) k) f97_l2_b :=
  loop_ok (keep := kp) (lrc := f97_l2_r (R := R)) cxOk mixed (f97_o_ok) (show f97_ann (Am.keyOf f97_l2_b) = some f97_l2_a by kernel_rfl) (L := []) (by kernel_rfl) (fun _k => trivial) (J := []) (by kernel_rfl) (fun _k => trivial) (fun _k => LrcNat.no) (fun _x _y _K => by kernel_rfl) (fun _k _x _y _K => by kernel_rfl)
noncomputable def f97_r {R : Type} (k : Nat) : Lrc D R := (lrcAdd 2 (f97_l2_d k) noLrc)
theorem f97_ok {R : Type} (k : Nat) {e : Dr D R} (he : FnOk Tryd.prog cx 97 e) : FnOk Tryd.prog cx 97 (f97_d (f97 k) e) :=
  he.door fun _x _y => body_ok (keep := kp) (ann := f97_ann) (lrc := f97_r (R := R) k) (N := 19) (n0 := 0) (c := []) cxOk mixed (f97_o_ok k) (body := f97_b) (by kernel_rfl : Tryd.prog.funcs[97]? = some Tryd.f97) (by kernel_rfl) (by kernel_rfl) (by kernel_rfl) (by kernel_rfl) (of_decide_eq_true (by kernel_rfl)) (L := [f97_l2_b]) (by kernel_rfl) (⟨(f97_l2_d_ok k).use (by kernel_rfl), trivial⟩) (J := []) (by kernel_rfl) trivial ((LrcNat.add (f97_l2_d_ok k).2 LrcNat.no)) (fun _K => by kernel_rfl)

abbrev f84_T (R : Type) : Type := List ByteArray → ByteArray → (Bool → Option R) → Option R
/-! ## 84: slices.Contains[[]string,string] -/
noncomputable def f84 {R : Type} (k : Nat) (a0 : List ByteArray) (a1 : ByteArray) (K : Bool → Option R) : Option R :=
 f97 k a0 a1 (fun v1 =>
  K (decide (v1 ≥ 0)))
noncomputable def f84_d {R : Type} (g : f84_T R) (e : Dr D R) : Dr D R := door [.list .str, .str] [] (fun (x : (List ByteArray × ByteArray × Unit)) (_y : (Unit)) K => g x.1 x.2.1 (fun z0 => K ⟨.bool z0, []⟩)) e
noncomputable def f84_o {R : Type} (k : Nat) : Orc D R := (orcAdd 97 (f97_d (f97 k) noDr) noOrc)
theorem f84_o_ok {R : Type} (k : Nat) : OrcOk Tryd.prog cx (f84_o (R := R) k) := (OrcOk.add (f97_ok k FnOk.no) OrcOk.no)
noncomputable def f84_b : Code := bodyOf Tryd.f84
noncomputable def f84_ann : Nat → Option LAnn := fun _key => none
noncomputable def f84_r {R : Type} (_k : Nat) : Lrc D R := noLrc
theorem f84_ok {R : Type} (k : Nat) {e : Dr D R} (he : FnOk Tryd.prog cx 84 e) : FnOk Tryd.prog cx 84 (f84_d (f84 k) e) :=
  he.door fun _x _y => body_ok (keep := kp) (ann := f84_ann) (lrc := f84_r (R := R) k) (N := 9) (n0 := 0) (c := []) cxOk mixed (f84_o_ok k) (body := f84_b) (by kernel_rfl : Tryd.prog.funcs[84]? = some Tryd.f84) (by kernel_rfl) (by kernel_rfl) (by kernel_rfl) (by kernel_rfl) (of_decide_eq_true (by kernel_rfl)) (L := []) (by kernel_rfl) trivial (J := []) (by kernel_rfl) trivial (LrcNat.no) (fun _K => by delta f84 f84_o; generalize @f97 R = a0; revert a0; refine id ?_; intros; kernel_rfl)

abbrev f70_T (R : Type) : Type := ByteArray → ByteArray → (Bool → Option R) → Option R
/-! ## 70: diorama/box.within -/
noncomputable def f70 {R : Type} (k : Nat) (a0 a1 : ByteArray) (K : Bool → Option R) : Option R :=
 f59 k a0 (fun v1 v2 =>
  bif (!v2) then
   K true
  else
   f85 k v1 (fun v3 =>
    f84 k v3 a1 K))
noncomputable def f70_d {R : Type} (g : f70_T R) (e : Dr D R) : Dr D R := door [.str, .str] [] (fun (x : (ByteArray × ByteArray × Unit)) (_y : (Unit)) K => g x.1 x.2.1 (fun z0 => K ⟨.bool z0, []⟩)) e
noncomputable def f70_o {R : Type} (k : Nat) : Orc D R := (orcAdd 84 (f84_d (f84 k) noDr) (orcAdd 85 (f85_d (f85 k) noDr) (orcAdd 59 (f59_d (f59 k) noDr) noOrc)))
theorem f70_o_ok {R : Type} (k : Nat) : OrcOk Tryd.prog cx (f70_o (R := R) k) := (OrcOk.add (f84_ok k FnOk.no) (OrcOk.add (f85_ok k FnOk.no) (OrcOk.add (f59_ok k FnOk.no) OrcOk.no)))
noncomputable def f70_b : Code := bodyOf Tryd.f70
noncomputable def f70_ann : Nat → Option LAnn := fun _key => none
noncomputable def f70_r {R : Type} (_k : Nat) : Lrc D R := noLrc
theorem f70_ok {R : Type} (k : Nat) {e : Dr D R} (he : FnOk Tryd.prog cx 70 e) : FnOk Tryd.prog cx 70 (f70_d (f70 k) e) :=
  he.door fun _x _y => body_ok (keep := kp) (ann := f70_ann) (lrc := f70_r (R := R) k) (N := 20) (n0 := 0) (c := []) cxOk mixed (f70_o_ok k) (body := f70_b) (by kernel_rfl : Tryd.prog.funcs[70]? = some Tryd.f70) (by kernel_rfl) (by kernel_rfl) (by kernel_rfl) (by kernel_rfl) (of_decide_eq_true (by kernel_rfl)) (L := []) (by kernel_rfl) trivial (J := []) (by kernel_rfl) trivial (LrcNat.no) (fun _K => by delta f70 f70_o; generalize @f59 R = a0; generalize @f85 R = a1; generalize @f84 R = a2; revert a0 a1 a2; refine id ?_; intros; kernel_rfl)


end Go.Proofs.YtehmahdngjdhpaaDoor

/-! What the functions do, as plain functions; and that they do. -/
namespace Go.Proofs.YtehmahdngjdhpaaDoor
open Go Go.Am
abbrev f89_2_T (R : Type) : Type := Int → ByteArray → Int → Int → Int → List Int → Int → List D0 → (Int → Int → ByteArray → Int → Int → List Int → Int → List D0 → Option R) → (Int → Int → ByteArray → List Int → Int → List D0 → Option R) → Option R
/-! ## 89: (*diorama/box.parser).head -/
noncomputable def f89_2 {R : Type} (k : Nat) (a0 : Int) (_a1 : ByteArray) (_a2 a3 a4 : Int) (a5 : List Int) (a6 : Int) (a7 : List D0) (K0 : Int → Int → ByteArray → Int → Int → List Int → Int → List D0 → Option R) (K1 : Int → Int → ByteArray → List Int → Int → List D0 → Option R) : Option R :=
 bif decide ((IntKind.i64.wrap (a3 - a0)) < 8) then
  K0 0 0 (⟨#[]⟩ : ByteArray) 3 a0 a5 a6 a7
 else
  bif upto a0 a5.length then
   f54 k (a5.drop a0.toNat) 4 (fun v1 =>
    bif (v1 == 1) then
     bif decide ((IntKind.i64.wrap (a3 - a0)) < 16) then
      K0 0 0 (⟨#[]⟩ : ByteArray) 3 a0 a5 a6 a7
     else
      bif upto (IntKind.i64.wrap (a0 + 8)) a5.length then
      f54 k (a5.drop ((IntKind.i64.wrap (a0 + 8)).toNat)) 8 (fun v2 =>
      bif decide (v2 > (IntKind.i64.wrap ((a5.length : Int) - a0))) then
      K0 0 0 (⟨#[]⟩ : ByteArray) 3 a0 a5 a6 a7
      else
      bif decide (v2 < 16) then
      K0 0 0 (⟨#[]⟩ : ByteArray) 41 a0 a5 a6 a7
      else
      bif decide (v2 > (IntKind.i64.wrap (a3 - a0))) then
      K0 0 0 (⟨#[]⟩ : ByteArray) 41 a0 a5 a6 a7
      else
      bif upto (IntKind.i64.wrap (a0 + 8)) a5.length then
      bif (decide (0 ≤ (IntKind.i64.wrap (a0 + 4)))) && (decide ((IntKind.i64.wrap (a0 + 4)) ≤ (IntKind.i64.wrap (a0 + 8)))) then
      K1 16 v2 (strOf ((a5.take ((IntKind.i64.wrap (a0 + 8)).toNat)).drop ((IntKind.i64.wrap (a0 + 4)).toNat))) a5 a6 a7
      else
      none
      else
      none)
      else
      none
    else
     bif (v1 == 0) then
      bif decide (a4 > 1) then
      K0 0 0 (⟨#[]⟩ : ByteArray) 41 a0 a5 a6 a7
      else
      bif upto (IntKind.i64.wrap (a0 + 8)) a5.length then
      bif (decide (0 ≤ (IntKind.i64.wrap (a0 + 4)))) && (decide ((IntKind.i64.wrap (a0 + 4)) ≤ (IntKind.i64.wrap (a0 + 8)))) then
      K1 8 (IntKind.i64.wrap (a3 - a0)) (strOf ((a5.take ((IntKind.i64.wrap (a0 + 8)).toNat)).drop ((IntKind.i64.wrap (a0 + 4)).toNat))) a5 a6 a7
      else
      none
      else
      none
     else
      bif decide (v1 > (IntKind.i64.wrap ((a5.length : Int) - a0))) then
      K0 0 0 (⟨#[]⟩ : ByteArray) 3 a0 a5 a6 a7
      else
      bif decide (v1 < 8) then
      K0 0 0 (⟨#[]⟩ : ByteArray) 41 a0 a5 a6 a7
      else
      bif decide (v1 > (IntKind.i64.wrap (a3 - a0))) then
      K0 0 0 (⟨#[]⟩ : ByteArray) 41 a0 a5 a6 a7
      else
      bif upto (IntKind.i64.wrap (a0 + 8)) a5.length then
      bif (decide (0 ≤ (IntKind.i64.wrap (a0 + 4)))) && (decide ((IntKind.i64.wrap (a0 + 4)) ≤ (IntKind.i64.wrap (a0 + 8)))) then
      K1 8 v1 (strOf ((a5.take ((IntKind.i64.wrap (a0 + 8)).toNat)).drop ((IntKind.i64.wrap (a0 + 4)).toNat))) a5 a6 a7
      else
      none
      else
      none)
  else
   none
noncomputable def f89_2_d {R : Type} (g : f89_2_T R) (e : Dr D R) : Dr D R := door [.ptr 0 0, .int .i64, .agg [.str, .int .i64, .int .i64, .int .i64]] [.box [.list (.int .u8), .int .i64, .own 1], .row (.named 0) true] (fun (x : (Unit × Int × (ByteArray × Int × Int × Int × Unit) × Unit)) (y : ((List Int × Int × Unit × Unit) × List D0 × Unit)) K => g x.2.1 x.2.2.1.1 x.2.2.1.2.1 x.2.2.1.2.2.1 x.2.2.1.2.2.2.1 y.1.1 y.1.2.1 y.2.1 (fun z0 z1 z2 z3 z4 z5 z6 z7 => K ⟨.tup [.int .i64 z0, .int .i64 z1, .str z2, .ifc 110 (.agg [.int .i64 z3, .int .i64 z4])], [some (.box [.list (.int .u8) z5, .int .i64 z6, .own 1]), some (.row (.named 0) z7 true)]⟩) (fun z0 z1 z2 z3 z4 z5 => K ⟨.tup [.int .i64 z0, .int .i64 z1, .str z2, .nilI], [some (.box [.list (.int .u8) z3, .int .i64 z4, .own 1]), some (.row (.named 0) z5 true)]⟩)) e
noncomputable def f89_2_o {R : Type} (k : Nat) : Orc D R := (orcAdd 54 (f54_d (f54 k) noDr) noOrc)
theorem f89_2_o_ok {R : Type} (k : Nat) : OrcOk Tryd.prog cx (f89_2_o (R := R) k) := (OrcOk.add (f54_ok k FnOk.no) OrcOk.no)
noncomputable def f89_2_b : Code := bodyOf Tryd.f89
noncomputable def f89_2_ann : Nat → Option LAnn := fun _key => none
noncomputable def f89_2_r {R : Type} (_k : Nat) : Lrc D R := noLrc
theorem f89_2_ok {R : Type} (k : Nat) {e : Dr D R} (he : FnOk Tryd.prog cx 89 e) : FnOk Tryd.prog cx 89 (f89_2_d (f89_2 k) e) :=
  he.door fun _x _y => body_ok (keep := kp) (ann := f89_2_ann) (lrc := f89_2_r (R := R) k) (N := 89) (n0 := 2) (c := []) cxOk mixed (f89_2_o_ok k) (body := f89_2_b) (by kernel_rfl : Tryd.prog.funcs[89]? = some Tryd.f89) (by kernel_rfl) (by kernel_rfl) (by kernel_rfl) (by kernel_rfl) (of_decide_eq_true (by kernel_rfl)) (L := []) (by kernel_rfl) trivial (J := []) (by kernel_rfl) trivial (LrcNat.no) (fun _K => by delta f89_2 f89_2_o; generalize @f54 R = a0; revert a0; refine id ?_; intros; kernel_rfl)

abbrev f61_T (R : Type) : Type := (List Int → Option R) → Option R
/-! ## 61: bytes.Clone -/
noncomputable def f61 {R : Type} (_k : Nat) (K : List Int → Option R) : Option R :=
 K ([] : List Int)
noncomputable def f61_d {R : Type} (g : f61_T R) (e : Dr D R) : Dr D R := door [.nil] [] (fun (_x : (Unit × Unit)) (_y : (Unit)) K => g (fun z0 => K ⟨.own 0, [some (.row (.int .u8) z0 true)]⟩)) e
noncomputable def f61_o {R : Type} (_k : Nat) : Orc D R := noOrc
theorem f61_o_ok {R : Type} (k : Nat) : OrcOk Tryd.prog cx (f61_o (R := R) k) := OrcOk.no
noncomputable def f61_b : Code := bodyOf Tryd.f61
noncomputable def f61_ann : Nat → Option LAnn := fun _key => none
noncomputable def f61_r {R : Type} (_k : Nat) : Lrc D R := noLrc
theorem f61_ok {R : Type} (k : Nat) {e : Dr D R} (he : FnOk Tryd.prog cx 61 e) : FnOk Tryd.prog cx 61 (f61_d (f61 k) e) :=
  he.door fun _x _y => body_ok (keep := kp) (ann := f61_ann) (lrc := f61_r (R := R) k) (N := 8) (n0 := 0) (c := [(.tmp 2, .own 1099511627776 (.int .u8))]) cxOk mixed (f61_o_ok k) (body := f61_b) (by kernel_rfl : Tryd.prog.funcs[61]? = some Tryd.f61) (by kernel_rfl) (by kernel_rfl) (by kernel_rfl) (by kernel_rfl) (of_decide_eq_true (by kernel_rfl)) (L := []) (by kernel_rfl) trivial (J := []) (by kernel_rfl) trivial (LrcNat.no) (fun _K => by kernel_rfl)

abbrev f61_2_T (R : Type) : Type := List Int → (List Int → Option R) → Option R
/-! ## 61: bytes.Clone -/
noncomputable def f61_2 {R : Type} (_k : Nat) (a0 : List Int) (K : List Int → Option R) : Option R :=
 bif room 1 (([] : List Int).length + a0.length) then
  K a0
 else
  none
noncomputable def f61_2_d {R : Type} (g : f61_2_T R) (e : Dr D R) : Dr D R := door [.full (.int .u8)] [] (fun (x : (List Int × Unit)) (_y : (Unit)) K => g x.1 (fun z0 => K ⟨.own 0, [some (.row (.int .u8) z0 true)]⟩)) e
noncomputable def f61_2_o {R : Type} (_k : Nat) : Orc D R := noOrc
theorem f61_2_o_ok {R : Type} (k : Nat) : OrcOk Tryd.prog cx (f61_2_o (R := R) k) := OrcOk.no
noncomputable def f61_2_b : Code := bodyOf Tryd.f61
noncomputable def f61_2_ann : Nat → Option LAnn := fun _key => none
noncomputable def f61_2_r {R : Type} (_k : Nat) : Lrc D R := noLrc
theorem f61_2_ok {R : Type} (k : Nat) {e : Dr D R} (he : FnOk Tryd.prog cx 61 e) : FnOk Tryd.prog cx 61 (f61_2_d (f61_2 k) e) :=
  he.door fun _x _y => body_ok (keep := kp) (ann := f61_2_ann) (lrc := f61_2_r (R := R) k) (N := 8) (n0 := 0) (c := [(.tmp 2, .own 1099511627776 (.int .u8))]) cxOk mixed (f61_2_o_ok k) (body := f61_2_b) (by kernel_rfl : Tryd.prog.funcs[61]? = some Tryd.f61) (by kernel_rfl) (by kernel_rfl) (by kernel_rfl) (by kernel_rfl) (of_decide_eq_true (by kernel_rfl)) (L := []) (by kernel_rfl) trivial (J := []) (by kernel_rfl) trivial (LrcNat.no) (fun _K => by kernel_rfl)
noncomputable def f61_2L_d {R : Type} (g : f61_2_T R) (e : Dr D R) : Dr D R := door [.list (.int .u8)] [] (fun (x : (List Int × Unit)) (_y : Unit) K => g x.1 (fun z0 => K ⟨.own 0, [some (.row (.int .u8) z0 true)]⟩)) e
theorem f61_2L_ok {R : Type} (k : Nat) {e : Dr D R} (he : FnOk Tryd.prog cx 61 e) : FnOk Tryd.prog cx 61 (f61_2L_d (f61_2 k) e) :=
  he.door fun x _y => split_ok (fun K r h => (f61_2_ok k FnOk.no).1 [.full (.int .u8) x.1] [] K r h) (fun hx K r h => (f61_ok k FnOk.no).1 [.nil] [] K r (by have hx : x.1 = [] := hx; rw [hx] at h; exact h)) ((f61_2_ok k FnOk.no).2 [.full (.int .u8) x.1] [])

abbrev f76_2_T (R : Type) : Type := ByteArray → Int → Int → Int → List Int → Int → List D0 → (List Int → Int → List D1 → List D0 → Option R) → (Int → Int → List Int → Int → List D0 → Option R) → Option R
/-! ## 76: (*diorama/box.parser).level -/
noncomputable def f76_2_l3 {R : Type} (g_f76_2 : Nat → f76_2_T R) : Nat → Int → List Int → Int → List D0 → ByteArray → Int → Int → Int → List D1 → (List D1 → List Int → Int → List D0 → Option R) → (Int → Int → List Int → Int → List D0 → Option R) → Option R
  | 0, _, _, _, _, _, _, _, _, _, _, _ => none
  | k + 1, v1, v2, v3, v4, v5, v6, v7, v8, v9, X0, X1 =>
  bif decide (v1 < v7) then
   f89_2 k v1 v5 v6 v7 v8 v2 v3 v4 (fun _v10 _v11 _v12 v13 v14 v15 v16 v17 =>
    X1 v13 v14 v15 v16 v17) (fun v18 v19 v20 v21 v22 v23 =>
    f26 k v20 (fun v24 v25 =>
     f59 k v20 (fun _v26 v27 =>
      bif (v25 != 0) then
      X1 v25 v1 v21 v22 v23
      else
      f70 k v20 v5 (fun v28 =>
      bif (!v28) then
      X1 42 v1 v21 v22 v23
      else
      bif decide (v8 > 8) then
      X1 43 v1 v21 v22 v23
      else
      bif room 40 (v23.length + ([(v24, v1, v18, (IntKind.i64.wrap (v19 - v18)), v8)]).length) then
      bif (v20.toList == (⟨#[102, 114, 101, 101]⟩ : ByteArray).toList) then
      f76_2_l3 g_f76_2 k (IntKind.i64.wrap (v1 + v19)) v21 v22 (v23 ++ ([(v24, v1, v18, (IntKind.i64.wrap (v19 - v18)), v8)])) v5 v6 v7 v8 v9 X0 X1
      else
      bif decide ((IntKind.i64.wrap (v22 + 1)) > 4000) then
      X1 2 (IntKind.i64.wrap ((IntKind.i64.wrap (v1 + v19)) - v19)) v21 (IntKind.i64.wrap (v22 + 1)) (v23 ++ ([(v24, v1, v18, (IntKind.i64.wrap (v19 - v18)), v8)]))
      else
      bif v27 then
      g_f76_2 k v20 (IntKind.i64.wrap (v1 + v18)) (IntKind.i64.wrap (v1 + v19)) (IntKind.i64.wrap (v8 + 1)) v21 (IntKind.i64.wrap (v22 + 1)) (v23 ++ ([(v24, v1, v18, (IntKind.i64.wrap (v19 - v18)), v8)])) (fun v29 v30 v31 v32 =>
      bif room 64 (v9.length + ([(D1.mk v24 ([]) v31 v27)]).length) then
      f76_2_l3 g_f76_2 k (IntKind.i64.wrap (v1 + v19)) v29 v30 v32 v5 v6 v7 v8 (v9 ++ ([(D1.mk v24 ([]) v31 v27)])) X0 X1
      else
      none) X1
      else
      bif upto (IntKind.i64.wrap (v1 + v19)) v21.length then
      bif (decide (0 ≤ (IntKind.i64.wrap (v1 + v18)))) && (decide ((IntKind.i64.wrap (v1 + v18)) ≤ (IntKind.i64.wrap (v1 + v19)))) then
      f61_2 k ((v21.take ((IntKind.i64.wrap (v1 + v19)).toNat)).drop ((IntKind.i64.wrap (v1 + v18)).toNat)) (fun v38 =>
      bif room 64 (v9.length + ([(D1.mk v24 v38 ([]) v27)]).length) then
      f76_2_l3 g_f76_2 k (IntKind.i64.wrap (v1 + v19)) v21 (IntKind.i64.wrap (v22 + 1)) (v23 ++ ([(v24, v1, v18, (IntKind.i64.wrap (v19 - v18)), v8)])) v5 v6 v7 v8 (v9 ++ ([(D1.mk v24 v38 ([]) v27)])) X0 X1
      else
      none)
      else
      none
      else
      none
      else
      none))))
  else
   X0 v9 v2 v3 v4
noncomputable def f76_2_s {R : Type} (g_f76_2 : Nat → f76_2_T R) (k : Nat) (a0 : ByteArray) (a1 a2 a3 : Int) (a4 : List Int) (a5 : Int) (a6 : List D0) (K0 : List Int → Int → List D1 → List D0 → Option R) (K1 : Int → Int → List Int → Int → List D0 → Option R) : Option R :=
 f76_2_l3 g_f76_2 k a1 a4 a5 a6 a0 a1 a2 a3 ([] : List D1) (fun v39 v40 v41 v42 =>
  K0 v40 v41 v39 v42) K1
noncomputable def f76_2_d {R : Type} (g : f76_2_T R) (e : Dr D R) : Dr D R := door [.ptr 0 0, .agg [.str, .int .i64, .int .i64, .int .i64]] [.box [.list (.int .u8), .int .i64, .own 1], .row (.named 0) true] (fun (x : (Unit × (ByteArray × Int × Int × Int × Unit) × Unit)) (y : ((List Int × Int × Unit × Unit) × List D0 × Unit)) K => g x.2.1.1 x.2.1.2.1 x.2.1.2.2.1 x.2.1.2.2.2.1 y.1.1 y.1.2.1 y.2.1 (fun z0 z1 z2 z3 => K ⟨.tup [.own 2, .nilI], [some (.box [.list (.int .u8) z0, .int .i64 z1, .own 3]), none, some (.row (.named 1) z2 true), some (.row (.named 0) z3 true)]⟩) (fun z0 z1 z2 z3 z4 => K ⟨.tup [.nil, .ifc 110 (.agg [.int .i64 z0, .int .i64 z1])], [some (.box [.list (.int .u8) z2, .int .i64 z3, .own 2]), none, some (.row (.named 0) z4 true)]⟩)) e
noncomputable def f76_2_o {R : Type} (g_f76_2 : Nat → f76_2_T R) (k : Nat) : Orc D R := (orcAdd 76 (f76_2_d (g_f76_2 k) noDr) (orcAdd 61 (f61_2L_d (f61_2 k) noDr) (orcAdd 89 (f89_2_d (f89_2 k) noDr) (orcAdd 70 (f70_d (f70 k) noDr) (orcAdd 59 (f59_d (f59 k) noDr) (orcAdd 26 (f26_d (f26 k) noDr) noOrc))))))
theorem f76_2_o_ok {R : Type} (g_f76_2 : Nat → f76_2_T R) (h_f76_2 : ∀ (k : Nat) (e : Dr D R), FnOk Tryd.prog cx 76 e → FnOk Tryd.prog cx 76 (f76_2_d (g_f76_2 k) e)) (k : Nat) : OrcOk Tryd.prog cx (f76_2_o (R := R) g_f76_2 k) := (OrcOk.add (h_f76_2 k _ FnOk.no) (OrcOk.add (f61_2L_ok k FnOk.no) (OrcOk.add (f89_2_ok k FnOk.no) (OrcOk.add (f70_ok k FnOk.no) (OrcOk.add (f59_ok k FnOk.no) (OrcOk.add (f26_ok k FnOk.no) OrcOk.no))))))
noncomputable def f76_2_b : Code := bodyOf Tryd.f76
noncomputable def f76_2_l3_a : LAnn := ⟨⟨[(.cell 0 2, .own 68719489024 (.named 0)), (.tmp 6, .own 68719489026 (.named 1)), (.cell 1 0, .drop)], [0, 3, 6, 7], [0, 68719489024, 65600, 68719489026], []⟩, exOf (some ⟨[(.cell 0 2, .own 68719490048 (.named 0)), (.cell 1 0, .drop)], [4, 5], [0, 68719490048], []⟩) [(0, ⟨[], [6], [68719489026, 0, 68719489024], []⟩)]⟩
noncomputable def f76_2_ann : Nat → Option LAnn := fun key => bif Nat.beq key 3 then some f76_2_l3_a else none
noncomputable def f76_2_l3_b : Code := loopAt f76_2_b 0
noncomputable def f76_2_l3_g {R : Type} (g_f76_2 : Nat → f76_2_T R) (k : Nat) (x : (Unit × Unit × Unit × Int × Unit)) (y : ((List Int × Int × Unit × Unit) × List D0 × (ByteArray × Int × Int × Int × Unit) × List D1 × Unit)) (K : KX R) : Option R := f76_2_l3 g_f76_2 k x.2.2.2.1 y.1.1 y.1.2.1 y.2.1 y.2.2.1.1 y.2.2.1.2.1 y.2.2.1.2.2.1 y.2.2.1.2.2.2.1 y.2.2.2.1 (fun z0 z1 z2 z3 => K (.exit 0) [.own 68719489026] [some (.row (.named 1) z0 true), some (.box [.list (.int .u8) z1, .int .i64 z2, .own 68719489024]), some (.row (.named 0) z3 true)]) (fun z0 z1 z2 z3 z4 => K (.ret) [.nil, .ifc 110 (.agg [.int .i64 z0, .int .i64 z1])] [some (.box [.list (.int .u8) z2, .int .i64 z3, .own 68719490048]), some (.row (.named 0) z4 true)])
noncomputable def f76_2_l3_d {R : Type} (g_f76_2 : Nat → f76_2_T R) (k : Nat) : Lr D R := ldoor [.ptr 0 0, .ptr 65600 0, .own 68719489026, .int .i64] [some (.box [.list (.int .u8), .int .i64, .own 68719489024]), some (.row (.named 0) true), some (.box [.str, .int .i64, .int .i64, .int .i64]), some (.row (.named 1) true)] (f76_2_l3_g g_f76_2 k)
noncomputable def f76_2_l3_r {R : Type} (_g_f76_2 : Nat → f76_2_T R) (_k : Nat) : Lrc D R := noLrc
theorem f76_2_l3_d_ok {R : Type} (g_f76_2 : Nat → f76_2_T R) (h_f76_2 : ∀ (k : Nat) (e : Dr D R), FnOk Tryd.prog cx 76 e → FnOk Tryd.prog cx 76 (f76_2_d (g_f76_2 k) e)) : ∀ k, LoopOk Tryd.prog cx 148 2 f76_2_ann (f76_2_l3_d (R := R) g_f76_2 k) f76_2_l3_b :=
  loop_ok (keep := kp) (lrc := f76_2_l3_r (R := R) g_f76_2) cxOk mixed (f76_2_o_ok g_f76_2 h_f76_2) (show f76_2_ann (Am.keyOf f76_2_l3_b) = some f76_2_l3_a by kernel_rfl) (L := []) (by kernel_rfl) (fun _k => trivial) (J := []) (by kernel_rfl) (fun _k => trivial) (fun _k => LrcNat.no) (fun _x _y _K => by kernel_rfl) (fun _k _x _y _K => by kernel_rfl)
noncomputable def f76_2_r {R : Type} (g_f76_2 : Nat → f76_2_T R) (k : Nat) : Lrc D R := (lrcAdd 3 (f76_2_l3_d g_f76_2 k) noLrc)
noncomputable def rec_f76_2 {R : Type} : Nat → (f76_2_T R)
  | 0 => (fun _ _ _ _ _ _ _ _ _ => none)
  | k + 1 => (f76_2_s (fun _ => (rec_f76_2 (R := R) k)) k)
theorem rec_f76_2_succ {R : Type} (k : Nat) : rec_f76_2 (R := R) (k + 1) = (f76_2_s (fun _ => (rec_f76_2 (R := R) k)) k) := rfl
theorem rec_f76_2_ok {R : Type} : ∀ k, (∀ e : Dr D R, FnOk Tryd.prog cx 76 e → FnOk Tryd.prog cx 76 (f76_2_d (rec_f76_2 (R := R) k) e))
  | 0 => fun e he => he.door0 fun x y _K => rfl
  | k + 1 => by
    rw [rec_f76_2_succ]
    exact fun e he => he.door fun _x _y => body_ok (keep := kp) (ann := f76_2_ann) (lrc := f76_2_r (R := R) (fun _ => (rec_f76_2 (R := R) k)) k) (N := 148) (n0 := 2) (c := []) cxOk mixed (f76_2_o_ok (fun _ => (rec_f76_2 (R := R) k)) (fun _ e he => (rec_f76_2_ok (R := R) k) e he) k) (body := f76_2_b) (by kernel_rfl : Tryd.prog.funcs[76]? = some Tryd.f76) (by kernel_rfl) (by kernel_rfl) (by kernel_rfl) (by kernel_rfl) (of_decide_eq_true (by kernel_rfl)) (L := [f76_2_l3_b]) (by kernel_rfl) (⟨(f76_2_l3_d_ok (fun _ => (rec_f76_2 (R := R) k)) (fun _ e he => (rec_f76_2_ok (R := R) k) e he) k).use (by kernel_rfl), trivial⟩) (J := []) (by kernel_rfl) trivial ((LrcNat.add (f76_2_l3_d_ok (fun _ => (rec_f76_2 (R := R) k)) (fun _ e he => (rec_f76_2_ok (R := R) k) e he) k).2 LrcNat.no)) (fun _K => by delta f76_2_s f76_2_o; generalize @f26 R = a0; generalize @f59 R = a1; generalize @f70 R = a2; generalize @f89_2 R = a3; generalize @f61_2 R = a4; revert a0 a1 a2 a3 a4; refine id ?_; intros; kernel_rfl)
noncomputable def f76_2 {R : Type} (k : Nat) (a0 : ByteArray) (a1 a2 a3 : Int) (a4 : List Int) (a5 : Int) (a6 : List D0) (K0 : List Int → Int → List D1 → List D0 → Option R) (K1 : Int → Int → List Int → Int → List D0 → Option R) : Option R := (rec_f76_2 (R := R) k) a0 a1 a2 a3 a4 a5 a6 K0 K1
theorem f76_2_ok {R : Type} (k : Nat) {e : Dr D R} (he : FnOk Tryd.prog cx 76 e) : FnOk Tryd.prog cx 76 (f76_2_d (f76_2 k) e) := (rec_f76_2_ok (R := R) k) e he
theorem f76_2_step {R : Type} (k : Nat) (a0 : ByteArray) (a1 a2 a3 : Int) (a4 : List Int) (a5 : Int) (a6 : List D0) (K0 : List Int → Int → List D1 → List D0 → Option R) (K1 : Int → Int → List Int → Int → List D0 → Option R) : f76_2 (k + 1) a0 a1 a2 a3 a4 a5 a6 K0 K1 = f76_2_s (fun _ => f76_2 (R := R) k) k a0 a1 a2 a3 a4 a5 a6 K0 K1 := rfl

abbrev f76_T (R : Type) : Type := ByteArray → Int → Int → Int → List Int → Int → (List Int → Int → List D1 → List D0 → Option R) → (Int → Int → List Int → Int → List D0 → Option R) → Option R
/-! ## 76: (*diorama/box.parser).level -/
noncomputable def f76_l3 {R : Type} : Nat → Int → List Int → Int → List D0 → ByteArray → Int → Int → Int → List D1 → (List D1 → List Int → Int → List D0 → Option R) → (Int → Int → List Int → Int → List D0 → Option R) → Option R
  | 0, _, _, _, _, _, _, _, _, _, _, _ => none
  | k + 1, v1, v2, v3, v4, v5, v6, v7, v8, v9, X0, X1 =>
  bif decide (v1 < v7) then
   f89_2 k v1 v5 v6 v7 v8 v2 v3 v4 (fun _v10 _v11 _v12 v13 v14 v15 v16 v17 =>
    X1 v13 v14 v15 v16 v17) (fun v18 v19 v20 v21 v22 v23 =>
    f26 k v20 (fun v24 v25 =>
     f59 k v20 (fun _v26 v27 =>
      bif (v25 != 0) then
      X1 v25 v1 v21 v22 v23
      else
      f70 k v20 v5 (fun v28 =>
      bif (!v28) then
      X1 42 v1 v21 v22 v23
      else
      bif decide (v8 > 8) then
      X1 43 v1 v21 v22 v23
      else
      bif room 40 (v23.length + ([(v24, v1, v18, (IntKind.i64.wrap (v19 - v18)), v8)]).length) then
      bif (v20.toList == (⟨#[102, 114, 101, 101]⟩ : ByteArray).toList) then
      f76_l3 k (IntKind.i64.wrap (v1 + v19)) v21 v22 (v23 ++ ([(v24, v1, v18, (IntKind.i64.wrap (v19 - v18)), v8)])) v5 v6 v7 v8 v9 X0 X1
      else
      bif decide ((IntKind.i64.wrap (v22 + 1)) > 4000) then
      X1 2 (IntKind.i64.wrap ((IntKind.i64.wrap (v1 + v19)) - v19)) v21 (IntKind.i64.wrap (v22 + 1)) (v23 ++ ([(v24, v1, v18, (IntKind.i64.wrap (v19 - v18)), v8)]))
      else
      bif v27 then
      f76_2 k v20 (IntKind.i64.wrap (v1 + v18)) (IntKind.i64.wrap (v1 + v19)) (IntKind.i64.wrap (v8 + 1)) v21 (IntKind.i64.wrap (v22 + 1)) (v23 ++ ([(v24, v1, v18, (IntKind.i64.wrap (v19 - v18)), v8)])) (fun v29 v30 v31 v32 =>
      bif room 64 (v9.length + ([(D1.mk v24 ([]) v31 v27)]).length) then
      f76_l3 k (IntKind.i64.wrap (v1 + v19)) v29 v30 v32 v5 v6 v7 v8 (v9 ++ ([(D1.mk v24 ([]) v31 v27)])) X0 X1
      else
      none) X1
      else
      bif upto (IntKind.i64.wrap (v1 + v19)) v21.length then
      bif (decide (0 ≤ (IntKind.i64.wrap (v1 + v18)))) && (decide ((IntKind.i64.wrap (v1 + v18)) ≤ (IntKind.i64.wrap (v1 + v19)))) then
      f61_2 k ((v21.take ((IntKind.i64.wrap (v1 + v19)).toNat)).drop ((IntKind.i64.wrap (v1 + v18)).toNat)) (fun v38 =>
      bif room 64 (v9.length + ([(D1.mk v24 v38 ([]) v27)]).length) then
      f76_l3 k (IntKind.i64.wrap (v1 + v19)) v21 (IntKind.i64.wrap (v22 + 1)) (v23 ++ ([(v24, v1, v18, (IntKind.i64.wrap (v19 - v18)), v8)])) v5 v6 v7 v8 (v9 ++ ([(D1.mk v24 v38 ([]) v27)])) X0 X1
      else
      none)
      else
      none
      else
      none
      else
      none))))
  else
   X0 v9 v2 v3 v4
noncomputable def f76 {R : Type} (k : Nat) (a0 : ByteArray) (a1 a2 a3 : Int) (a4 : List Int) (a5 : Int) (K0 : List Int → Int → List D1 → List D0 → Option R) (K1 : Int → Int → List Int → Int → List D0 → Option R) : Option R :=
 f76_l3 k a1 a4 a5 ([] : List D0) a0 a1 a2 a3 ([] : List D1) (fun v39 v40 v41 v42 =>
  K0 v40 v41 v39 v42) K1
noncomputable def f76_d {R : Type} (g : f76_T R) (e : Dr D R) : Dr D R := door [.ptr 0 0, .agg [.str, .int .i64, .int .i64, .int .i64]] [.box [.list (.int .u8), .int .i64, .nil]] (fun (x : (Unit × (ByteArray × Int × Int × Int × Unit) × Unit)) (y : ((List Int × Int × Unit × Unit) × Unit)) K => g x.2.1.1 x.2.1.2.1 x.2.1.2.2.1 x.2.1.2.2.2.1 y.1.1 y.1.2.1 (fun z0 z1 z2 z3 => K ⟨.tup [.own 1, .nilI], [some (.box [.list (.int .u8) z0, .int .i64 z1, .own 2]), some (.row (.named 1) z2 true), some (.row (.named 0) z3 true)]⟩) (fun z0 z1 z2 z3 z4 => K ⟨.tup [.nil, .ifc 110 (.agg [.int .i64 z0, .int .i64 z1])], [some (.box [.list (.int .u8) z2, .int .i64 z3, .own 1]), some (.row (.named 0) z4 true)]⟩)) e
noncomputable def f76_o {R : Type} (k : Nat) : Orc D R := (orcAdd 76 (f76_2_d (f76_2 k) noDr) (orcAdd 61 (f61_2L_d (f61_2 k) noDr) (orcAdd 89 (f89_2_d (f89_2 k) noDr) (orcAdd 70 (f70_d (f70 k) noDr) (orcAdd 59 (f59_d (f59 k) noDr) (orcAdd 26 (f26_d (f26 k) noDr) noOrc))))))
theorem f76_o_ok {R : Type} (k : Nat) : OrcOk Tryd.prog cx (f76_o (R := R) k) := (OrcOk.add (f76_2_ok k FnOk.no) (OrcOk.add (f61_2L_ok k FnOk.no) (OrcOk.add (f89_2_ok k FnOk.no) (OrcOk.add (f70_ok k FnOk.no) (OrcOk.add (f59_ok k FnOk.no) (OrcOk.add (f26_ok k FnOk.no) OrcOk.no))))))
noncomputable def f76_b : Code := bodyOf Tryd.f76
noncomputable def f76_l3_a : LAnn := ⟨⟨[(.cell 0 2, .own 68719489024 (.named 0)), (.tmp 6, .own 68719489025 (.named 1))], [0, 3, 6, 7], [0, 68719489024, 65600, 68719489025], []⟩, exOf (some ⟨[(.cell 0 2, .own 68719490048 (.named 0))], [4, 5], [0, 68719490048], []⟩) [(0, ⟨[], [6], [68719489025, 0, 68719489024], []⟩)]⟩
noncomputable def f76_ann : Nat → Option LAnn := fun key => bif Nat.beq key 3 then some f76_l3_a else none
noncomputable def f76_l3_b : Code := loopAt f76_b 0
noncomputable def f76_l3_g {R : Type} (k : Nat) (x : (Unit × Unit × Unit × Int × Unit)) (y : ((List Int × Int × Unit × Unit) × List D0 × (ByteArray × Int × Int × Int × Unit) × List D1 × Unit)) (K : KX R) : Option R := f76_l3 k x.2.2.2.1 y.1.1 y.1.2.1 y.2.1 y.2.2.1.1 y.2.2.1.2.1 y.2.2.1.2.2.1 y.2.2.1.2.2.2.1 y.2.2.2.1 (fun z0 z1 z2 z3 => K (.exit 0) [.own 68719489025] [some (.row (.named 1) z0 true), some (.box [.list (.int .u8) z1, .int .i64 z2, .own 68719489024]), some (.row (.named 0) z3 true)]) (fun z0 z1 z2 z3 z4 => K (.ret) [.nil, .ifc 110 (.agg [.int .i64 z0, .int .i64 z1])] [some (.box [.list (.int .u8) z2, .int .i64 z3, .own 68719490048]), some (.row (.named 0) z4 true)])
noncomputable def f76_l3_d {R : Type} (k : Nat) : Lr D R := ldoor [.ptr 0 0, .ptr 65600 0, .own 68719489025, .int .i64] [some (.box [.list (.int .u8), .int .i64, .own 68719489024]), some (.row (.named 0) true), some (.box [.str, .int .i64, .int .i64, .int .i64]), some (.row (.named 1) true)] (f76_l3_g k)
noncomputable def f76_l3_r {R : Type} (_k : Nat) : Lrc D R := noLrc
theorem f76_l3_d_ok {R : Type} : ∀ k, LoopOk Tryd.prog cx 148 1 f76_ann (f76_l3_d (R := R) k) f76_l3_b :=
  loop_ok (keep := kp) (lrc := f76_l3_r (R := R)) cxOk mixed (f76_o_ok) (show f76_ann (Am.keyOf f76_l3_b) = some f76_l3_a by kernel_rfl) (L := []) (by kernel_rfl) (fun _k => trivial) (J := []) (by kernel_rfl) (fun _k => trivial) (fun _k => LrcNat.no) (fun _x _y _K => by kernel_rfl) (fun _k _x _y _K => by kernel_rfl)
noncomputable def f76_r {R : Type} (k : Nat) : Lrc D R := (lrcAdd 3 (f76_l3_d k) noLrc)
theorem f76_ok {R : Type} (k : Nat) {e : Dr D R} (he : FnOk Tryd.prog cx 76 e) : FnOk Tryd.prog cx 76 (f76_d (f76 k) e) :=
  he.door fun _x _y => body_ok (keep := kp) (ann := f76_ann) (lrc := f76_r (R := R) k) (N := 148) (n0 := 1) (c := []) cxOk mixed (f76_o_ok k) (body := f76_b) (by kernel_rfl : Tryd.prog.funcs[76]? = some Tryd.f76) (by kernel_rfl) (by kernel_rfl) (by kernel_rfl) (by kernel_rfl) (of_decide_eq_true (by kernel_rfl)) (L := [f76_l3_b]) (by kernel_rfl) (⟨(f76_l3_d_ok k).use (by kernel_rfl), trivial⟩) (J := []) (by kernel_rfl) trivial ((LrcNat.add (f76_l3_d_ok k).2 LrcNat.no)) (fun _K => by delta f76 f76_o; generalize @f26 R = a0; generalize @f59 R = a1; generalize @f70 R = a2; generalize @f89_2 R = a3; generalize @f61_2 R = a4; generalize @f76_2 R = a5; revert a0 a1 a2 a3 a4 a5; refine id ?_; intros; kernel_rfl)

abbrev f49_T (R : Type) : Type := List Int → (Int → Int → List D1 → List D0 → Option R) → Option R
/-! ## 49: diorama/box.read -/
noncomputable def f49 {R : Type} (k : Nat) (a0 : List Int) (K : Int → Int → List D1 → List D0 → Option R) : Option R :=
 bif decide ((a0.length : Int) ≤ 1048576) then
  f76 k (⟨#[45]⟩ : ByteArray) 0 (a0.length : Int) 1 a0 0 (fun _v1 _v2 v3 v4 =>
   asNil k 0 0 (fun v5 v6 v7 =>
    bif v5 then
     K v7 v6 ([] : List D1) ([] : List D0)
    else
     K 0 0 v3 v4)) (fun v8 v9 _v10 _v11 v12 =>
   asHit k v8 v9 0 0 (fun v13 v14 v15 =>
    bif v13 then
     K v15 v14 ([] : List D1) ([] : List D0)
    else
     K 0 0 ([] : List D1) v12))
 else
  asHit k 2 0 0 0 (fun v16 v17 v18 =>
   bif v16 then
    K v18 v17 ([] : List D1) ([] : List D0)
   else
    K 0 0 ([] : List D1) ([] : List D0))
noncomputable def f49_d {R : Type} (g : f49_T R) (e : Dr D R) : Dr D R := door [.list (.int .u8)] [] (fun (x : (List Int × Unit)) (_y : (Unit)) K => g x.1 (fun z0 z1 z2 z3 => K ⟨.tup [.own 0, .own 1, .int .i64 z0, .int .i64 z1], [some (.row (.named 1) z2 true), some (.row (.named 0) z3 true)]⟩)) e
noncomputable def f49_o {R : Type} (k : Nat) : Orc D R := (orcAdd 76 (f76_d (f76 k) noDr) (orcAdd 77 (asNil_d (asNil k) (asHit_d (asHit k) noDr)) noOrc))
theorem f49_o_ok {R : Type} (k : Nat) : OrcOk Tryd.prog cx (f49_o (R := R) k) := (OrcOk.add (f76_ok k FnOk.no) (OrcOk.add (asNil_ok k (asHit_ok k FnOk.no)) OrcOk.no))
noncomputable def f49_b : Code := bodyOf Tryd.f49
noncomputable def f49_ann : Nat → Option LAnn := fun _key => none
noncomputable def f49_r {R : Type} (_k : Nat) : Lrc D R := noLrc
theorem f49_ok {R : Type} (k : Nat) {e : Dr D R} (he : FnOk Tryd.prog cx 49 e) : FnOk Tryd.prog cx 49 (f49_d (f49 k) e) :=
  he.door fun _x _y => body_ok (keep := kp) (ann := f49_ann) (lrc := f49_r (R := R) k) (N := 37) (n0 := 0) (c := [(.tmp 2, .own 1099511627776 (.named 1)), (.tmp 3, .own 1099511627777 (.named 0))]) cxOk mixed (f49_o_ok k) (body := f49_b) (by kernel_rfl : Tryd.prog.funcs[49]? = some Tryd.f49) (by kernel_rfl) (by kernel_rfl) (by kernel_rfl) (by kernel_rfl) (of_decide_eq_true (by kernel_rfl)) (L := []) (by kernel_rfl) trivial (J := []) (by kernel_rfl) trivial (LrcNat.no) (fun _K => by delta f49 f49_o; generalize @asHit R = a0; generalize @asNil R = a1; generalize @f76 R = a2; revert a0 a1 a2; refine id ?_; intros; kernel_rfl)

abbrev f14_T (R : Type) : Type := List Int → (Int → Int → List D1 → Option R) → Option R
/-! ## 14: diorama/box.Parse -/
noncomputable def f14 {R : Type} (k : Nat) (a0 : List Int) (K : Int → Int → List D1 → Option R) : Option R :=
 f49 k a0 (fun v1 v2 v3 _v4 =>
  K v1 v2 v3)
noncomputable def f14_d {R : Type} (g : f14_T R) (e : Dr D R) : Dr D R := door [.list (.int .u8)] [] (fun (x : (List Int × Unit)) (_y : (Unit)) K => g x.1 (fun z0 z1 z2 => K ⟨.tup [.own 0, .int .i64 z0, .int .i64 z1], [some (.row (.named 1) z2 true)]⟩)) e
noncomputable def f14_o {R : Type} (k : Nat) : Orc D R := (orcAdd 49 (f49_d (f49 k) noDr) noOrc)
theorem f14_o_ok {R : Type} (k : Nat) : OrcOk Tryd.prog cx (f14_o (R := R) k) := (OrcOk.add (f49_ok k FnOk.no) OrcOk.no)
noncomputable def f14_b : Code := bodyOf Tryd.f14
noncomputable def f14_ann : Nat → Option LAnn := fun _key => none
noncomputable def f14_r {R : Type} (_k : Nat) : Lrc D R := noLrc
theorem f14_ok {R : Type} (k : Nat) {e : Dr D R} (he : FnOk Tryd.prog cx 14 e) : FnOk Tryd.prog cx 14 (f14_d (f14 k) e) :=
  he.door fun _x _y => body_ok (keep := kp) (ann := f14_ann) (lrc := f14_r (R := R) k) (N := 19) (n0 := 0) (c := []) cxOk mixed (f14_o_ok k) (body := f14_b) (by kernel_rfl : Tryd.prog.funcs[14]? = some Tryd.f14) (by kernel_rfl) (by kernel_rfl) (by kernel_rfl) (by kernel_rfl) (of_decide_eq_true (by kernel_rfl)) (L := []) (by kernel_rfl) trivial (J := []) (by kernel_rfl) trivial (LrcNat.no) (fun _K => by delta f14 f14_o; generalize @f49 R = a0; revert a0; refine id ?_; intros; kernel_rfl)

abbrev f56_T (R : Type) : Type := List Int → (Int → Option R) → Option R
/-! ## 56: diorama/dioramaref08.number -/
noncomputable def f56_l3 {R : Type} : Nat → List Int → Int → Int → (Int → Option R) → Option R
  | 0, _, _, _, _ => none
  | k + 1, v1, v2, v3, X0 =>
  bif decide (v3 < (v1.length : Int)) then
   bif inb v3 v1.length then
    f56_l3 k v1 (IntKind.i64.wrap ((IntKind.i64.wrap (v2 * 256)) + (IntKind.i64.wrap ((v1.getD v3.toNat 0))))) (IntKind.i64.wrap (v3 + 1)) X0
   else
    none
  else
   X0 v2
noncomputable def f56 {R : Type} (k : Nat) (a0 : List Int) (K : Int → Option R) : Option R :=
 f56_l3 k a0 0 0 K
noncomputable def f56_d {R : Type} (g : f56_T R) (e : Dr D R) : Dr D R := door [.list (.int .u8)] [] (fun (x : (List Int × Unit)) (_y : (Unit)) K => g x.1 (fun z0 => K ⟨.int .i64 z0, []⟩)) e
noncomputable def f56_o {R : Type} (_k : Nat) : Orc D R := noOrc
theorem f56_o_ok {R : Type} (k : Nat) : OrcOk Tryd.prog cx (f56_o (R := R) k) := OrcOk.no
noncomputable def f56_b : Code := bodyOf Tryd.f56
noncomputable def f56_l3_a : LAnn := ⟨⟨[], [0, 3, 4], [], []⟩, exOf (none) [(0, ⟨[], [3], [], []⟩)]⟩
noncomputable def f56_ann : Nat → Option LAnn := fun key => bif Nat.beq key 3 then some f56_l3_a else none
noncomputable def f56_l3_b : Code := loopAt f56_b 0
noncomputable def f56_l3_g {R : Type} (k : Nat) (x : (List Int × Int × Int × Unit)) (_y : (Unit)) (K : KX R) : Option R := f56_l3 k x.1 x.2.1 x.2.2.1 (fun z0 => K (.exit 0) [.int .i64 z0] [])
noncomputable def f56_l3_d {R : Type} (k : Nat) : Lr D R := ldoor [.list (.int .u8), .int .i64, .int .i64] [] (f56_l3_g k)
noncomputable def f56_l3_r {R : Type} (_k : Nat) : Lrc D R := noLrc
theorem f56_l3_d_ok {R : Type} : ∀ k, LoopOk Tryd.prog cx 20 0 f56_ann (f56_l3_d (R := R) k) f56_l3_b :=
  loop_ok (keep := kp) (lrc := f56_l3_r (R := R)) cxOk mixed (f56_o_ok) (show f56_ann (Am.keyOf f56_l3_b) = some f56_l3_a by kernel_rfl) (L := []) (by kernel_rfl) (fun _k => trivial) (J := []) (by kernel_rfl) (fun _k => trivial) (fun _k => LrcNat.no) (fun _x _y _K => by kernel_rfl) (fun _k _x _y _K => by kernel_rfl)
noncomputable def f56_r {R : Type} (k : Nat) : Lrc D R := (lrcAdd 3 (f56_l3_d k) noLrc)
theorem f56_ok {R : Type} (k : Nat) {e : Dr D R} (he : FnOk Tryd.prog cx 56 e) : FnOk Tryd.prog cx 56 (f56_d (f56 k) e) :=
  he.door fun _x _y => body_ok (keep := kp) (ann := f56_ann) (lrc := f56_r (R := R) k) (N := 20) (n0 := 0) (c := []) cxOk mixed (f56_o_ok k) (body := f56_b) (by kernel_rfl : Tryd.prog.funcs[56]? = some Tryd.f56) (by kernel_rfl) (by kernel_rfl) (by kernel_rfl) (by kernel_rfl) (of_decide_eq_true (by kernel_rfl)) (L := [f56_l3_b]) (by kernel_rfl) (⟨(f56_l3_d_ok k).use (by kernel_rfl), trivial⟩) (J := []) (by kernel_rfl) trivial ((LrcNat.add (f56_l3_d_ok k).2 LrcNat.no)) (fun _K => by kernel_rfl)

abbrev f55_T (R : Type) : Type := List Int → (Bool → Option R) → Option R
/-! ## 55: diorama/dioramaref08.isType -/
noncomputable def f55_l2 {R : Type} : Nat → List Int → Int → (List Int → Option R) → (Bool → Option R) → Option R
  | 0, _, _, _, _ => none
  | k + 1, v1, v2, X0, X1 =>
  bif decide (v2 < (v1.length : Int)) then
   bif inb v2 v1.length then
    bif decide ((v1.getD v2.toNat 0) ≥ 97) then
     bif decide ((v1.getD v2.toNat 0) ≤ 122) then
      f55_l2 k v1 (IntKind.i64.wrap (v2 + 1)) X0 X1
     else
      bif decide ((v1.getD v2.toNat 0) ≥ 48) then
      bif (!(decide ((v1.getD v2.toNat 0) ≤ 57))) then
      X1 false
      else
      f55_l2 k v1 (IntKind.i64.wrap (v2 + 1)) X0 X1
      else
      X1 false
    else
     bif decide ((v1.getD v2.toNat 0) ≥ 48) then
      bif (!(decide ((v1.getD v2.toNat 0) ≤ 57))) then
      X1 false
      else
      f55_l2 k v1 (IntKind.i64.wrap (v2 + 1)) X0 X1
     else
      X1 false
   else
    none
  else
   X0 v1
noncomputable def f55 {R : Type} (k : Nat) (a0 : List Int) (K : Bool → Option R) : Option R :=
 f55_l2 k a0 0 (fun v3 =>
  K ((v3.length : Int) == 4)) K
noncomputable def f55_d {R : Type} (g : f55_T R) (e : Dr D R) : Dr D R := door [.list (.int .u8)] [] (fun (x : (List Int × Unit)) (_y : (Unit)) K => g x.1 (fun z0 => K ⟨.bool z0, []⟩)) e
noncomputable def f55_o {R : Type} (_k : Nat) : Orc D R := noOrc
theorem f55_o_ok {R : Type} (k : Nat) : OrcOk Tryd.prog cx (f55_o (R := R) k) := OrcOk.no
noncomputable def f55_b : Code := bodyOf Tryd.f55
noncomputable def f55_l2_a : LAnn := ⟨⟨[], [0, 3], [], []⟩, exOf (some ⟨[], [2], [], []⟩) [(0, ⟨[], [0], [], []⟩)]⟩
noncomputable def f55_ann : Nat → Option LAnn := fun key => bif Nat.beq key 2 then some f55_l2_a else none
noncomputable def f55_l2_b : Code := loopAt f55_b 0
noncomputable def f55_l2_g {R : Type} (k : Nat) (x : (List Int × Int × Unit)) (_y : (Unit)) (K : KX R) : Option R := f55_l2 k x.1 x.2.1 (fun z0 => K (.exit 0) [.list (.int .u8) z0] []) (fun z0 => K (.ret) [.bool z0] [])
noncomputable def f55_l2_d {R : Type} (k : Nat) : Lr D R := ldoor [.list (.int .u8), .int .i64] [] (f55_l2_g k)
noncomputable def f55_l2_r {R : Type} (_k : Nat) : Lrc D R := noLrc
theorem f55_l2_d_ok {R : Type} : ∀ k, LoopOk Tryd.prog cx 33 0 f55_ann (f55_l2_d (R := R) k) f55_l2_b :=
  loop_ok (keep := kp) (lrc := f55_l2_r (R := R)) cxOk mixed (f55_o_ok) (show f55_ann (Am.keyOf f55_l2_b) = some f55_l2_a by kernel_rfl) (L := []) (by kernel_rfl) (fun _k => trivial) (J := []) (by kernel_rfl) (fun _k => trivial) (fun _k => LrcNat.no) (fun _x _y _K => by kernel_rfl) (fun _k _x _y _K => by kernel_rfl)
noncomputable def f55_r {R : Type} (k : Nat) : Lrc D R := (lrcAdd 2 (f55_l2_d k) noLrc)
theorem f55_ok {R : Type} (k : Nat) {e : Dr D R} (he : FnOk Tryd.prog cx 55 e) : FnOk Tryd.prog cx 55 (f55_d (f55 k) e) :=
  he.door fun _x _y => body_ok (keep := kp) (ann := f55_ann) (lrc := f55_r (R := R) k) (N := 33) (n0 := 0) (c := []) cxOk mixed (f55_o_ok k) (body := f55_b) (by kernel_rfl : Tryd.prog.funcs[55]? = some Tryd.f55) (by kernel_rfl) (by kernel_rfl) (by kernel_rfl) (by kernel_rfl) (of_decide_eq_true (by kernel_rfl)) (L := [f55_l2_b]) (by kernel_rfl) (⟨(f55_l2_d_ok k).use (by kernel_rfl), trivial⟩) (J := []) (by kernel_rfl) trivial ((LrcNat.add (f55_l2_d_ok k).2 LrcNat.no)) (fun _K => by kernel_rfl)


end Go.Proofs.YtehmahdngjdhpaaDoor

/-! What the functions do, as plain functions; and that they do. -/
namespace Go.Proofs.YtehmahdngjdhpaaDoor
open Go Go.Am
abbrev f60_T (R : Type) : Type := ByteArray → (List ByteArray → Option R) → Option R
/-! ## 60: diorama/dioramaref08.parents -/
noncomputable def f60 {R : Type} (_k : Nat) (a0 : ByteArray) (K : List ByteArray → Option R) : Option R :=
 bif (a0.toList == (⟨#[109, 111, 118, 105]⟩ : ByteArray).toList) then
  bif (a0.toList == (⟨#[109, 111, 118, 105]⟩ : ByteArray).toList) then
   K ([(⟨#[]⟩ : ByteArray)])
  else
   bif (a0.toList == (⟨#[116, 114, 97, 107]⟩ : ByteArray).toList) then
    K ([(⟨#[109, 111, 118, 105]⟩ : ByteArray)])
   else
    bif (a0.toList == (⟨#[109, 100, 105, 97]⟩ : ByteArray).toList) then
     bif (a0.toList == (⟨#[109, 100, 105, 97]⟩ : ByteArray).toList) then
      K ([(⟨#[116, 114, 97, 107]⟩ : ByteArray)])
     else
      bif (a0.toList == (⟨#[115, 116, 98, 108]⟩ : ByteArray).toList) then
      bif (a0.toList == (⟨#[115, 116, 98, 108]⟩ : ByteArray).toList) then
      K ([(⟨#[109, 100, 105, 97]⟩ : ByteArray)])
      else
      bif (a0.toList == (⟨#[116, 102, 114, 103]⟩ : ByteArray).toList) then
      K ([(⟨#[102, 114, 97, 103]⟩ : ByteArray)])
      else
      bif (a0.toList == (⟨#[117, 100, 97, 116]⟩ : ByteArray).toList) then
      K ([(⟨#[109, 111, 118, 105]⟩ : ByteArray), (⟨#[116, 114, 97, 107]⟩ : ByteArray)])
      else
      bif (a0.toList == (⟨#[109, 101, 116, 97]⟩ : ByteArray).toList) then
      K ([(⟨#[]⟩ : ByteArray), (⟨#[109, 111, 118, 105]⟩ : ByteArray), (⟨#[116, 114, 97, 107]⟩ : ByteArray)])
      else
      bif (a0.toList == (⟨#[105, 116, 101, 109]⟩ : ByteArray).toList) then
      K ([(⟨#[109, 101, 116, 97]⟩ : ByteArray)])
      else
      K ([] : List ByteArray)
      else
      bif (a0.toList == (⟨#[112, 114, 111, 116]⟩ : ByteArray).toList) then
      K ([(⟨#[109, 100, 105, 97]⟩ : ByteArray)])
      else
      bif (a0.toList == (⟨#[116, 102, 114, 103]⟩ : ByteArray).toList) then
      K ([(⟨#[102, 114, 97, 103]⟩ : ByteArray)])
      else
      bif (a0.toList == (⟨#[117, 100, 97, 116]⟩ : ByteArray).toList) then
      K ([(⟨#[109, 111, 118, 105]⟩ : ByteArray), (⟨#[116, 114, 97, 107]⟩ : ByteArray)])
      else
      bif (a0.toList == (⟨#[109, 101, 116, 97]⟩ : ByteArray).toList) then
      K ([(⟨#[]⟩ : ByteArray), (⟨#[109, 111, 118, 105]⟩ : ByteArray), (⟨#[116, 114, 97, 107]⟩ : ByteArray)])
      else
      bif (a0.toList == (⟨#[105, 116, 101, 109]⟩ : ByteArray).toList) then
      K ([(⟨#[109, 101, 116, 97]⟩ : ByteArray)])
      else
      K ([] : List ByteArray)
    else
     bif (a0.toList == (⟨#[101, 100, 116, 115]⟩ : ByteArray).toList) then
      K ([(⟨#[116, 114, 97, 107]⟩ : ByteArray)])
     else
      bif (a0.toList == (⟨#[115, 116, 98, 108]⟩ : ByteArray).toList) then
      bif (a0.toList == (⟨#[115, 116, 98, 108]⟩ : ByteArray).toList) then
      K ([(⟨#[109, 100, 105, 97]⟩ : ByteArray)])
      else
      bif (a0.toList == (⟨#[116, 102, 114, 103]⟩ : ByteArray).toList) then
      K ([(⟨#[102, 114, 97, 103]⟩ : ByteArray)])
      else
      bif (a0.toList == (⟨#[117, 100, 97, 116]⟩ : ByteArray).toList) then
      K ([(⟨#[109, 111, 118, 105]⟩ : ByteArray), (⟨#[116, 114, 97, 107]⟩ : ByteArray)])
      else
      bif (a0.toList == (⟨#[109, 101, 116, 97]⟩ : ByteArray).toList) then
      K ([(⟨#[]⟩ : ByteArray), (⟨#[109, 111, 118, 105]⟩ : ByteArray), (⟨#[116, 114, 97, 107]⟩ : ByteArray)])
      else
      bif (a0.toList == (⟨#[105, 116, 101, 109]⟩ : ByteArray).toList) then
      K ([(⟨#[109, 101, 116, 97]⟩ : ByteArray)])
      else
      K ([] : List ByteArray)
      else
      bif (a0.toList == (⟨#[112, 114, 111, 116]⟩ : ByteArray).toList) then
      K ([(⟨#[109, 100, 105, 97]⟩ : ByteArray)])
      else
      bif (a0.toList == (⟨#[116, 102, 114, 103]⟩ : ByteArray).toList) then
      K ([(⟨#[102, 114, 97, 103]⟩ : ByteArray)])
      else
      bif (a0.toList == (⟨#[117, 100, 97, 116]⟩ : ByteArray).toList) then
      K ([(⟨#[109, 111, 118, 105]⟩ : ByteArray), (⟨#[116, 114, 97, 107]⟩ : ByteArray)])
      else
      bif (a0.toList == (⟨#[109, 101, 116, 97]⟩ : ByteArray).toList) then
      K ([(⟨#[]⟩ : ByteArray), (⟨#[109, 111, 118, 105]⟩ : ByteArray), (⟨#[116, 114, 97, 107]⟩ : ByteArray)])
      else
      bif (a0.toList == (⟨#[105, 116, 101, 109]⟩ : ByteArray).toList) then
      K ([(⟨#[109, 101, 116, 97]⟩ : ByteArray)])
      else
      K ([] : List ByteArray)
 else
  bif (a0.toList == (⟨#[102, 114, 97, 103]⟩ : ByteArray).toList) then
   K ([(⟨#[]⟩ : ByteArray)])
  else
   bif (a0.toList == (⟨#[116, 114, 97, 107]⟩ : ByteArray).toList) then
    K ([(⟨#[109, 111, 118, 105]⟩ : ByteArray)])
   else
    bif (a0.toList == (⟨#[109, 100, 105, 97]⟩ : ByteArray).toList) then
     bif (a0.toList == (⟨#[109, 100, 105, 97]⟩ : ByteArray).toList) then
      K ([(⟨#[116, 114, 97, 107]⟩ : ByteArray)])
     else
      bif (a0.toList == (⟨#[115, 116, 98, 108]⟩ : ByteArray).toList) then
      bif (a0.toList == (⟨#[115, 116, 98, 108]⟩ : ByteArray).toList) then
      K ([(⟨#[109, 100, 105, 97]⟩ : ByteArray)])
      else
      bif (a0.toList == (⟨#[116, 102, 114, 103]⟩ : ByteArray).toList) then
      K ([(⟨#[102, 114, 97, 103]⟩ : ByteArray)])
      else
      bif (a0.toList == (⟨#[117, 100, 97, 116]⟩ : ByteArray).toList) then
      K ([(⟨#[109, 111, 118, 105]⟩ : ByteArray), (⟨#[116, 114, 97, 107]⟩ : ByteArray)])
      else
      bif (a0.toList == (⟨#[109, 101, 116, 97]⟩ : ByteArray).toList) then
      K ([(⟨#[]⟩ : ByteArray), (⟨#[109, 111, 118, 105]⟩ : ByteArray), (⟨#[116, 114, 97, 107]⟩ : ByteArray)])
      else
      bif (a0.toList == (⟨#[105, 116, 101, 109]⟩ : ByteArray).toList) then
      K ([(⟨#[109, 101, 116, 97]⟩ : ByteArray)])
      else
      K ([] : List ByteArray)
      else
      bif (a0.toList == (⟨#[112, 114, 111, 116]⟩ : ByteArray).toList) then
      K ([(⟨#[109, 100, 105, 97]⟩ : ByteArray)])
      else
      bif (a0.toList == (⟨#[116, 102, 114, 103]⟩ : ByteArray).toList) then
      K ([(⟨#[102, 114, 97, 103]⟩ : ByteArray)])
      else
      bif (a0.toList == (⟨#[117, 100, 97, 116]⟩ : ByteArray).toList) then
      K ([(⟨#[109, 111, 118, 105]⟩ : ByteArray), (⟨#[116, 114, 97, 107]⟩ : ByteArray)])
      else
      bif (a0.toList == (⟨#[109, 101, 116, 97]⟩ : ByteArray).toList) then
      K ([(⟨#[]⟩ : ByteArray), (⟨#[109, 111, 118, 105]⟩ : ByteArray), (⟨#[116, 114, 97, 107]⟩ : ByteArray)])
      else
      bif (a0.toList == (⟨#[105, 116, 101, 109]⟩ : ByteArray).toList) then
      K ([(⟨#[109, 101, 116, 97]⟩ : ByteArray)])
      else
      K ([] : List ByteArray)
    else
     bif (a0.toList == (⟨#[101, 100, 116, 115]⟩ : ByteArray).toList) then
      K ([(⟨#[116, 114, 97, 107]⟩ : ByteArray)])
     else
      bif (a0.toList == (⟨#[115, 116, 98, 108]⟩ : ByteArray).toList) then
      bif (a0.toList == (⟨#[115, 116, 98, 108]⟩ : ByteArray).toList) then
      K ([(⟨#[109, 100, 105, 97]⟩ : ByteArray)])
      else
      bif (a0.toList == (⟨#[116, 102, 114, 103]⟩ : ByteArray).toList) then
      K ([(⟨#[102, 114, 97, 103]⟩ : ByteArray)])
      else
      bif (a0.toList == (⟨#[117, 100, 97, 116]⟩ : ByteArray).toList) then
      K ([(⟨#[109, 111, 118, 105]⟩ : ByteArray), (⟨#[116, 114, 97, 107]⟩ : ByteArray)])
      else
      bif (a0.toList == (⟨#[109, 101, 116, 97]⟩ : ByteArray).toList) then
      K ([(⟨#[]⟩ : ByteArray), (⟨#[109, 111, 118, 105]⟩ : ByteArray), (⟨#[116, 114, 97, 107]⟩ : ByteArray)])
      else
      bif (a0.toList == (⟨#[105, 116, 101, 109]⟩ : ByteArray).toList) then
      K ([(⟨#[109, 101, 116, 97]⟩ : ByteArray)])
      else
      K ([] : List ByteArray)
      else
      bif (a0.toList == (⟨#[112, 114, 111, 116]⟩ : ByteArray).toList) then
      K ([(⟨#[109, 100, 105, 97]⟩ : ByteArray)])
      else
      bif (a0.toList == (⟨#[116, 102, 114, 103]⟩ : ByteArray).toList) then
      K ([(⟨#[102, 114, 97, 103]⟩ : ByteArray)])
      else
      bif (a0.toList == (⟨#[117, 100, 97, 116]⟩ : ByteArray).toList) then
      K ([(⟨#[109, 111, 118, 105]⟩ : ByteArray), (⟨#[116, 114, 97, 107]⟩ : ByteArray)])
      else
      bif (a0.toList == (⟨#[109, 101, 116, 97]⟩ : ByteArray).toList) then
      K ([(⟨#[]⟩ : ByteArray), (⟨#[109, 111, 118, 105]⟩ : ByteArray), (⟨#[116, 114, 97, 107]⟩ : ByteArray)])
      else
      bif (a0.toList == (⟨#[105, 116, 101, 109]⟩ : ByteArray).toList) then
      K ([(⟨#[109, 101, 116, 97]⟩ : ByteArray)])
      else
      K ([] : List ByteArray)
noncomputable def f60_d {R : Type} (g : f60_T R) (e : Dr D R) : Dr D R := door [.str] [] (fun (x : (ByteArray × Unit)) (_y : (Unit)) K => g x.1 (fun z0 => K ⟨.own 0, [some (.row .str z0 true)]⟩)) e
noncomputable def f60_o {R : Type} (_k : Nat) : Orc D R := noOrc
theorem f60_o_ok {R : Type} (k : Nat) : OrcOk Tryd.prog cx (f60_o (R := R) k) := OrcOk.no
noncomputable def f60_b : Code := bodyOf Tryd.f60
noncomputable def f60_ann : Nat → Option LAnn := fun _key => none
noncomputable def f60_r {R : Type} (_k : Nat) : Lrc D R := noLrc
theorem f60_ok {R : Type} (k : Nat) {e : Dr D R} (he : FnOk Tryd.prog cx 60 e) : FnOk Tryd.prog cx 60 (f60_d (f60 k) e) :=
  he.door fun _x _y => body_ok (keep := kp) (ann := f60_ann) (lrc := f60_r (R := R) k) (N := 31) (n0 := 0) (c := [(.tmp 2, .own 1099511627776 .str)]) cxOk mixed (f60_o_ok k) (body := f60_b) (by kernel_rfl : Tryd.prog.funcs[60]? = some Tryd.f60) (by kernel_rfl) (by kernel_rfl) (by kernel_rfl) (by kernel_rfl) (of_decide_eq_true (by kernel_rfl)) (L := []) (by kernel_rfl) trivial (J := []) (by kernel_rfl) trivial (LrcNat.no) (fun _K => by kernel_rfl)

abbrev f88_T (R : Type) : Type := ByteArray → ByteArray → (Bool → Option R) → Option R
/-! ## 88: diorama/dioramaref08.may -/
noncomputable def f88_l3 {R : Type} : Nat → ByteArray → Int → List ByteArray → (List ByteArray → Option R) → (Bool → Option R) → Option R
  | 0, _, _, _, _, _ => none
  | k + 1, v2, v3, v4, X0, X1 =>
  bif decide (v3 < (v4.length : Int)) then
   bif inb v3 v4.length then
    bif ((v4.getD v3.toNat ByteArray.empty).toList == v2.toList) then
     X1 true
    else
     f88_l3 k v2 (IntKind.i64.wrap (v3 + 1)) v4 X0 X1
   else
    none
  else
   X0 v4
noncomputable def f88 {R : Type} (k : Nat) (a0 a1 : ByteArray) (K : Bool → Option R) : Option R :=
 f60 k a0 (fun v1 =>
  f88_l3 k a1 0 v1 (fun v5 =>
   K ((v5.length : Int) == 0)) K)
noncomputable def f88_d {R : Type} (g : f88_T R) (e : Dr D R) : Dr D R := door [.str, .str] [] (fun (x : (ByteArray × ByteArray × Unit)) (_y : (Unit)) K => g x.1 x.2.1 (fun z0 => K ⟨.bool z0, []⟩)) e
noncomputable def f88_o {R : Type} (k : Nat) : Orc D R := (orcAdd 60 (f60_d (f60 k) noDr) noOrc)
theorem f88_o_ok {R : Type} (k : Nat) : OrcOk Tryd.prog cx (f88_o (R := R) k) := (OrcOk.add (f60_ok k FnOk.no) OrcOk.no)
noncomputable def f88_b : Code := bodyOf Tryd.f88
noncomputable def f88_l3_a : LAnn := ⟨⟨[], [1, 5, 6], [131216], []⟩, exOf (some ⟨[], [4], [], []⟩) [(0, ⟨[], [5], [131216], []⟩)]⟩
noncomputable def f88_ann : Nat → Option LAnn := fun key => bif Nat.beq key 3 then some f88_l3_a else none
noncomputable def f88_l3_b : Code := loopAt f88_b 0
noncomputable def f88_l3_g {R : Type} (k : Nat) (x : (ByteArray × Unit × Int × Unit)) (y : (List ByteArray × Unit)) (K : KX R) : Option R := f88_l3 k x.1 x.2.2.1 y.1 (fun z0 => K (.exit 0) [.own 131216] [some (.row .str z0 true)]) (fun z0 => K (.ret) [.bool z0] [])
noncomputable def f88_l3_d {R : Type} (k : Nat) : Lr D R := ldoor [.str, .own 131216, .int .i64] [some (.row .str true)] (f88_l3_g k)
noncomputable def f88_l3_r {R : Type} (_k : Nat) : Lrc D R := noLrc
theorem f88_l3_d_ok {R : Type} : ∀ k, LoopOk Tryd.prog cx 24 0 f88_ann (f88_l3_d (R := R) k) f88_l3_b :=
  loop_ok (keep := kp) (lrc := f88_l3_r (R := R)) cxOk mixed (f88_o_ok) (show f88_ann (Am.keyOf f88_l3_b) = some f88_l3_a by kernel_rfl) (L := []) (by kernel_rfl) (fun _k => trivial) (J := []) (by kernel_rfl) (fun _k => trivial) (fun _k => LrcNat.no) (fun _x _y _K => by kernel_rfl) (fun _k _x _y _K => by kernel_rfl)
noncomputable def f88_r {R : Type} (k : Nat) : Lrc D R := (lrcAdd 3 (f88_l3_d k) noLrc)
theorem f88_ok {R : Type} (k : Nat) {e : Dr D R} (he : FnOk Tryd.prog cx 88 e) : FnOk Tryd.prog cx 88 (f88_d (f88 k) e) :=
  he.door fun _x _y => body_ok (keep := kp) (ann := f88_ann) (lrc := f88_r (R := R) k) (N := 24) (n0 := 0) (c := []) cxOk mixed (f88_o_ok k) (body := f88_b) (by kernel_rfl : Tryd.prog.funcs[88]? = some Tryd.f88) (by kernel_rfl) (by kernel_rfl) (by kernel_rfl) (by kernel_rfl) (of_decide_eq_true (by kernel_rfl)) (L := [f88_l3_b]) (by kernel_rfl) (⟨(f88_l3_d_ok k).use (by kernel_rfl), trivial⟩) (J := []) (by kernel_rfl) trivial ((LrcNat.add (f88_l3_d_ok k).2 LrcNat.no)) (fun _K => by delta f88 f88_o; generalize @f60 R = a0; revert a0; refine id ?_; intros; kernel_rfl)

abbrev f95_2_T (R : Type) : Type := Int → Int → List Int → Int → Int → Int → List D0 → (List Int → Int → Int → Int → List D0 → Option R) → Option R
/-! ## 95: (*diorama/dioramaref08.walker).fail -/
noncomputable def f95_2 {R : Type} (_k : Nat) (a0 a1 : Int) (a2 : List Int) (a3 a4 a5 : Int) (a6 : List D0) (K : List Int → Int → Int → Int → List D0 → Option R) : Option R :=
 bif (a4 == 0) then
  K a2 a3 a1 a0 a6
 else
  K a2 a3 a4 a5 a6
noncomputable def f95_2_d {R : Type} (g : f95_2_T R) (e : Dr D R) : Dr D R := door [.ptr 0 0, .int .i64, .int .i64] [.box [.list (.int .u8), .own 1, .int .i64, .int .i64, .int .i64], .row (.named 0) true] (fun (x : (Unit × Int × Int × Unit)) (y : ((List Int × Unit × Int × Int × Int × Unit) × List D0 × Unit)) K => g x.2.1 x.2.2.1 y.1.1 y.1.2.2.1 y.1.2.2.2.1 y.1.2.2.2.2.1 y.2.1 (fun z0 z1 z2 z3 z4 => K ⟨.tup [], [some (.box [.list (.int .u8) z0, .own 1, .int .i64 z1, .int .i64 z2, .int .i64 z3]), some (.row (.named 0) z4 true)]⟩)) e
noncomputable def f95_2_o {R : Type} (_k : Nat) : Orc D R := noOrc
theorem f95_2_o_ok {R : Type} (k : Nat) : OrcOk Tryd.prog cx (f95_2_o (R := R) k) := OrcOk.no
noncomputable def f95_2_b : Code := bodyOf Tryd.f95
noncomputable def f95_2_ann : Nat → Option LAnn := fun _key => none
noncomputable def f95_2_r {R : Type} (_k : Nat) : Lrc D R := noLrc
theorem f95_2_ok {R : Type} (k : Nat) {e : Dr D R} (he : FnOk Tryd.prog cx 95 e) : FnOk Tryd.prog cx 95 (f95_2_d (f95_2 k) e) :=
  he.door fun _x _y => body_ok (keep := kp) (ann := f95_2_ann) (lrc := f95_2_r (R := R) k) (N := 19) (n0 := 2) (c := []) cxOk mixed (f95_2_o_ok k) (body := f95_2_b) (by kernel_rfl : Tryd.prog.funcs[95]? = some Tryd.f95) (by kernel_rfl) (by kernel_rfl) (by kernel_rfl) (by kernel_rfl) (of_decide_eq_true (by kernel_rfl)) (L := []) (by kernel_rfl) trivial (J := []) (by kernel_rfl) trivial (LrcNat.no) (fun _K => by kernel_rfl)

abbrev f94_2_T (R : Type) : Type := Int → Int → Int → List Int → Int → Int → Int → List D0 → (Int → Int → List Int → Int → Int → Int → List D0 → Option R) → Option R
/-! ## 94: (*diorama/dioramaref08.walker).head -/
noncomputable def f94_2 {R : Type} (k : Nat) (a0 a1 a2 : Int) (a3 : List Int) (a4 a5 a6 : Int) (a7 : List D0) (K : Int → Int → List Int → Int → Int → Int → List D0 → Option R) : Option R :=
 bif decide ((IntKind.i64.wrap (a1 - a0)) < 8) then
  f95_2 k a0 3 a3 a4 a5 a6 a7 (fun v1 v2 v3 v4 v5 =>
   K 0 0 v1 v2 v3 v4 v5)
 else
  bif upto (IntKind.i64.wrap (a0 + 4)) a3.length then
   bif (decide (0 ≤ a0)) && (decide (a0 ≤ (IntKind.i64.wrap (a0 + 4)))) then
    f56 k ((a3.take ((IntKind.i64.wrap (a0 + 4)).toNat)).drop a0.toNat) (fun v6 =>
     bif (v6 == 0) then
      bif decide (a2 > 1) then
      f95_2 k a0 41 a3 a4 a5 a6 a7 (fun v7 v8 v9 v10 v11 =>
      K 0 0 v7 v8 v9 v10 v11)
      else
      bif decide ((IntKind.i64.wrap ((a3.length : Int) - a0)) > (IntKind.i64.wrap ((a3.length : Int) - a0))) then
      f95_2 k a0 3 a3 a4 a5 a6 a7 (fun v12 v13 v14 v15 v16 =>
      bif decide ((IntKind.i64.wrap ((a3.length : Int) - a0)) < 8) then
      f95_2 k a0 41 v12 v13 v14 v15 v16 (fun v17 v18 v19 v20 v21 =>
      K 8 (IntKind.i64.wrap (a0 + (IntKind.i64.wrap ((a3.length : Int) - a0)))) v17 v18 v19 v20 v21)
      else
      bif decide ((IntKind.i64.wrap ((a3.length : Int) - a0)) > (IntKind.i64.wrap (a1 - a0))) then
      f95_2 k a0 41 v12 v13 v14 v15 v16 (fun v22 v23 v24 v25 v26 =>
      K 8 (IntKind.i64.wrap (a0 + (IntKind.i64.wrap ((a3.length : Int) - a0)))) v22 v23 v24 v25 v26)
      else
      K 8 (IntKind.i64.wrap (a0 + (IntKind.i64.wrap ((a3.length : Int) - a0)))) v12 v13 v14 v15 v16)
      else
      bif decide ((IntKind.i64.wrap ((a3.length : Int) - a0)) < 8) then
      f95_2 k a0 41 a3 a4 a5 a6 a7 (fun v27 v28 v29 v30 v31 =>
      K 8 (IntKind.i64.wrap (a0 + (IntKind.i64.wrap ((a3.length : Int) - a0)))) v27 v28 v29 v30 v31)
      else
      bif decide ((IntKind.i64.wrap ((a3.length : Int) - a0)) > (IntKind.i64.wrap (a1 - a0))) then
      f95_2 k a0 41 a3 a4 a5 a6 a7 (fun v32 v33 v34 v35 v36 =>
      K 8 (IntKind.i64.wrap (a0 + (IntKind.i64.wrap ((a3.length : Int) - a0)))) v32 v33 v34 v35 v36)
      else
      K 8 (IntKind.i64.wrap (a0 + (IntKind.i64.wrap ((a3.length : Int) - a0)))) a3 a4 a5 a6 a7
     else
      bif (v6 == 1) then
      bif decide ((IntKind.i64.wrap (a1 - a0)) < 16) then
      f95_2 k a0 3 a3 a4 a5 a6 a7 (fun v37 v38 v39 v40 v41 =>
      K 0 0 v37 v38 v39 v40 v41)
      else
      bif inb (IntKind.i64.wrap (a0 + 8)) a3.length then
      bif decide ((a3.getD ((IntKind.i64.wrap (a0 + 8)).toNat) 0) ≥ 128) then
      f95_2 k a0 3 a3 a4 a5 a6 a7 (fun v42 v43 v44 v45 v46 =>
      K 0 0 v42 v43 v44 v45 v46)
      else
      bif upto (IntKind.i64.wrap (a0 + 16)) a3.length then
      bif (decide (0 ≤ (IntKind.i64.wrap (a0 + 8)))) && (decide ((IntKind.i64.wrap (a0 + 8)) ≤ (IntKind.i64.wrap (a0 + 16)))) then
      f56 k ((a3.take ((IntKind.i64.wrap (a0 + 16)).toNat)).drop ((IntKind.i64.wrap (a0 + 8)).toNat)) (fun v47 =>
      bif decide (v47 > (IntKind.i64.wrap ((a3.length : Int) - a0))) then
      f95_2 k a0 3 a3 a4 a5 a6 a7 (fun v48 v49 v50 v51 v52 =>
      bif decide (v47 < 16) then
      f95_2 k a0 41 v48 v49 v50 v51 v52 (fun v53 v54 v55 v56 v57 =>
      K 16 (IntKind.i64.wrap (a0 + v47)) v53 v54 v55 v56 v57)
      else
      bif decide (v47 > (IntKind.i64.wrap (a1 - a0))) then
      f95_2 k a0 41 v48 v49 v50 v51 v52 (fun v58 v59 v60 v61 v62 =>
      K 16 (IntKind.i64.wrap (a0 + v47)) v58 v59 v60 v61 v62)
      else
      K 16 (IntKind.i64.wrap (a0 + v47)) v48 v49 v50 v51 v52)
      else
      bif decide (v47 < 16) then
      f95_2 k a0 41 a3 a4 a5 a6 a7 (fun v63 v64 v65 v66 v67 =>
      K 16 (IntKind.i64.wrap (a0 + v47)) v63 v64 v65 v66 v67)
      else
      bif decide (v47 > (IntKind.i64.wrap (a1 - a0))) then
      f95_2 k a0 41 a3 a4 a5 a6 a7 (fun v68 v69 v70 v71 v72 =>
      K 16 (IntKind.i64.wrap (a0 + v47)) v68 v69 v70 v71 v72)
      else
      K 16 (IntKind.i64.wrap (a0 + v47)) a3 a4 a5 a6 a7)
      else
      none
      else
      none
      else
      none
      else
      bif decide (v6 > (IntKind.i64.wrap ((a3.length : Int) - a0))) then
      f95_2 k a0 3 a3 a4 a5 a6 a7 (fun v73 v74 v75 v76 v77 =>
      bif decide (v6 < 8) then
      f95_2 k a0 41 v73 v74 v75 v76 v77 (fun v78 v79 v80 v81 v82 =>
      K 8 (IntKind.i64.wrap (a0 + v6)) v78 v79 v80 v81 v82)
      else
      bif decide (v6 > (IntKind.i64.wrap (a1 - a0))) then
      f95_2 k a0 41 v73 v74 v75 v76 v77 (fun v83 v84 v85 v86 v87 =>
      K 8 (IntKind.i64.wrap (a0 + v6)) v83 v84 v85 v86 v87)
      else
      K 8 (IntKind.i64.wrap (a0 + v6)) v73 v74 v75 v76 v77)
      else
      bif decide (v6 < 8) then
      f95_2 k a0 41 a3 a4 a5 a6 a7 (fun v88 v89 v90 v91 v92 =>
      K 8 (IntKind.i64.wrap (a0 + v6)) v88 v89 v90 v91 v92)
      else
      bif decide (v6 > (IntKind.i64.wrap (a1 - a0))) then
      f95_2 k a0 41 a3 a4 a5 a6 a7 (fun v93 v94 v95 v96 v97 =>
      K 8 (IntKind.i64.wrap (a0 + v6)) v93 v94 v95 v96 v97)
      else
      K 8 (IntKind.i64.wrap (a0 + v6)) a3 a4 a5 a6 a7)
   else
    none
  else
   none
noncomputable def f94_2_d {R : Type} (g : f94_2_T R) (e : Dr D R) : Dr D R := door [.ptr 0 0, .int .i64, .int .i64, .int .i64] [.box [.list (.int .u8), .own 1, .int .i64, .int .i64, .int .i64], .row (.named 0) true] (fun (x : (Unit × Int × Int × Int × Unit)) (y : ((List Int × Unit × Int × Int × Int × Unit) × List D0 × Unit)) K => g x.2.1 x.2.2.1 x.2.2.2.1 y.1.1 y.1.2.2.1 y.1.2.2.2.1 y.1.2.2.2.2.1 y.2.1 (fun z0 z1 z2 z3 z4 z5 z6 => K ⟨.tup [.int .i64 z0, .int .i64 z1], [some (.box [.list (.int .u8) z2, .own 1, .int .i64 z3, .int .i64 z4, .int .i64 z5]), some (.row (.named 0) z6 true)]⟩)) e
noncomputable def f94_2_o {R : Type} (k : Nat) : Orc D R := (orcAdd 95 (f95_2_d (f95_2 k) noDr) (orcAdd 56 (f56_d (f56 k) noDr) noOrc))
theorem f94_2_o_ok {R : Type} (k : Nat) : OrcOk Tryd.prog cx (f94_2_o (R := R) k) := (OrcOk.add (f95_2_ok k FnOk.no) (OrcOk.add (f56_ok k FnOk.no) OrcOk.no))
noncomputable def f94_2_b : Code := bodyOf Tryd.f94
noncomputable def f94_2_ann : Nat → Option LAnn := fun _key => none
noncomputable def f94_2_r {R : Type} (_k : Nat) : Lrc D R := noLrc
theorem f94_2_ok {R : Type} (k : Nat) {e : Dr D R} (he : FnOk Tryd.prog cx 94 e) : FnOk Tryd.prog cx 94 (f94_2_d (f94_2 k) e) :=
  he.door fun _x _y => body_ok (keep := kp) (ann := f94_2_ann) (lrc := f94_2_r (R := R) k) (N := 93) (n0 := 2) (c := []) cxOk mixed (f94_2_o_ok k) (body := f94_2_b) (by kernel_rfl : Tryd.prog.funcs[94]? = some Tryd.f94) (by kernel_rfl) (by kernel_rfl) (by kernel_rfl) (by kernel_rfl) (of_decide_eq_true (by kernel_rfl)) (L := []) (by kernel_rfl) trivial (J := []) (by kernel_rfl) trivial (LrcNat.no) (fun _K => by delta f94_2 f94_2_o; generalize @f56 R = a0; generalize @f95_2 R = a1; revert a0 a1; refine id ?_; intros; kernel_rfl)


end Go.Proofs.YtehmahdngjdhpaaDoor

/-! What the functions do, as plain functions; and that they do. -/
namespace Go.Proofs.YtehmahdngjdhpaaDoor
open Go Go.Am
abbrev f78_2_T (R : Type) : Type := Int → Int → ByteArray → Int → List Int → Int → Int → Int → List D0 → (List Int → Int → Int → Int → List D1 → List D0 → Option R) → Option R
/-! ## 78: (*diorama/dioramaref08.walker).list -/
noncomputable def f78_2_j23 {R : Type} (_g_f78_2 : Nat → f78_2_T R) (_k : Nat) (v114 : Int) (v115 : ByteArray) (v116 v117 : Int) (v118 : Bool) (v119 : List Int) (v120 v121 v122 : Int) (v123 : List D0) (v124 : List D1) (v125 : Int) (v126 : Bool) (v127 : List Int) (v128 : List D1) (X0 : Int → Int → ByteArray → Int → List Int → Int → Int → Int → List D0 → List D1 → Option R) : Option R :=
 bif (!v118) then
  bif room 64 (v124.length + ([(D1.mk v125 v127 v128 v126)]).length) then
   X0 v117 v114 v115 v116 v119 v120 v121 v122 v123 (v124 ++ ([(D1.mk v125 v127 v128 v126)]))
  else
   none
 else
  X0 v117 v114 v115 v116 v119 v120 v121 v122 v123 v124
noncomputable def f78_2_j17 {R : Type} (g_f78_2 : Nat → f78_2_T R) (k : Nat) (v92 v93 : Int) (v94 : ByteArray) (v95 v96 v97 : Int) (v98 : ByteArray) (v99 : Bool) (v100 : List Int) (v101 v102 v103 : Int) (v104 : List D0) (v105 : List D1) (X0 : List D1 → List Int → Int → Int → Int → List D0 → Option R) (X1 : Int → Int → ByteArray → Int → List Int → Int → Int → Int → List D0 → List D1 → Option R) : Option R :=
 bif (v102 != 0) then
  X0 v105 v100 v101 v102 v103 v104
 else
  bif upto (IntKind.i64.wrap (v92 + 8)) v100.length then
   bif (decide (0 ≤ (IntKind.i64.wrap (v92 + 4)))) && (decide ((IntKind.i64.wrap (v92 + 4)) ≤ (IntKind.i64.wrap (v92 + 8)))) then
    f56 k ((v100.take ((IntKind.i64.wrap (v92 + 8)).toNat)).drop ((IntKind.i64.wrap (v92 + 4)).toNat)) (fun v106 =>
     f60 k v98 (fun v107 =>
      bif room 40 (v104.length + ([(v106, v92, v96, (IntKind.i64.wrap ((IntKind.i64.wrap (v97 - v92)) - v96)), v95)]).length) then
      bif decide ((v107.length : Int) > 0) then
      g_f78_2 k (IntKind.i64.wrap (v92 + v96)) v97 v98 (IntKind.i64.wrap (v95 + 1)) v100 v101 v102 v103 (v104 ++ ([(v106, v92, v96, (IntKind.i64.wrap ((IntKind.i64.wrap (v97 - v92)) - v96)), v95)])) (fun v108 v109 v110 v111 v112 v113 =>
      f78_2_j23 g_f78_2 k v93 v94 v95 v97 v99 v108 v109 v110 v111 v113 v105 v106 (decide ((v107.length : Int) > 0)) ([] : List Int) v112 X1)
      else
      bif upto v97 v100.length then
      bif (decide (0 ≤ (IntKind.i64.wrap (v92 + v96)))) && (decide ((IntKind.i64.wrap (v92 + v96)) ≤ v97)) then
      bif room 1 (((v100.take v97.toNat).drop ((IntKind.i64.wrap (v92 + v96)).toNat)).length) then
      f78_2_j23 g_f78_2 k v93 v94 v95 v97 v99 v100 v101 v102 v103 (v104 ++ ([(v106, v92, v96, (IntKind.i64.wrap ((IntKind.i64.wrap (v97 - v92)) - v96)), v95)])) v105 v106 (decide ((v107.length : Int) > 0)) ((v100.take v97.toNat).drop ((IntKind.i64.wrap (v92 + v96)).toNat)) ([] : List D1) X1
      else
      none
      else
      none
      else
      none
      else
      none))
   else
    none
  else
   none
noncomputable def f78_2_j15 {R : Type} (g_f78_2 : Nat → f78_2_T R) (k : Nat) (v73 v74 : Int) (v75 : ByteArray) (v76 v77 v78 : Int) (v79 : ByteArray) (v80 : Bool) (v81 : List Int) (v82 v83 v84 : Int) (v85 : List D0) (v86 : List D1) (X0 : List D1 → List Int → Int → Int → Int → List D0 → Option R) (X1 : Int → Int → ByteArray → Int → List Int → Int → Int → Int → List D0 → List D1 → Option R) : Option R :=
 bif decide (v82 > 4000) then
  f95_2 k v73 2 v81 v82 v83 v84 v85 (fun v87 v88 v89 v90 v91 =>
   f78_2_j17 g_f78_2 k v73 v74 v75 v76 v77 v78 v79 v80 v87 v88 v89 v90 v91 v86 X0 X1)
 else
  f78_2_j17 g_f78_2 k v73 v74 v75 v76 v77 v78 v79 v80 v81 v82 v83 v84 v85 v86 X0 X1
noncomputable def f78_2_j13 {R : Type} (g_f78_2 : Nat → f78_2_T R) (k : Nat) (v59 v60 : Int) (v61 : ByteArray) (v62 v63 v64 : Int) (v65 : ByteArray) (v66 : Bool) (v67 : List Int) (v68 v69 v70 : Int) (v71 : List D0) (v72 : List D1) (X0 : List D1 → List Int → Int → Int → Int → List D0 → Option R) (X1 : Int → Int → ByteArray → Int → List Int → Int → Int → Int → List D0 → List D1 → Option R) : Option R :=
 bif (!v66) then
  f78_2_j15 g_f78_2 k v59 v60 v61 v62 v63 v64 v65 v66 v67 (IntKind.i64.wrap (v68 + 1)) v69 v70 v71 v72 X0 X1
 else
  f78_2_j15 g_f78_2 k v59 v60 v61 v62 v63 v64 v65 v66 v67 v68 v69 v70 v71 v72 X0 X1
noncomputable def f78_2_j11 {R : Type} (g_f78_2 : Nat → f78_2_T R) (k : Nat) (v40 v41 : Int) (v42 : ByteArray) (v43 v44 v45 : Int) (v46 : ByteArray) (v47 : Bool) (v48 : List Int) (v49 v50 v51 : Int) (v52 : List D0) (v53 : List D1) (X0 : List D1 → List Int → Int → Int → Int → List D0 → Option R) (X1 : Int → Int → ByteArray → Int → List Int → Int → Int → Int → List D0 → List D1 → Option R) : Option R :=
 bif decide (v43 > 8) then
  f95_2 k v40 43 v48 v49 v50 v51 v52 (fun v54 v55 v56 v57 v58 =>
   f78_2_j13 g_f78_2 k v40 v41 v42 v43 v44 v45 v46 v47 v54 v55 v56 v57 v58 v53 X0 X1)
 else
  f78_2_j13 g_f78_2 k v40 v41 v42 v43 v44 v45 v46 v47 v48 v49 v50 v51 v52 v53 X0 X1
noncomputable def f78_2_j3 {R : Type} (g_f78_2 : Nat → f78_2_T R) (k : Nat) (v11 v12 : Int) (v13 : ByteArray) (v14 : Int) (v15 : List Int) (v16 v17 v18 : Int) (v19 : List D0) (v20 : List D1) (X0 : List D1 → List Int → Int → Int → Int → List D0 → Option R) (X1 : Int → Int → ByteArray → Int → List Int → Int → Int → Int → List D0 → List D1 → Option R) : Option R :=
 f94_2 k v11 v12 v14 v15 v16 v17 v18 v19 (fun v21 v22 v23 v24 v25 v26 v27 =>
  bif (v25 != 0) then
   X0 v20 v23 v24 v25 v26 v27
  else
   bif upto (IntKind.i64.wrap (v11 + 8)) v23.length then
    bif (decide (0 ≤ (IntKind.i64.wrap (v11 + 4)))) && (decide ((IntKind.i64.wrap (v11 + 4)) ≤ (IntKind.i64.wrap (v11 + 8)))) then
     f55 k ((v23.take ((IntKind.i64.wrap (v11 + 8)).toNat)).drop ((IntKind.i64.wrap (v11 + 4)).toNat)) (fun v28 =>
      bif (!v28) then
      f95_2 k v11 80 v23 v24 v25 v26 v27 (fun v29 v30 v31 v32 v33 =>
      X0 v20 v29 v30 v31 v32 v33)
      else
      bif upto (IntKind.i64.wrap (v11 + 8)) v23.length then
      bif (decide (0 ≤ (IntKind.i64.wrap (v11 + 4)))) && (decide ((IntKind.i64.wrap (v11 + 4)) ≤ (IntKind.i64.wrap (v11 + 8)))) then
      f88 k (strOf ((v23.take ((IntKind.i64.wrap (v11 + 8)).toNat)).drop ((IntKind.i64.wrap (v11 + 4)).toNat))) v13 (fun v34 =>
      bif (!v34) then
      f95_2 k v11 42 v23 v24 v25 v26 v27 (fun v35 v36 v37 v38 v39 =>
      f78_2_j11 g_f78_2 k v11 v12 v13 v14 v21 v22 (strOf ((v23.take ((IntKind.i64.wrap (v11 + 8)).toNat)).drop ((IntKind.i64.wrap (v11 + 4)).toNat))) ((strOf ((v23.take ((IntKind.i64.wrap (v11 + 8)).toNat)).drop ((IntKind.i64.wrap (v11 + 4)).toNat))).toList == (⟨#[102, 114, 101, 101]⟩ : ByteArray).toList) v35 v36 v37 v38 v39 v20 X0 X1)
      else
      f78_2_j11 g_f78_2 k v11 v12 v13 v14 v21 v22 (strOf ((v23.take ((IntKind.i64.wrap (v11 + 8)).toNat)).drop ((IntKind.i64.wrap (v11 + 4)).toNat))) ((strOf ((v23.take ((IntKind.i64.wrap (v11 + 8)).toNat)).drop ((IntKind.i64.wrap (v11 + 4)).toNat))).toList == (⟨#[102, 114, 101, 101]⟩ : ByteArray).toList) v23 v24 v25 v26 v27 v20 X0 X1)
      else
      none
      else
      none)
    else
     none
   else
    none)
noncomputable def f78_2_l2 {R : Type} (g_f78_2 : Nat → f78_2_T R) : Nat → Int → Int → ByteArray → Int → List Int → Int → Int → Int → List D0 → List D1 → (List D1 → List Int → Int → Int → Int → List D0 → Option R) → Option R
  | 0, _, _, _, _, _, _, _, _, _, _, _ => none
  | k + 1, v1, v2, v3, v4, v5, v6, v7, v8, v9, v10, X0 =>
  bif decide (v1 < v2) then
   bif (v7 == 0) then
    f78_2_j3 g_f78_2 k v1 v2 v3 v4 v5 v6 v7 v8 v9 v10 X0 (fun v283 v284 v285 v286 v287 v288 v289 v290 v291 v292 =>
     f78_2_l2 g_f78_2 k v283 v284 v285 v286 v287 v288 v289 v290 v291 v292 X0)
   else
    X0 v10 v5 v6 v7 v8 v9
  else
   X0 v10 v5 v6 v7 v8 v9
noncomputable def f78_2_s {R : Type} (g_f78_2 : Nat → f78_2_T R) (k : Nat) (a0 a1 : Int) (a2 : ByteArray) (a3 : Int) (a4 : List Int) (a5 a6 a7 : Int) (a8 : List D0) (K : List Int → Int → Int → Int → List D1 → List D0 → Option R) : Option R :=
 f78_2_l2 g_f78_2 k a0 a1 a2 a3 a4 a5 a6 a7 a8 ([] : List D1) (fun v293 v294 v295 v296 v297 v298 =>
  K v294 v295 v296 v297 v293 v298)
noncomputable def f78_2_d {R : Type} (g : f78_2_T R) (e : Dr D R) : Dr D R := door [.ptr 0 0, .int .i64, .int .i64, .str, .int .i64] [.box [.list (.int .u8), .own 1, .int .i64, .int .i64, .int .i64], .row (.named 0) true] (fun (x : (Unit × Int × Int × ByteArray × Int × Unit)) (y : ((List Int × Unit × Int × Int × Int × Unit) × List D0 × Unit)) K => g x.2.1 x.2.2.1 x.2.2.2.1 x.2.2.2.2.1 y.1.1 y.1.2.2.1 y.1.2.2.2.1 y.1.2.2.2.2.1 y.2.1 (fun z0 z1 z2 z3 z4 z5 => K ⟨.own 2, [some (.box [.list (.int .u8) z0, .own 3, .int .i64 z1, .int .i64 z2, .int .i64 z3]), none, some (.row (.named 1) z4 true), some (.row (.named 0) z5 true)]⟩)) e
noncomputable def f78_2_o {R : Type} (g_f78_2 : Nat → f78_2_T R) (k : Nat) : Orc D R := (orcAdd 78 (f78_2_d (g_f78_2 k) noDr) (orcAdd 94 (f94_2_d (f94_2 k) noDr) (orcAdd 95 (f95_2_d (f95_2 k) noDr) (orcAdd 88 (f88_d (f88 k) noDr) (orcAdd 60 (f60_d (f60 k) noDr) (orcAdd 55 (f55_d (f55 k) noDr) (orcAdd 56 (f56_d (f56 k) noDr) noOrc)))))))
theorem f78_2_o_ok {R : Type} (g_f78_2 : Nat → f78_2_T R) (h_f78_2 : ∀ (k : Nat) (e : Dr D R), FnOk Tryd.prog cx 78 e → FnOk Tryd.prog cx 78 (f78_2_d (g_f78_2 k) e)) (k : Nat) : OrcOk Tryd.prog cx (f78_2_o (R := R) g_f78_2 k) := (OrcOk.add (h_f78_2 k _ FnOk.no) (OrcOk.add (f94_2_ok k FnOk.no) (OrcOk.add (f95_2_ok k FnOk.no) (OrcOk.add (f88_ok k FnOk.no) (OrcOk.add (f60_ok k FnOk.no) (OrcOk.add (f55_ok k FnOk.no) (OrcOk.add (f56_ok k FnOk.no) OrcOk.no)))))))
noncomputable def f78_2_b : Code := bodyOf Tryd.f78
noncomputable def f78_2_j23_a : LAnn := ⟨⟨[(.cell 0 1, .own 137439047680 (.named 0)), (.cell 1245456 1, .own 137439047681 (.int .u8)), (.cell 1245456 2, .own 137439047682 (.named 1)), (.tmp 11, .own 137439047683 (.named 1))], [0, 2, 3, 4, 11, 13, 15, 16], [0, 137439047680, 137439047683, 1245456, 137439047681, 137439047682], []⟩, exOfJ (some ⟨[(.tmp 11, .own 137439048704 (.named 1)), (.cell 0 1, .own 137439048705 (.named 0))], [0, 1, 2, 3, 4, 11], [0, 137439048705, 137439048704], []⟩) (none) []⟩
noncomputable def f78_2_j17_a : LAnn := ⟨⟨[(.tmp 11, .own 137439023104 (.named 1)), (.cell 0 1, .own 137439023105 (.named 0)), (.cell 1 0, .drop)], [0, 1, 2, 3, 4, 11, 12, 13, 14, 15], [0, 137439023105, 137439023104], []⟩, exOfJ (some ⟨[(.cell 0 1, .own 137439025152 (.named 0))], [0, 1, 2, 3, 4, 11], [0, 137439025152, 137439048704], []⟩) (none) [(0, ⟨[(.tmp 11, .own 137439024128 (.named 1)), (.cell 0 1, .own 137439024129 (.named 0)), (.cell 1 0, .drop)], [11], [137439024128, 0, 137439024129], []⟩)]⟩
noncomputable def f78_2_j15_a : LAnn := ⟨⟨[(.tmp 11, .own 137439014912 (.named 1)), (.cell 0 1, .own 137439014913 (.named 0)), (.cell 1 0, .drop)], [0, 1, 2, 3, 4, 11, 12, 13, 14, 15], [0, 137439014913, 137439014912], []⟩, exOfJ (some ⟨[], [0, 1, 2, 3, 4, 11], [0, 137439025152, 137439048704], []⟩) (none) [(0, ⟨[(.tmp 11, .own 137439015936 (.named 1)), (.cell 0 1, .own 137439015937 (.named 0)), (.cell 1 0, .drop)], [11], [137439015936, 0, 137439015937], []⟩)]⟩
noncomputable def f78_2_j13_a : LAnn := ⟨⟨[(.tmp 11, .own 137439006720 (.named 1)), (.cell 0 1, .own 137439006721 (.named 0)), (.cell 1 0, .drop)], [0, 1, 2, 3, 4, 11, 12, 13, 14, 15], [0, 137439006721, 137439006720], []⟩, exOfJ (some ⟨[], [0, 1, 2, 3, 4, 11], [0, 137439025152, 137439048704], []⟩) (none) [(0, ⟨[(.tmp 11, .own 137439007744 (.named 1)), (.cell 0 1, .own 137439007745 (.named 0)), (.cell 1 0, .drop)], [11], [137439007744, 0, 137439007745], []⟩)]⟩
noncomputable def f78_2_j11_a : LAnn := ⟨⟨[(.tmp 11, .own 137438998528 (.named 1)), (.cell 0 1, .own 137438998529 (.named 0)), (.cell 1 0, .drop)], [0, 1, 2, 3, 4, 11, 12, 13, 14, 15], [0, 137438998529, 137438998528], []⟩, exOfJ (some ⟨[], [0, 1, 2, 3, 4, 11], [0, 137439025152, 137439048704], []⟩) (none) [(0, ⟨[(.tmp 11, .own 137438999552 (.named 1)), (.cell 0 1, .own 137438999553 (.named 0)), (.cell 1 0, .drop)], [11], [137438999552, 0, 137438999553], []⟩)]⟩
noncomputable def f78_2_j3_a : LAnn := ⟨⟨[(.tmp 11, .own 137438965760 (.named 1)), (.cell 0 1, .own 137438965761 (.named 0)), (.cell 1 0, .drop)], [0, 1, 2, 3, 4, 11], [0, 137438965761, 137438965760], []⟩, exOfJ (some ⟨[], [0, 1, 2, 3, 4, 11], [0, 137439025152, 137439048704], []⟩) (none) [(0, ⟨[(.tmp 11, .own 137438966784 (.named 1)), (.cell 0 1, .own 137438966785 (.named 0)), (.cell 1 0, .drop)], [11], [137438966784, 0, 137438966785], []⟩)]⟩
noncomputable def f78_2_l2_a : LAnn := ⟨⟨[(.tmp 11, .own 68719484928 (.named 1)), (.cell 0 1, .own 68719484929 (.named 0)), (.cell 1 0, .drop)], [0, 1, 2, 3, 4, 11], [0, 68719484929, 68719484928], []⟩, exOf (none) [(0, ⟨[(.tmp 11, .own 68719485952 (.named 1)), (.cell 0 1, .own 68719485953 (.named 0)), (.cell 1 0, .drop)], [11], [68719485952, 0, 68719485953], []⟩)]⟩
noncomputable def f78_2_ann : Nat → Option LAnn := fun key => bif Nat.beq key 2 then some f78_2_l2_a else bif Nat.beq key 1000003 then some f78_2_j3_a else bif Nat.beq key 1000011 then some f78_2_j11_a else bif Nat.beq key 1000013 then some f78_2_j13_a else bif Nat.beq key 1000015 then some f78_2_j15_a else bif Nat.beq key 1000017 then some f78_2_j17_a else bif Nat.beq key 1000023 then some f78_2_j23_a else none
noncomputable def f78_2_j23_b : Code := joinAt f78_2_ann f78_2_b 5
noncomputable def f78_2_j23_g {R : Type} (g_f78_2 : Nat → f78_2_T R) (k : Nat) (x : (Unit × Int × ByteArray × Int × Unit × Int × Bool × Unit × Unit)) (y : ((List Int × Unit × Int × Int × Int × Unit) × List D0 × List D1 × (Int × Unit × Unit × Bool × Unit) × List Int × List D1 × Unit)) (K : KX R) : Option R := f78_2_j23 g_f78_2 k x.2.1 x.2.2.1 x.2.2.2.1 x.2.2.2.2.2.1 x.2.2.2.2.2.2.1 y.1.1 y.1.2.2.1 y.1.2.2.2.1 y.1.2.2.2.2.1 y.2.1 y.2.2.1 y.2.2.2.1.1 y.2.2.2.1.2.2.2.1 y.2.2.2.2.1 y.2.2.2.2.2.1 (fun z0 z1 z2 z3 z4 z5 z6 z7 z8 z9 => K (.normal) [.ptr 0 0, .int .i64 z0, .int .i64 z1, .str z2, .int .i64 z3, .own 137439048704] [some (.box [.list (.int .u8) z4, .own 137439048705, .int .i64 z5, .int .i64 z6, .int .i64 z7]), some (.row (.named 0) z8 true), some (.row (.named 1) z9 true)])
noncomputable def f78_2_j23_d {R : Type} (g_f78_2 : Nat → f78_2_T R) (k : Nat) : Lr D R := ldoor [.ptr 0 0, .int .i64, .str, .int .i64, .own 137439047683, .int .i64, .bool, .ptr 1245456 0] [some (.box [.list (.int .u8), .own 137439047680, .int .i64, .int .i64, .int .i64]), some (.row (.named 0) true), some (.row (.named 1) true), some (.box [.int .i64, .own 137439047681, .own 137439047682, .bool]), some (.row (.int .u8) true), some (.row (.named 1) true)] (f78_2_j23_g g_f78_2 k)
noncomputable def f78_2_j23_r {R : Type} (_g_f78_2 : Nat → f78_2_T R) (_k : Nat) : Lrc D R := noLrc
theorem f78_2_j23_d_ok {R : Type} (g_f78_2 : Nat → f78_2_T R) (h_f78_2 : ∀ (k : Nat) (e : Dr D R), FnOk Tryd.prog cx 78 e → FnOk Tryd.prog cx 78 (f78_2_d (g_f78_2 k) e)) (k : Nat) : JoinOk Tryd.prog cx 166 2 f78_2_ann (f78_2_j23_d (R := R) g_f78_2 k) f78_2_j23_b :=
  join_ok (keep := kp) (lrc := f78_2_j23_r (R := R) g_f78_2 k) cxOk mixed (f78_2_o_ok g_f78_2 h_f78_2 k) (show f78_2_ann (Am.keyOf f78_2_j23_b + 1000000) = some f78_2_j23_a by kernel_rfl) (L := []) (by kernel_rfl) trivial (J := []) (by kernel_rfl) trivial (LrcNat.no) (fun _x _y _K => by kernel_rfl)
noncomputable def f78_2_j17_b : Code := joinAt f78_2_ann f78_2_b 4
noncomputable def f78_2_j17_g {R : Type} (g_f78_2 : Nat → f78_2_T R) (k : Nat) (x : (Unit × Int × Int × ByteArray × Int × Unit × Int × Int × ByteArray × Bool × Unit)) (y : ((List Int × Unit × Int × Int × Int × Unit) × List D0 × List D1 × Unit)) (K : KX R) : Option R := f78_2_j17 g_f78_2 k x.2.1 x.2.2.1 x.2.2.2.1 x.2.2.2.2.1 x.2.2.2.2.2.2.1 x.2.2.2.2.2.2.2.1 x.2.2.2.2.2.2.2.2.1 x.2.2.2.2.2.2.2.2.2.1 y.1.1 y.1.2.2.1 y.1.2.2.2.1 y.1.2.2.2.2.1 y.2.1 y.2.2.1 (fun z0 z1 z2 z3 z4 z5 => K (.exit 0) [.own 137439024128] [some (.row (.named 1) z0 true), some (.box [.list (.int .u8) z1, .own 137439024129, .int .i64 z2, .int .i64 z3, .int .i64 z4]), some (.row (.named 0) z5 true)]) (fun z0 z1 z2 z3 z4 z5 z6 z7 z8 z9 => K (.normal) [.ptr 0 0, .int .i64 z0, .int .i64 z1, .str z2, .int .i64 z3, .own 137439048704] [some (.box [.list (.int .u8) z4, .own 137439025152, .int .i64 z5, .int .i64 z6, .int .i64 z7]), some (.row (.named 0) z8 true), some (.row (.named 1) z9 true)])
noncomputable def f78_2_j17_d {R : Type} (g_f78_2 : Nat → f78_2_T R) (k : Nat) : Lr D R := ldoor [.ptr 0 0, .int .i64, .int .i64, .str, .int .i64, .own 137439023104, .int .i64, .int .i64, .str, .bool] [some (.box [.list (.int .u8), .own 137439023105, .int .i64, .int .i64, .int .i64]), some (.row (.named 0) true), some (.row (.named 1) true)] (f78_2_j17_g g_f78_2 k)
noncomputable def f78_2_j17_r {R : Type} (g_f78_2 : Nat → f78_2_T R) (k : Nat) : Lrc D R := (lrcAdd 1000023 (f78_2_j23_d g_f78_2 k) noLrc)
theorem f78_2_j17_d_ok {R : Type} (g_f78_2 : Nat → f78_2_T R) (h_f78_2 : ∀ (k : Nat) (e : Dr D R), FnOk Tryd.prog cx 78 e → FnOk Tryd.prog cx 78 (f78_2_d (g_f78_2 k) e)) (k : Nat) : JoinOk Tryd.prog cx 166 2 f78_2_ann (f78_2_j17_d (R := R) g_f78_2 k) f78_2_j17_b :=
  join_ok (keep := kp) (lrc := f78_2_j17_r (R := R) g_f78_2 k) cxOk mixed (f78_2_o_ok g_f78_2 h_f78_2 k) (show f78_2_ann (Am.keyOf f78_2_j17_b + 1000000) = some f78_2_j17_a by kernel_rfl) (L := []) (by kernel_rfl) trivial (J := [f78_2_j23_b]) (by kernel_rfl) (⟨(f78_2_j23_d_ok g_f78_2 h_f78_2 k).use (by kernel_rfl), trivial⟩) ((LrcNat.add (f78_2_j23_d_ok g_f78_2 h_f78_2 k).2 LrcNat.no)) (fun _x _y _K => by kernel_rfl)
noncomputable def f78_2_j15_b : Code := joinAt f78_2_ann f78_2_b 3
noncomputable def f78_2_j15_g {R : Type} (g_f78_2 : Nat → f78_2_T R) (k : Nat) (x : (Unit × Int × Int × ByteArray × Int × Unit × Int × Int × ByteArray × Bool × Unit)) (y : ((List Int × Unit × Int × Int × Int × Unit) × List D0 × List D1 × Unit)) (K : KX R) : Option R := f78_2_j15 g_f78_2 k x.2.1 x.2.2.1 x.2.2.2.1 x.2.2.2.2.1 x.2.2.2.2.2.2.1 x.2.2.2.2.2.2.2.1 x.2.2.2.2.2.2.2.2.1 x.2.2.2.2.2.2.2.2.2.1 y.1.1 y.1.2.2.1 y.1.2.2.2.1 y.1.2.2.2.2.1 y.2.1 y.2.2.1 (fun z0 z1 z2 z3 z4 z5 => K (.exit 0) [.own 137439015936] [some (.row (.named 1) z0 true), some (.box [.list (.int .u8) z1, .own 137439015937, .int .i64 z2, .int .i64 z3, .int .i64 z4]), some (.row (.named 0) z5 true)]) (fun z0 z1 z2 z3 z4 z5 z6 z7 z8 z9 => K (.normal) [.ptr 0 0, .int .i64 z0, .int .i64 z1, .str z2, .int .i64 z3, .own 137439048704] [some (.box [.list (.int .u8) z4, .own 137439025152, .int .i64 z5, .int .i64 z6, .int .i64 z7]), some (.row (.named 0) z8 true), some (.row (.named 1) z9 true)])
noncomputable def f78_2_j15_d {R : Type} (g_f78_2 : Nat → f78_2_T R) (k : Nat) : Lr D R := ldoor [.ptr 0 0, .int .i64, .int .i64, .str, .int .i64, .own 137439014912, .int .i64, .int .i64, .str, .bool] [some (.box [.list (.int .u8), .own 137439014913, .int .i64, .int .i64, .int .i64]), some (.row (.named 0) true), some (.row (.named 1) true)] (f78_2_j15_g g_f78_2 k)
noncomputable def f78_2_j15_r {R : Type} (g_f78_2 : Nat → f78_2_T R) (k : Nat) : Lrc D R := (lrcAdd 1000023 (f78_2_j23_d g_f78_2 k) (lrcAdd 1000017 (f78_2_j17_d g_f78_2 k) noLrc))
theorem f78_2_j15_d_ok {R : Type} (g_f78_2 : Nat → f78_2_T R) (h_f78_2 : ∀ (k : Nat) (e : Dr D R), FnOk Tryd.prog cx 78 e → FnOk Tryd.prog cx 78 (f78_2_d (g_f78_2 k) e)) (k : Nat) : JoinOk Tryd.prog cx 166 2 f78_2_ann (f78_2_j15_d (R := R) g_f78_2 k) f78_2_j15_b :=
  join_ok (keep := kp) (lrc := f78_2_j15_r (R := R) g_f78_2 k) cxOk mixed (f78_2_o_ok g_f78_2 h_f78_2 k) (show f78_2_ann (Am.keyOf f78_2_j15_b + 1000000) = some f78_2_j15_a by kernel_rfl) (L := []) (by kernel_rfl) trivial (J := [f78_2_j17_b, f78_2_j23_b]) (by kernel_rfl) (⟨(f78_2_j17_d_ok g_f78_2 h_f78_2 k).use (by kernel_rfl), (f78_2_j23_d_ok g_f78_2 h_f78_2 k).use (by kernel_rfl), trivial⟩) ((LrcNat.add (f78_2_j23_d_ok g_f78_2 h_f78_2 k).2 (LrcNat.add (f78_2_j17_d_ok g_f78_2 h_f78_2 k).2 LrcNat.no))) (fun _x _y _K => by kernel_rfl)
noncomputable def f78_2_j13_b : Code := joinAt f78_2_ann f78_2_b 2
noncomputable def f78_2_j13_g {R : Type} (g_f78_2 : Nat → f78_2_T R) (k : Nat) (x : (Unit × Int × Int × ByteArray × Int × Unit × Int × Int × ByteArray × Bool × Unit)) (y : ((List Int × Unit × Int × Int × Int × Unit) × List D0 × List D1 × Unit)) (K : KX R) : Option R := f78_2_j13 g_f78_2 k x.2.1 x.2.2.1 x.2.2.2.1 x.2.2.2.2.1 x.2.2.2.2.2.2.1 x.2.2.2.2.2.2.2.1 x.2.2.2.2.2.2.2.2.1 x.2.2.2.2.2.2.2.2.2.1 y.1.1 y.1.2.2.1 y.1.2.2.2.1 y.1.2.2.2.2.1 y.2.1 y.2.2.1 (fun z0 z1 z2 z3 z4 z5 => K (.exit 0) [.own 137439007744] [some (.row (.named 1) z0 true), some (.box [.list (.int .u8) z1, .own 137439007745, .int .i64 z2, .int .i64 z3, .int .i64 z4]), some (.row (.named 0) z5 true)]) (fun z0 z1 z2 z3 z4 z5 z6 z7 z8 z9 => K (.normal) [.ptr 0 0, .int .i64 z0, .int .i64 z1, .str z2, .int .i64 z3, .own 137439048704] [some (.box [.list (.int .u8) z4, .own 137439025152, .int .i64 z5, .int .i64 z6, .int .i64 z7]), some (.row (.named 0) z8 true), some (.row (.named 1) z9 true)])
noncomputable def f78_2_j13_d {R : Type} (g_f78_2 : Nat → f78_2_T R) (k : Nat) : Lr D R := ldoor [.ptr 0 0, .int .i64, .int .i64, .str, .int .i64, .own 137439006720, .int .i64, .int .i64, .str, .bool] [some (.box [.list (.int .u8), .own 137439006721, .int .i64, .int .i64, .int .i64]), some (.row (.named 0) true), some (.row (.named 1) true)] (f78_2_j13_g g_f78_2 k)
noncomputable def f78_2_j13_r {R : Type} (g_f78_2 : Nat → f78_2_T R) (k : Nat) : Lrc D R := (lrcAdd 1000023 (f78_2_j23_d g_f78_2 k) (lrcAdd 1000017 (f78_2_j17_d g_f78_2 k) (lrcAdd 1000015 (f78_2_j15_d g_f78_2 k) noLrc)))
theorem f78_2_j13_d_ok {R : Type} (g_f78_2 : Nat → f78_2_T R) (h_f78_2 : ∀ (k : Nat) (e : Dr D R), FnOk Tryd.prog cx 78 e → FnOk Tryd.prog cx 78 (f78_2_d (g_f78_2 k) e)) (k : Nat) : JoinOk Tryd.prog cx 166 2 f78_2_ann (f78_2_j13_d (R := R) g_f78_2 k) f78_2_j13_b :=
  join_ok (keep := kp) (lrc := f78_2_j13_r (R := R) g_f78_2 k) cxOk mixed (f78_2_o_ok g_f78_2 h_f78_2 k) (show f78_2_ann (Am.keyOf f78_2_j13_b + 1000000) = some f78_2_j13_a by kernel_rfl) (L := []) (by kernel_rfl) trivial (J := [f78_2_j15_b, f78_2_j17_b, f78_2_j23_b]) (by kernel_rfl) (⟨(f78_2_j15_d_ok g_f78_2 h_f78_2 k).use (by kernel_rfl), (f78_2_j17_d_ok g_f78_2 h_f78_2 k).use (by kernel_rfl), (f78_2_j23_d_ok g_f78_2 h_f78_2 k).use (by kernel_rfl), trivial⟩) ((LrcNat.add (f78_2_j23_d_ok g_f78_2 h_f78_2 k).2 (LrcNat.add (f78_2_j17_d_ok g_f78_2 h_f78_2 k).2 (LrcNat.add (f78_2_j15_d_ok g_f78_2 h_f78_2 k).2 LrcNat.no)))) (fun _x _y _K => by kernel_rfl)
noncomputable def f78_2_j11_b : Code := joinAt f78_2_ann f78_2_b 1
noncomputable def f78_2_j11_g {R : Type} (g_f78_2 : Nat → f78_2_T R) (k : Nat) (x : (Unit × Int × Int × ByteArray × Int × Unit × Int × Int × ByteArray × Bool × Unit)) (y : ((List Int × Unit × Int × Int × Int × Unit) × List D0 × List D1 × Unit)) (K : KX R) : Option R := f78_2_j11 g_f78_2 k x.2.1 x.2.2.1 x.2.2.2.1 x.2.2.2.2.1 x.2.2.2.2.2.2.1 x.2.2.2.2.2.2.2.1 x.2.2.2.2.2.2.2.2.1 x.2.2.2.2.2.2.2.2.2.1 y.1.1 y.1.2.2.1 y.1.2.2.2.1 y.1.2.2.2.2.1 y.2.1 y.2.2.1 (fun z0 z1 z2 z3 z4 z5 => K (.exit 0) [.own 137438999552] [some (.row (.named 1) z0 true), some (.box [.list (.int .u8) z1, .own 137438999553, .int .i64 z2, .int .i64 z3, .int .i64 z4]), some (.row (.named 0) z5 true)]) (fun z0 z1 z2 z3 z4 z5 z6 z7 z8 z9 => K (.normal) [.ptr 0 0, .int .i64 z0, .int .i64 z1, .str z2, .int .i64 z3, .own 137439048704] [some (.box [.list (.int .u8) z4, .own 137439025152, .int .i64 z5, .int .i64 z6, .int .i64 z7]), some (.row (.named 0) z8 true), some (.row (.named 1) z9 true)])
noncomputable def f78_2_j11_d {R : Type} (g_f78_2 : Nat → f78_2_T R) (k : Nat) : Lr D R := ldoor [.ptr 0 0, .int .i64, .int .i64, .str, .int .i64, .own 137438998528, .int .i64, .int .i64, .str, .bool] [some (.box [.list (.int .u8), .own 137438998529, .int .i64, .int .i64, .int .i64]), some (.row (.named 0) true), some (.row (.named 1) true)] (f78_2_j11_g g_f78_2 k)
noncomputable def f78_2_j11_r {R : Type} (g_f78_2 : Nat → f78_2_T R) (k : Nat) : Lrc D R := (lrcAdd 1000023 (f78_2_j23_d g_f78_2 k) (lrcAdd 1000017 (f78_2_j17_d g_f78_2 k) (lrcAdd 1000015 (f78_2_j15_d g_f78_2 k) (lrcAdd 1000013 (f78_2_j13_d g_f78_2 k) noLrc))))
theorem f78_2_j11_d_ok {R : Type} (g_f78_2 : Nat → f78_2_T R) (h_f78_2 : ∀ (k : Nat) (e : Dr D R), FnOk Tryd.prog cx 78 e → FnOk Tryd.prog cx 78 (f78_2_d (g_f78_2 k) e)) (k : Nat) : JoinOk Tryd.prog cx 166 2 f78_2_ann (f78_2_j11_d (R := R) g_f78_2 k) f78_2_j11_b :=
  join_ok (keep := kp) (lrc := f78_2_j11_r (R := R) g_f78_2 k) cxOk mixed (f78_2_o_ok g_f78_2 h_f78_2 k) (show f78_2_ann (Am.keyOf f78_2_j11_b + 1000000) = some f78_2_j11_a by kernel_rfl) (L := []) (by kernel_rfl) trivial (J := [f78_2_j13_b, f78_2_j15_b, f78_2_j17_b, f78_2_j23_b]) (by kernel_rfl) (⟨(f78_2_j13_d_ok g_f78_2 h_f78_2 k).use (by kernel_rfl), (f78_2_j15_d_ok g_f78_2 h_f78_2 k).use (by kernel_rfl), (f78_2_j17_d_ok g_f78_2 h_f78_2 k).use (by kernel_rfl), (f78_2_j23_d_ok g_f78_2 h_f78_2 k).use (by kernel_rfl), trivial⟩) ((LrcNat.add (f78_2_j23_d_ok g_f78_2 h_f78_2 k).2 (LrcNat.add (f78_2_j17_d_ok g_f78_2 h_f78_2 k).2 (LrcNat.add (f78_2_j15_d_ok g_f78_2 h_f78_2 k).2 (LrcNat.add (f78_2_j13_d_ok g_f78_2 h_f78_2 k).2 LrcNat.no))))) (fun _x _y _K => by kernel_rfl)
noncomputable def f78_2_j3_b : Code := joinAt f78_2_ann f78_2_b 0
noncomputable def f78_2_j3_g {R : Type} (g_f78_2 : Nat → f78_2_T R) (k : Nat) (x : (Unit × Int × Int × ByteArray × Int × Unit × Unit)) (y : ((List Int × Unit × Int × Int × Int × Unit) × List D0 × List D1 × Unit)) (K : KX R) : Option R := f78_2_j3 g_f78_2 k x.2.1 x.2.2.1 x.2.2.2.1 x.2.2.2.2.1 y.1.1 y.1.2.2.1 y.1.2.2.2.1 y.1.2.2.2.2.1 y.2.1 y.2.2.1 (fun z0 z1 z2 z3 z4 z5 => K (.exit 0) [.own 137438966784] [some (.row (.named 1) z0 true), some (.box [.list (.int .u8) z1, .own 137438966785, .int .i64 z2, .int .i64 z3, .int .i64 z4]), some (.row (.named 0) z5 true)]) (fun z0 z1 z2 z3 z4 z5 z6 z7 z8 z9 => K (.normal) [.ptr 0 0, .int .i64 z0, .int .i64 z1, .str z2, .int .i64 z3, .own 137439048704] [some (.box [.list (.int .u8) z4, .own 137439025152, .int .i64 z5, .int .i64 z6, .int .i64 z7]), some (.row (.named 0) z8 true), some (.row (.named 1) z9 true)])
noncomputable def f78_2_j3_d {R : Type} (g_f78_2 : Nat → f78_2_T R) (k : Nat) : Lr D R := ldoor [.ptr 0 0, .int .i64, .int .i64, .str, .int .i64, .own 137438965760] [some (.box [.list (.int .u8), .own 137438965761, .int .i64, .int .i64, .int .i64]), some (.row (.named 0) true), some (.row (.named 1) true)] (f78_2_j3_g g_f78_2 k)
noncomputable def f78_2_j3_r {R : Type} (g_f78_2 : Nat → f78_2_T R) (k : Nat) : Lrc D R := (lrcAdd 1000023 (f78_2_j23_d g_f78_2 k) (lrcAdd 1000017 (f78_2_j17_d g_f78_2 k) (lrcAdd 1000015 (f78_2_j15_d g_f78_2 k) (lrcAdd 1000013 (f78_2_j13_d g_f78_2 k) (lrcAdd 1000011 (f78_2_j11_d g_f78_2 k) noLrc)))))
theorem f78_2_j3_d_ok {R : Type} (g_f78_2 : Nat → f78_2_T R) (h_f78_2 : ∀ (k : Nat) (e : Dr D R), FnOk Tryd.prog cx 78 e → FnOk Tryd.prog cx 78 (f78_2_d (g_f78_2 k) e)) (k : Nat) : JoinOk Tryd.prog cx 166 2 f78_2_ann (f78_2_j3_d (R := R) g_f78_2 k) f78_2_j3_b :=
  join_ok (keep := kp) (lrc := f78_2_j3_r (R := R) g_f78_2 k) cxOk mixed (f78_2_o_ok g_f78_2 h_f78_2 k) (show f78_2_ann (Am.keyOf f78_2_j3_b + 1000000) = some f78_2_j3_a by kernel_rfl) (L := []) (by kernel_rfl) trivial (J := [f78_2_j11_b, f78_2_j13_b, f78_2_j15_b, f78_2_j17_b, f78_2_j23_b]) (by kernel_rfl) (⟨(f78_2_j11_d_ok g_f78_2 h_f78_2 k).use (by kernel_rfl), (f78_2_j13_d_ok g_f78_2 h_f78_2 k).use (by kernel_rfl), (f78_2_j15_d_ok g_f78_2 h_f78_2 k).use (by kernel_rfl), (f78_2_j17_d_ok g_f78_2 h_f78_2 k).use (by kernel_rfl), (f78_2_j23_d_ok g_f78_2 h_f78_2 k).use (by kernel_rfl), trivial⟩) ((LrcNat.add (f78_2_j23_d_ok g_f78_2 h_f78_2 k).2 (LrcNat.add (f78_2_j17_d_ok g_f78_2 h_f78_2 k).2 (LrcNat.add (f78_2_j15_d_ok g_f78_2 h_f78_2 k).2 (LrcNat.add (f78_2_j13_d_ok g_f78_2 h_f78_2 k).2 (LrcNat.add (f78_2_j11_d_ok g_f78_2 h_f78_2 k).2 LrcNat.no)))))) (fun _x _y _K => by kernel_rfl)
noncomputable def f78_2_l2_b : Code := loopAt f78_2_b 0
noncomputable def f78_2_l2_g {R : Type} (g_f78_2 : Nat → f78_2_T R) (k : Nat) (x : (Unit × Int × Int × ByteArray × Int × Unit × Unit)) (y : ((List Int × Unit × Int × Int × Int × Unit) × List D0 × List D1 × Unit)) (K : KX R) : Option R := f78_2_l2 g_f78_2 k x.2.1 x.2.2.1 x.2.2.2.1 x.2.2.2.2.1 y.1.1 y.1.2.2.1 y.1.2.2.2.1 y.1.2.2.2.2.1 y.2.1 y.2.2.1 (fun z0 z1 z2 z3 z4 z5 => K (.exit 0) [.own 68719485952] [some (.row (.named 1) z0 true), some (.box [.list (.int .u8) z1, .own 68719485953, .int .i64 z2, .int .i64 z3, .int .i64 z4]), some (.row (.named 0) z5 true)])
noncomputable def f78_2_l2_d {R : Type} (g_f78_2 : Nat → f78_2_T R) (k : Nat) : Lr D R := ldoor [.ptr 0 0, .int .i64, .int .i64, .str, .int .i64, .own 68719484928] [some (.box [.list (.int .u8), .own 68719484929, .int .i64, .int .i64, .int .i64]), some (.row (.named 0) true), some (.row (.named 1) true)] (f78_2_l2_g g_f78_2 k)
noncomputable def f78_2_l2_r {R : Type} (g_f78_2 : Nat → f78_2_T R) (k : Nat) : Lrc D R := (lrcAdd 1000023 (f78_2_j23_d g_f78_2 k) (lrcAdd 1000017 (f78_2_j17_d g_f78_2 k) (lrcAdd 1000015 (f78_2_j15_d g_f78_2 k) (lrcAdd 1000013 (f78_2_j13_d g_f78_2 k) (lrcAdd 1000011 (f78_2_j11_d g_f78_2 k) (lrcAdd 1000003 (f78_2_j3_d g_f78_2 k) noLrc))))))
theorem f78_2_l2_d_ok {R : Type} (g_f78_2 : Nat → f78_2_T R) (h_f78_2 : ∀ (k : Nat) (e : Dr D R), FnOk Tryd.prog cx 78 e → FnOk Tryd.prog cx 78 (f78_2_d (g_f78_2 k) e)) : ∀ k, LoopOk Tryd.prog cx 166 2 f78_2_ann (f78_2_l2_d (R := R) g_f78_2 k) f78_2_l2_b :=
  loop_ok (keep := kp) (lrc := f78_2_l2_r (R := R) g_f78_2) cxOk mixed (f78_2_o_ok g_f78_2 h_f78_2) (show f78_2_ann (Am.keyOf f78_2_l2_b) = some f78_2_l2_a by kernel_rfl) (L := []) (by kernel_rfl) (fun _k => trivial) (J := [f78_2_j3_b, f78_2_j11_b, f78_2_j13_b, f78_2_j15_b, f78_2_j17_b, f78_2_j23_b]) (by kernel_rfl) (fun k => ⟨(f78_2_j3_d_ok g_f78_2 h_f78_2 k).use (by kernel_rfl), (f78_2_j11_d_ok g_f78_2 h_f78_2 k).use (by kernel_rfl), (f78_2_j13_d_ok g_f78_2 h_f78_2 k).use (by kernel_rfl), (f78_2_j15_d_ok g_f78_2 h_f78_2 k).use (by kernel_rfl), (f78_2_j17_d_ok g_f78_2 h_f78_2 k).use (by kernel_rfl), (f78_2_j23_d_ok g_f78_2 h_f78_2 k).use (by kernel_rfl), trivial⟩) (fun k => (LrcNat.add (f78_2_j23_d_ok g_f78_2 h_f78_2 k).2 (LrcNat.add (f78_2_j17_d_ok g_f78_2 h_f78_2 k).2 (LrcNat.add (f78_2_j15_d_ok g_f78_2 h_f78_2 k).2 (LrcNat.add (f78_2_j13_d_ok g_f78_2 h_f78_2 k).2 (LrcNat.add (f78_2_j11_d_ok g_f78_2 h_f78_2 k).2 (LrcNat.add (f78_2_j3_d_ok g_f78_2 h_f78_2 k).2 LrcNat.no))))))) (fun _x _y _K => by kernel_rfl) (fun _k _x _y _K => by kernel_rfl)
noncomputable def f78_2_r {R : Type} (g_f78_2 : Nat → f78_2_T R) (k : Nat) : Lrc D R := (lrcAdd 1000023 (f78_2_j23_d g_f78_2 k) (lrcAdd 1000017 (f78_2_j17_d g_f78_2 k) (lrcAdd 1000015 (f78_2_j15_d g_f78_2 k) (lrcAdd 1000013 (f78_2_j13_d g_f78_2 k) (lrcAdd 1000011 (f78_2_j11_d g_f78_2 k) (lrcAdd 1000003 (f78_2_j3_d g_f78_2 k) (lrcAdd 2 (f78_2_l2_d g_f78_2 k) noLrc)))))))
noncomputable def rec_f78_2 {R : Type} : Nat → (f78_2_T R)
  | 0 => (fun _ _ _ _ _ _ _ _ _ _ => none)
  | k + 1 => (f78_2_s (fun _ => (rec_f78_2 (R := R) k)) k)
theorem rec_f78_2_succ {R : Type} (k : Nat) : rec_f78_2 (R := R) (k + 1) = (f78_2_s (fun _ => (rec_f78_2 (R := R) k)) k) := rfl
theorem rec_f78_2_ok {R : Type} : ∀ k, (∀ e : Dr D R, FnOk Tryd.prog cx 78 e → FnOk Tryd.prog cx 78 (f78_2_d (rec_f78_2 (R := R) k) e))
  | 0 => fun e he => he.door0 fun x y _K => rfl
  | k + 1 => by
    rw [rec_f78_2_succ]
    exact fun e he => he.door fun _x _y => body_ok (keep := kp) (ann := f78_2_ann) (lrc := f78_2_r (R := R) (fun _ => (rec_f78_2 (R := R) k)) k) (N := 166) (n0 := 2) (c := []) cxOk mixed (f78_2_o_ok (fun _ => (rec_f78_2 (R := R) k)) (fun _ e he => (rec_f78_2_ok (R := R) k) e he) k) (body := f78_2_b) (by kernel_rfl : Tryd.prog.funcs[78]? = some Tryd.f78) (by kernel_rfl) (by kernel_rfl) (by kernel_rfl) (by kernel_rfl) (of_decide_eq_true (by kernel_rfl)) (L := [f78_2_l2_b]) (by kernel_rfl) (⟨(f78_2_l2_d_ok (fun _ => (rec_f78_2 (R := R) k)) (fun _ e he => (rec_f78_2_ok (R := R) k) e he) k).use (by kernel_rfl), trivial⟩) (J := [f78_2_j3_b, f78_2_j11_b, f78_2_j13_b, f78_2_j15_b, f78_2_j17_b, f78_2_j23_b]) (by kernel_rfl) (⟨(f78_2_j3_d_ok (fun _ => (rec_f78_2 (R := R) k)) (fun _ e he => (rec_f78_2_ok (R := R) k) e he) k).use (by kernel_rfl), (f78_2_j11_d_ok (fun _ => (rec_f78_2 (R := R) k)) (fun _ e he => (rec_f78_2_ok (R := R) k) e he) k).use (by kernel_rfl), (f78_2_j13_d_ok (fun _ => (rec_f78_2 (R := R) k)) (fun _ e he => (rec_f78_2_ok (R := R) k) e he) k).use (by kernel_rfl), (f78_2_j15_d_ok (fun _ => (rec_f78_2 (R := R) k)) (fun _ e he => (rec_f78_2_ok (R := R) k) e he) k).use (by kernel_rfl), (f78_2_j17_d_ok (fun _ => (rec_f78_2 (R := R) k)) (fun _ e he => (rec_f78_2_ok (R := R) k) e he) k).use (by kernel_rfl), (f78_2_j23_d_ok (fun _ => (rec_f78_2 (R := R) k)) (fun _ e he => (rec_f78_2_ok (R := R) k) e he) k).use (by kernel_rfl), trivial⟩) ((LrcNat.add (f78_2_j23_d_ok (fun _ => (rec_f78_2 (R := R) k)) (fun _ e he => (rec_f78_2_ok (R := R) k) e he) k).2 (LrcNat.add (f78_2_j17_d_ok (fun _ => (rec_f78_2 (R := R) k)) (fun _ e he => (rec_f78_2_ok (R := R) k) e he) k).2 (LrcNat.add (f78_2_j15_d_ok (fun _ => (rec_f78_2 (R := R) k)) (fun _ e he => (rec_f78_2_ok (R := R) k) e he) k).2 (LrcNat.add (f78_2_j13_d_ok (fun _ => (rec_f78_2 (R := R) k)) (fun _ e he => (rec_f78_2_ok (R := R) k) e he) k).2 (LrcNat.add (f78_2_j11_d_ok (fun _ => (rec_f78_2 (R := R) k)) (fun _ e he => (rec_f78_2_ok (R := R) k) e he) k).2 (LrcNat.add (f78_2_j3_d_ok (fun _ => (rec_f78_2 (R := R) k)) (fun _ e he => (rec_f78_2_ok (R := R) k) e he) k).2 (LrcNat.add (f78_2_l2_d_ok (fun _ => (rec_f78_2 (R := R) k)) (fun _ e he => (rec_f78_2_ok (R := R) k) e he) k).2 LrcNat.no)))))))) (fun _K => by delta f78_2_s f78_2_o; generalize @f56 R = a0; generalize @f55 R = a1; generalize @f60 R = a2; generalize @f88 R = a3; generalize @f95_2 R = a4; generalize @f94_2 R = a5; revert a0 a1 a2 a3 a4 a5; refine id ?_; intros; kernel_rfl)
noncomputable def f78_2 {R : Type} (k : Nat) (a0 a1 : Int) (a2 : ByteArray) (a3 : Int) (a4 : List Int) (a5 a6 a7 : Int) (a8 : List D0) (K : List Int → Int → Int → Int → List D1 → List D0 → Option R) : Option R := (rec_f78_2 (R := R) k) a0 a1 a2 a3 a4 a5 a6 a7 a8 K
theorem f78_2_ok {R : Type} (k : Nat) {e : Dr D R} (he : FnOk Tryd.prog cx 78 e) : FnOk Tryd.prog cx 78 (f78_2_d (f78_2 k) e) := (rec_f78_2_ok (R := R) k) e he
theorem f78_2_step {R : Type} (k : Nat) (a0 a1 : Int) (a2 : ByteArray) (a3 : Int) (a4 : List Int) (a5 a6 a7 : Int) (a8 : List D0) (K : List Int → Int → Int → Int → List D1 → List D0 → Option R) : f78_2 (k + 1) a0 a1 a2 a3 a4 a5 a6 a7 a8 K = f78_2_s (fun _ => f78_2 (R := R) k) k a0 a1 a2 a3 a4 a5 a6 a7 a8 K := rfl


end Go.Proofs.YtehmahdngjdhpaaDoor

/-! What the functions do, as plain functions; and that they do. -/
namespace Go.Proofs.YtehmahdngjdhpaaDoor
open Go Go.Am
abbrev f78_T (R : Type) : Type := Int → Int → ByteArray → Int → List Int → Int → Int → Int → (List Int → Int → Int → Int → List D1 → List D0 → Option R) → Option R
/-! ## 78: (*diorama/dioramaref08.walker).list -/
noncomputable def f78_j23 {R : Type} (_k : Nat) (v114 : Int) (v115 : ByteArray) (v116 v117 : Int) (v118 : Bool) (v119 : List Int) (v120 v121 v122 : Int) (v123 : List D0) (v124 : List D1) (v125 : Int) (v126 : Bool) (v127 : List Int) (v128 : List D1) (X0 : Int → Int → ByteArray → Int → List Int → Int → Int → Int → List D0 → List D1 → Option R) : Option R :=
 bif (!v118) then
  bif room 64 (v124.length + ([(D1.mk v125 v127 v128 v126)]).length) then
   X0 v117 v114 v115 v116 v119 v120 v121 v122 v123 (v124 ++ ([(D1.mk v125 v127 v128 v126)]))
  else
   none
 else
  X0 v117 v114 v115 v116 v119 v120 v121 v122 v123 v124
noncomputable def f78_j17 {R : Type} (k : Nat) (v92 v93 : Int) (v94 : ByteArray) (v95 v96 v97 : Int) (v98 : ByteArray) (v99 : Bool) (v100 : List Int) (v101 v102 v103 : Int) (v104 : List D0) (v105 : List D1) (X0 : List D1 → List Int → Int → Int → Int → List D0 → Option R) (X1 : Int → Int → ByteArray → Int → List Int → Int → Int → Int → List D0 → List D1 → Option R) : Option R :=
 bif (v102 != 0) then
  X0 v105 v100 v101 v102 v103 v104
 else
  bif upto (IntKind.i64.wrap (v92 + 8)) v100.length then
   bif (decide (0 ≤ (IntKind.i64.wrap (v92 + 4)))) && (decide ((IntKind.i64.wrap (v92 + 4)) ≤ (IntKind.i64.wrap (v92 + 8)))) then
    f56 k ((v100.take ((IntKind.i64.wrap (v92 + 8)).toNat)).drop ((IntKind.i64.wrap (v92 + 4)).toNat)) (fun v106 =>
     f60 k v98 (fun v107 =>
      bif room 40 (v104.length + ([(v106, v92, v96, (IntKind.i64.wrap ((IntKind.i64.wrap (v97 - v92)) - v96)), v95)]).length) then
      bif decide ((v107.length : Int) > 0) then
      f78_2 k (IntKind.i64.wrap (v92 + v96)) v97 v98 (IntKind.i64.wrap (v95 + 1)) v100 v101 v102 v103 (v104 ++ ([(v106, v92, v96, (IntKind.i64.wrap ((IntKind.i64.wrap (v97 - v92)) - v96)), v95)])) (fun v108 v109 v110 v111 v112 v113 =>
      f78_j23 k v93 v94 v95 v97 v99 v108 v109 v110 v111 v113 v105 v106 (decide ((v107.length : Int) > 0)) ([] : List Int) v112 X1)
      else
      bif upto v97 v100.length then
      bif (decide (0 ≤ (IntKind.i64.wrap (v92 + v96)))) && (decide ((IntKind.i64.wrap (v92 + v96)) ≤ v97)) then
      bif room 1 (((v100.take v97.toNat).drop ((IntKind.i64.wrap (v92 + v96)).toNat)).length) then
      f78_j23 k v93 v94 v95 v97 v99 v100 v101 v102 v103 (v104 ++ ([(v106, v92, v96, (IntKind.i64.wrap ((IntKind.i64.wrap (v97 - v92)) - v96)), v95)])) v105 v106 (decide ((v107.length : Int) > 0)) ((v100.take v97.toNat).drop ((IntKind.i64.wrap (v92 + v96)).toNat)) ([] : List D1) X1
      else
      none
      else
      none
      else
      none
      else
      none))
   else
    none
  else
   none
noncomputable def f78_j15 {R : Type} (k : Nat) (v73 v74 : Int) (v75 : ByteArray) (v76 v77 v78 : Int) (v79 : ByteArray) (v80 : Bool) (v81 : List Int) (v82 v83 v84 : Int) (v85 : List D0) (v86 : List D1) (X0 : List D1 → List Int → Int → Int → Int → List D0 → Option R) (X1 : Int → Int → ByteArray → Int → List Int → Int → Int → Int → List D0 → List D1 → Option R) : Option R :=
 bif decide (v82 > 4000) then
  f95_2 k v73 2 v81 v82 v83 v84 v85 (fun v87 v88 v89 v90 v91 =>
   f78_j17 k v73 v74 v75 v76 v77 v78 v79 v80 v87 v88 v89 v90 v91 v86 X0 X1)
 else
  f78_j17 k v73 v74 v75 v76 v77 v78 v79 v80 v81 v82 v83 v84 v85 v86 X0 X1
noncomputable def f78_j13 {R : Type} (k : Nat) (v59 v60 : Int) (v61 : ByteArray) (v62 v63 v64 : Int) (v65 : ByteArray) (v66 : Bool) (v67 : List Int) (v68 v69 v70 : Int) (v71 : List D0) (v72 : List D1) (X0 : List D1 → List Int → Int → Int → Int → List D0 → Option R) (X1 : Int → Int → ByteArray → Int → List Int → Int → Int → Int → List D0 → List D1 → Option R) : Option R :=
 bif (!v66) then
  f78_j15 k v59 v60 v61 v62 v63 v64 v65 v66 v67 (IntKind.i64.wrap (v68 + 1)) v69 v70 v71 v72 X0 X1
 else
  f78_j15 k v59 v60 v61 v62 v63 v64 v65 v66 v67 v68 v69 v70 v71 v72 X0 X1
noncomputable def f78_j11 {R : Type} (k : Nat) (v40 v41 : Int) (v42 : ByteArray) (v43 v44 v45 : Int) (v46 : ByteArray) (v47 : Bool) (v48 : List Int) (v49 v50 v51 : Int) (v52 : List D0) (v53 : List D1) (X0 : List D1 → List Int → Int → Int → Int → List D0 → Option R) (X1 : Int → Int → ByteArray → Int → List Int → Int → Int → Int → List D0 → List D1 → Option R) : Option R :=
 bif decide (v43 > 8) then
  f95_2 k v40 43 v48 v49 v50 v51 v52 (fun v54 v55 v56 v57 v58 =>
   f78_j13 k v40 v41 v42 v43 v44 v45 v46 v47 v54 v55 v56 v57 v58 v53 X0 X1)
 else
  f78_j13 k v40 v41 v42 v43 v44 v45 v46 v47 v48 v49 v50 v51 v52 v53 X0 X1
noncomputable def f78_j3 {R : Type} (k : Nat) (v11 v12 : Int) (v13 : ByteArray) (v14 : Int) (v15 : List Int) (v16 v17 v18 : Int) (v19 : List D0) (v20 : List D1) (X0 : List D1 → List Int → Int → Int → Int → List D0 → Option R) (X1 : Int → Int → ByteArray → Int → List Int → Int → Int → Int → List D0 → List D1 → Option R) : Option R :=
 f94_2 k v11 v12 v14 v15 v16 v17 v18 v19 (fun v21 v22 v23 v24 v25 v26 v27 =>
  bif (v25 != 0) then
   X0 v20 v23 v24 v25 v26 v27
  else
   bif upto (IntKind.i64.wrap (v11 + 8)) v23.length then
    bif (decide (0 ≤ (IntKind.i64.wrap (v11 + 4)))) && (decide ((IntKind.i64.wrap (v11 + 4)) ≤ (IntKind.i64.wrap (v11 + 8)))) then
     f55 k ((v23.take ((IntKind.i64.wrap (v11 + 8)).toNat)).drop ((IntKind.i64.wrap (v11 + 4)).toNat)) (fun v28 =>
      bif (!v28) then
      f95_2 k v11 80 v23 v24 v25 v26 v27 (fun v29 v30 v31 v32 v33 =>
      X0 v20 v29 v30 v31 v32 v33)
      else
      bif upto (IntKind.i64.wrap (v11 + 8)) v23.length then
      bif (decide (0 ≤ (IntKind.i64.wrap (v11 + 4)))) && (decide ((IntKind.i64.wrap (v11 + 4)) ≤ (IntKind.i64.wrap (v11 + 8)))) then
      f88 k (strOf ((v23.take ((IntKind.i64.wrap (v11 + 8)).toNat)).drop ((IntKind.i64.wrap (v11 + 4)).toNat))) v13 (fun v34 =>
      bif (!v34) then
      f95_2 k v11 42 v23 v24 v25 v26 v27 (fun v35 v36 v37 v38 v39 =>
      f78_j11 k v11 v12 v13 v14 v21 v22 (strOf ((v23.take ((IntKind.i64.wrap (v11 + 8)).toNat)).drop ((IntKind.i64.wrap (v11 + 4)).toNat))) ((strOf ((v23.take ((IntKind.i64.wrap (v11 + 8)).toNat)).drop ((IntKind.i64.wrap (v11 + 4)).toNat))).toList == (⟨#[102, 114, 101, 101]⟩ : ByteArray).toList) v35 v36 v37 v38 v39 v20 X0 X1)
      else
      f78_j11 k v11 v12 v13 v14 v21 v22 (strOf ((v23.take ((IntKind.i64.wrap (v11 + 8)).toNat)).drop ((IntKind.i64.wrap (v11 + 4)).toNat))) ((strOf ((v23.take ((IntKind.i64.wrap (v11 + 8)).toNat)).drop ((IntKind.i64.wrap (v11 + 4)).toNat))).toList == (⟨#[102, 114, 101, 101]⟩ : ByteArray).toList) v23 v24 v25 v26 v27 v20 X0 X1)
      else
      none
      else
      none)
    else
     none
   else
    none)
noncomputable def f78_l2 {R : Type} : Nat → Int → Int → ByteArray → Int → List Int → Int → Int → Int → List D0 → List D1 → (List D1 → List Int → Int → Int → Int → List D0 → Option R) → Option R
  | 0, _, _, _, _, _, _, _, _, _, _, _ => none
  | k + 1, v1, v2, v3, v4, v5, v6, v7, v8, v9, v10, X0 =>
  bif decide (v1 < v2) then
   bif (v7 == 0) then
    f78_j3 k v1 v2 v3 v4 v5 v6 v7 v8 v9 v10 X0 (fun v283 v284 v285 v286 v287 v288 v289 v290 v291 v292 =>
     f78_l2 k v283 v284 v285 v286 v287 v288 v289 v290 v291 v292 X0)
   else
    X0 v10 v5 v6 v7 v8 v9
  else
   X0 v10 v5 v6 v7 v8 v9
noncomputable def f78 {R : Type} (k : Nat) (a0 a1 : Int) (a2 : ByteArray) (a3 : Int) (a4 : List Int) (a5 a6 a7 : Int) (K : List Int → Int → Int → Int → List D1 → List D0 → Option R) : Option R :=
 f78_l2 k a0 a1 a2 a3 a4 a5 a6 a7 ([] : List D0) ([] : List D1) (fun v293 v294 v295 v296 v297 v298 =>
  K v294 v295 v296 v297 v293 v298)
noncomputable def f78_d {R : Type} (g : f78_T R) (e : Dr D R) : Dr D R := door [.ptr 0 0, .int .i64, .int .i64, .str, .int .i64] [.box [.list (.int .u8), .nil, .int .i64, .int .i64, .int .i64]] (fun (x : (Unit × Int × Int × ByteArray × Int × Unit)) (y : ((List Int × Unit × Int × Int × Int × Unit) × Unit)) K => g x.2.1 x.2.2.1 x.2.2.2.1 x.2.2.2.2.1 y.1.1 y.1.2.2.1 y.1.2.2.2.1 y.1.2.2.2.2.1 (fun z0 z1 z2 z3 z4 z5 => K ⟨.own 1, [some (.box [.list (.int .u8) z0, .own 2, .int .i64 z1, .int .i64 z2, .int .i64 z3]), some (.row (.named 1) z4 true), some (.row (.named 0) z5 true)]⟩)) e
noncomputable def f78_o {R : Type} (k : Nat) : Orc D R := (orcAdd 78 (f78_2_d (f78_2 k) noDr) (orcAdd 94 (f94_2_d (f94_2 k) noDr) (orcAdd 95 (f95_2_d (f95_2 k) noDr) (orcAdd 88 (f88_d (f88 k) noDr) (orcAdd 60 (f60_d (f60 k) noDr) (orcAdd 55 (f55_d (f55 k) noDr) (orcAdd 56 (f56_d (f56 k) noDr) noOrc)))))))
theorem f78_o_ok {R : Type} (k : Nat) : OrcOk Tryd.prog cx (f78_o (R := R) k) := (OrcOk.add (f78_2_ok k FnOk.no) (OrcOk.add (f94_2_ok k FnOk.no) (OrcOk.add (f95_2_ok k FnOk.no) (OrcOk.add (f88_ok k FnOk.no) (OrcOk.add (f60_ok k FnOk.no) (OrcOk.add (f55_ok k FnOk.no) (OrcOk.add (f56_ok k FnOk.no) OrcOk.no)))))))
noncomputable def f78_b : Code := bodyOf Tryd.f78
noncomputable def f78_j23_a : LAnn := ⟨⟨[(.cell 0 1, .own 137439047680 (.named 0)), (.cell 1245456 1, .own 137439047681 (.int .u8)), (.cell 1245456 2, .own 137439047682 (.named 1)), (.tmp 11, .own 137439047683 (.named 1))], [0, 2, 3, 4, 11, 13, 15, 16], [0, 137439047680, 137439047683, 1245456, 137439047681, 137439047682], []⟩, exOfJ (some ⟨[(.tmp 11, .own 137439048704 (.named 1)), (.cell 0 1, .own 137439048705 (.named 0))], [0, 1, 2, 3, 4, 11], [0, 137439048705, 137439048704], []⟩) (none) []⟩
noncomputable def f78_j17_a : LAnn := ⟨⟨[(.tmp 11, .own 137439023104 (.named 1)), (.cell 0 1, .own 137439023105 (.named 0))], [0, 1, 2, 3, 4, 11, 12, 13, 14, 15], [0, 137439023105, 137439023104], []⟩, exOfJ (some ⟨[(.cell 0 1, .own 137439025152 (.named 0))], [0, 1, 2, 3, 4, 11], [0, 137439025152, 137439048704], []⟩) (none) [(0, ⟨[(.tmp 11, .own 137439024128 (.named 1)), (.cell 0 1, .own 137439024129 (.named 0))], [11], [137439024128, 0, 137439024129], []⟩)]⟩
noncomputable def f78_j15_a : LAnn := ⟨⟨[(.tmp 11, .own 137439014912 (.named 1)), (.cell 0 1, .own 137439014913 (.named 0))], [0, 1, 2, 3, 4, 11, 12, 13, 14, 15], [0, 137439014913, 137439014912], []⟩, exOfJ (some ⟨[], [0, 1, 2, 3, 4, 11], [0, 137439025152, 137439048704], []⟩) (none) [(0, ⟨[(.tmp 11, .own 137439015936 (.named 1)), (.cell 0 1, .own 137439015937 (.named 0))], [11], [137439015936, 0, 137439015937], []⟩)]⟩
noncomputable def f78_j13_a : LAnn := ⟨⟨[(.tmp 11, .own 137439006720 (.named 1)), (.cell 0 1, .own 137439006721 (.named 0))], [0, 1, 2, 3, 4, 11, 12, 13, 14, 15], [0, 137439006721, 137439006720], []⟩, exOfJ (some ⟨[], [0, 1, 2, 3, 4, 11], [0, 137439025152, 137439048704], []⟩) (none) [(0, ⟨[(.tmp 11, .own 137439007744 (.named 1)), (.cell 0 1, .own 137439007745 (.named 0))], [11], [137439007744, 0, 137439007745], []⟩)]⟩
noncomputable def f78_j11_a : LAnn := ⟨⟨[(.tmp 11, .own 137438998528 (.named 1)), (.cell 0 1, .own 137438998529 (.named 0))], [0, 1, 2, 3, 4, 11, 12, 13, 14, 15], [0, 137438998529, 137438998528], []⟩, exOfJ (some ⟨[], [0, 1, 2, 3, 4, 11], [0, 137439025152, 137439048704], []⟩) (none) [(0, ⟨[(.tmp 11, .own 137438999552 (.named 1)), (.cell 0 1, .own 137438999553 (.named 0))], [11], [137438999552, 0, 137438999553], []⟩)]⟩
noncomputable def f78_j3_a : LAnn := ⟨⟨[(.tmp 11, .own 137438965760 (.named 1)), (.cell 0 1, .own 137438965761 (.named 0))], [0, 1, 2, 3, 4, 11], [0, 137438965761, 137438965760], []⟩, exOfJ (some ⟨[], [0, 1, 2, 3, 4, 11], [0, 137439025152, 137439048704], []⟩) (none) [(0, ⟨[(.tmp 11, .own 137438966784 (.named 1)), (.cell 0 1, .own 137438966785 (.named 0))], [11], [137438966784, 0, 137438966785], []⟩)]⟩
noncomputable def f78_l2_a : LAnn := ⟨⟨[(.tmp 11, .own 68719484928 (.named 1)), (.cell 0 1, .own 68719484929 (.named 0))], [0, 1, 2, 3, 4, 11], [0, 68719484929, 68719484928], []⟩, exOf (none) [(0, ⟨[(.tmp 11, .own 68719485952 (.named 1)), (.cell 0 1, .own 68719485953 (.named 0))], [11], [68719485952, 0, 68719485953], []⟩)]⟩
noncomputable def f78_ann : Nat → Option LAnn := fun key => bif Nat.beq key 2 then some f78_l2_a else bif Nat.beq key 1000003 then some f78_j3_a else bif Nat.beq key 1000011 then some f78_j11_a else bif Nat.beq key 1000013 then some f78_j13_a else bif Nat.beq key 1000015 then some f78_j15_a else bif Nat.beq key 1000017 then some f78_j17_a else bif Nat.beq key 1000023 then some f78_j23_a else none
noncomputable def f78_j23_b : Code := joinAt f78_ann f78_b 5
noncomputable def f78_j23_g {R : Type} (k : Nat) (x : (Unit × Int × ByteArray × Int × Unit × Int × Bool × Unit × Unit)) (y : ((List Int × Unit × Int × Int × Int × Unit) × List D0 × List D1 × (Int × Unit × Unit × Bool × Unit) × List Int × List D1 × Unit)) (K : KX R) : Option R := f78_j23 k x.2.1 x.2.2.1 x.2.2.2.1 x.2.2.2.2.2.1 x.2.2.2.2.2.2.1 y.1.1 y.1.2.2.1 y.1.2.2.2.1 y.1.2.2.2.2.1 y.2.1 y.2.2.1 y.2.2.2.1.1 y.2.2.2.1.2.2.2.1 y.2.2.2.2.1 y.2.2.2.2.2.1 (fun z0 z1 z2 z3 z4 z5 z6 z7 z8 z9 => K (.normal) [.ptr 0 0, .int .i64 z0, .int .i64 z1, .str z2, .int .i64 z3, .own 137439048704] [some (.box [.list (.int .u8) z4, .own 137439048705, .int .i64 z5, .int .i64 z6, .int .i64 z7]), some (.row (.named 0) z8 true), some (.row (.named 1) z9 true)])
noncomputable def f78_j23_d {R : Type} (k : Nat) : Lr D R := ldoor [.ptr 0 0, .int .i64, .str, .int .i64, .own 137439047683, .int .i64, .bool, .ptr 1245456 0] [some (.box [.list (.int .u8), .own 137439047680, .int .i64, .int .i64, .int .i64]), some (.row (.named 0) true), some (.row (.named 1) true), some (.box [.int .i64, .own 137439047681, .own 137439047682, .bool]), some (.row (.int .u8) true), some (.row (.named 1) true)] (f78_j23_g k)
noncomputable def f78_j23_r {R : Type} (_k : Nat) : Lrc D R := noLrc
theorem f78_j23_d_ok {R : Type} (k : Nat) : JoinOk Tryd.prog cx 166 1 f78_ann (f78_j23_d (R := R) k) f78_j23_b :=
  join_ok (keep := kp) (lrc := f78_j23_r (R := R) k) cxOk mixed (f78_o_ok k) (show f78_ann (Am.keyOf f78_j23_b + 1000000) = some f78_j23_a by kernel_rfl) (L := []) (by kernel_rfl) trivial (J := []) (by kernel_rfl) trivial (LrcNat.no) (fun _x _y _K => by kernel_rfl)
noncomputable def f78_j17_b : Code := joinAt f78_ann f78_b 4
noncomputable def f78_j17_g {R : Type} (k : Nat) (x : (Unit × Int × Int × ByteArray × Int × Unit × Int × Int × ByteArray × Bool × Unit)) (y : ((List Int × Unit × Int × Int × Int × Unit) × List D0 × List D1 × Unit)) (K : KX R) : Option R := f78_j17 k x.2.1 x.2.2.1 x.2.2.2.1 x.2.2.2.2.1 x.2.2.2.2.2.2.1 x.2.2.2.2.2.2.2.1 x.2.2.2.2.2.2.2.2.1 x.2.2.2.2.2.2.2.2.2.1 y.1.1 y.1.2.2.1 y.1.2.2.2.1 y.1.2.2.2.2.1 y.2.1 y.2.2.1 (fun z0 z1 z2 z3 z4 z5 => K (.exit 0) [.own 137439024128] [some (.row (.named 1) z0 true), some (.box [.list (.int .u8) z1, .own 137439024129, .int .i64 z2, .int .i64 z3, .int .i64 z4]), some (.row (.named 0) z5 true)]) (fun z0 z1 z2 z3 z4 z5 z6 z7 z8 z9 => K (.normal) [.ptr 0 0, .int .i64 z0, .int .i64 z1, .str z2, .int .i64 z3, .own 137439048704] [some (.box [.list (.int .u8) z4, .own 137439025152, .int .i64 z5, .int .i64 z6, .int .i64 z7]), some (.row (.named 0) z8 true), some (.row (.named 1) z9 true)])
noncomputable def f78_j17_d {R : Type} (k : Nat) : Lr D R := ldoor [.ptr 0 0, .int .i64, .int .i64, .str, .int .i64, .own 137439023104, .int .i64, .int .i64, .str, .bool] [some (.box [.list (.int .u8), .own 137439023105, .int .i64, .int .i64, .int .i64]), some (.row (.named 0) true), some (.row (.named 1) true)] (f78_j17_g k)
noncomputable def f78_j17_r {R : Type} (k : Nat) : Lrc D R := (lrcAdd 1000023 (f78_j23_d k) noLrc)
theorem f78_j17_d_ok {R : Type} (k : Nat) : JoinOk Tryd.prog cx 166 1 f78_ann (f78_j17_d (R := R) k) f78_j17_b :=
  join_ok (keep := kp) (lrc := f78_j17_r (R := R) k) cxOk mixed (f78_o_ok k) (show f78_ann (Am.keyOf f78_j17_b + 1000000) = some f78_j17_a by kernel_rfl) (L := []) (by kernel_rfl) trivial (J := [f78_j23_b]) (by kernel_rfl) (⟨(f78_j23_d_ok k).use (by kernel_rfl), trivial⟩) ((LrcNat.add (f78_j23_d_ok k).2 LrcNat.no)) (fun _x _y _K => by kernel_rfl)
noncomputable def f78_j15_b : Code := joinAt f78_ann f78_b 3
noncomputable def f78_j15_g {R : Type} (k : Nat) (x : (Unit × Int × Int × ByteArray × Int × Unit × Int × Int × ByteArray × Bool × Unit)) (y : ((List Int × Unit × Int × Int × Int × Unit) × List D0 × List D1 × Unit)) (K : KX R) : Option R := f78_j15 k x.2.1 x.2.2.1 x.2.2.2.1 x.2.2.2.2.1 x.2.2.2.2.2.2.1 x.2.2.2.2.2.2.2.1 x.2.2.2.2.2.2.2.2.1 x.2.2.2.2.2.2.2.2.2.1 y.1.1 y.1.2.2.1 y.1.2.2.2.1 y.1.2.2.2.2.1 y.2.1 y.2.2.1 (fun z0 z1 z2 z3 z4 z5 => K (.exit 0) [.own 137439015936] [some (.row (.named 1) z0 true), some (.box [.list (.int .u8) z1, .own 137439015937, .int .i64 z2, .int .i64 z3, .int .i64 z4]), some (.row (.named 0) z5 true)]) (fun z0 z1 z2 z3 z4 z5 z6 z7 z8 z9 => K (.normal) [.ptr 0 0, .int .i64 z0, .int .i64 z1, .str z2, .int .i64 z3, .own 137439048704] [some (.box [.list (.int .u8) z4, .own 137439025152, .int .i64 z5, .int .i64 z6, .int .i64 z7]), some (.row (.named 0) z8 true), some (.row (.named 1) z9 true)])
noncomputable def f78_j15_d {R : Type} (k : Nat) : Lr D R := ldoor [.ptr 0 0, .int .i64, .int .i64, .str, .int .i64, .own 137439014912, .int .i64, .int .i64, .str, .bool] [some (.box [.list (.int .u8), .own 137439014913, .int .i64, .int .i64, .int .i64]), some (.row (.named 0) true), some (.row (.named 1) true)] (f78_j15_g k)
noncomputable def f78_j15_r {R : Type} (k : Nat) : Lrc D R := (lrcAdd 1000023 (f78_j23_d k) (lrcAdd 1000017 (f78_j17_d k) noLrc))
theorem f78_j15_d_ok {R : Type} (k : Nat) : JoinOk Tryd.prog cx 166 1 f78_ann (f78_j15_d (R := R) k) f78_j15_b :=
  join_ok (keep := kp) (lrc := f78_j15_r (R := R) k) cxOk mixed (f78_o_ok k) (show f78_ann (Am.keyOf f78_j15_b + 1000000) = some f78_j15_a by kernel_rfl) (L := []) (by kernel_rfl) trivial (J := [f78_j17_b, f78_j23_b]) (by kernel_rfl) (⟨(f78_j17_d_ok k).use (by kernel_rfl), (f78_j23_d_ok k).use (by kernel_rfl), trivial⟩) ((LrcNat.add (f78_j23_d_ok k).2 (LrcNat.add (f78_j17_d_ok k).2 LrcNat.no))) (fun _x _y _K => by kernel_rfl)
noncomputable def f78_j13_b : Code := joinAt f78_ann f78_b 2
noncomputable def f78_j13_g {R : Type} (k : Nat) (x : (Unit × Int × Int × ByteArray × Int × Unit × Int × Int × ByteArray × Bool × Unit)) (y : ((List Int × Unit × Int × Int × Int × Unit) × List D0 × List D1 × Unit)) (K : KX R) : Option R := f78_j13 k x.2.1 x.2.2.1 x.2.2.2.1 x.2.2.2.2.1 x.2.2.2.2.2.2.1 x.2.2.2.2.2.2.2.1 x.2.2.2.2.2.2.2.2.1 x.2.2.2.2.2.2.2.2.2.1 y.1.1 y.1.2.2.1 y.1.2.2.2.1 y.1.2.2.2.2.1 y.2.1 y.2.2.1 (fun z0 z1 z2 z3 z4 z5 => K (.exit 0) [.own 137439007744] [some (.row (.named 1) z0 true), some (.box [.list (.int .u8) z1, .own 137439007745, .int .i64 z2, .int .i64 z3, .int .i64 z4]), some (.row (.named 0) z5 true)]) (fun z0 z1 z2 z3 z4 z5 z6 z7 z8 z9 => K (.normal) [.ptr 0 0, .int .i64 z0, .int .i64 z1, .str z2, .int .i64 z3, .own 137439048704] [some (.box [.list (.int .u8) z4, .own 137439025152, .int .i64 z5, .int .i64 z6, .int .i64 z7]), some (.row (.named 0) z8 true), some (.row (.named 1) z9 true)])
noncomputable def f78_j13_d {R : Type} (k : Nat) : Lr D R := ldoor [.ptr 0 0, .int .i64, .int .i64, .str, .int .i64, .own 137439006720, .int .i64, .int .i64, .str, .bool] [some (.box [.list (.int .u8), .own 137439006721, .int .i64, .int .i64, .int .i64]), some (.row (.named 0) true), some (.row (.named 1) true)] (f78_j13_g k)
noncomputable def f78_j13_r {R : Type} (k : Nat) : Lrc D R := (lrcAdd 1000023 (f78_j23_d k) (lrcAdd 1000017 (f78_j17_d k) (lrcAdd 1000015 (f78_j15_d k) noLrc)))
theorem f78_j13_d_ok {R : Type} (k : Nat) : JoinOk Tryd.prog cx 166 1 f78_ann (f78_j13_d (R := R) k) f78_j13_b :=
  join_ok (keep := kp) (lrc := f78_j13_r (R := R) k) cxOk mixed (f78_o_ok k) (show f78_ann (Am.keyOf f78_j13_b + 1000000) = some f78_j13_a by kernel_rfl) (L := []) (by kernel_rfl) trivial (J := [f78_j15_b, f78_j17_b, f78_j23_b]) (by kernel_rfl) (⟨(f78_j15_d_ok k).use (by kernel_rfl), (f78_j17_d_ok k).use (by kernel_rfl), (f78_j23_d_ok k).use (by kernel_rfl), trivial⟩) ((LrcNat.add (f78_j23_d_ok k).2 (LrcNat.add (f78_j17_d_ok k).2 (LrcNat.add (f78_j15_d_ok k).2 LrcNat.no)))) (fun _x _y _K => by kernel_rfl)
noncomputable def f78_j11_b : Code := joinAt f78_ann f78_b 1
noncomputable def f78_j11_g {R : Type} (k : Nat) (x : (Unit × Int × Int × ByteArray × Int × Unit × Int × Int × ByteArray × Bool × Unit)) (y : ((List Int × Unit × Int × Int × Int × Unit) × List D0 × List D1 × Unit)) (K : KX R) : Option R := f78_j11 k x.2.1 x.2.2.1 x.2.2.2.1 x.2.2.2.2.1 x.2.2.2.2.2.2.1 x.2.2.2.2.2.2.2.1 x.2.2.2.2.2.2.2.2.1 x.2.2.2.2.2.2.2.2.2.1 y.1.1 y.1.2.2.1 y.1.2.2.2.1 y.1.2.2.2.2.1 y.2.1 y.2.2.1 (fun z0 z1 z2 z3 z4 z5 => K (.exit 0) [.own 137438999552] [some (.row (.named 1) z0 true), some (.box [.list (.int .u8) z1, .own 137438999553, .int .i64 z2, .int .i64 z3, .int .i64 z4]), some (.row (.named 0) z5 true)]) (fun z0 z1 z2 z3 z4 z5 z6 z7 z8 z9 => K (.normal) [.ptr 0 0, .int .i64 z0, .int .i64 z1, .str z2, .int .i64 z3, .own 137439048704] [some (.box [.list (.int .u8) z4, .own 137439025152, .int .i64 z5, .int .i64 z6, .int .i64 z7]), some (.row (.named 0) z8 true), some (.row (.named 1) z9 true)])
noncomputable def f78_j11_d {R : Type} (k : Nat) : Lr D R := ldoor [.ptr 0 0, .int .i64, .int .i64, .str, .int .i64, .own 137438998528, .int .i64, .int .i64, .str, .bool] [some (.box [.list (.int .u8), .own 137438998529, .int .i64, .int .i64, .int .i64]), some (.row (.named 0) true), some (.row (.named 1) true)] (f78_j11_g k)
noncomputable def f78_j11_r {R : Type} (k : Nat) : Lrc D R := (lrcAdd 1000023 (f78_j23_d k) (lrcAdd 1000017 (f78_j17_d k) (lrcAdd 1000015 (f78_j15_d k) (lrcAdd 1000013 (f78_j13_d k) noLrc))))
theorem f78_j11_d_ok {R : Type} (k : Nat) : JoinOk Tryd.prog cx 166 1 f78_ann (f78_j11_d (R := R) k) f78_j11_b :=
  join_ok (keep := kp) (lrc := f78_j11_r (R := R) k) cxOk mixed (f78_o_ok k) (show f78_ann (Am.keyOf f78_j11_b + 1000000) = some f78_j11_a by kernel_rfl) (L := []) (by kernel_rfl) trivial (J := [f78_j13_b, f78_j15_b, f78_j17_b, f78_j23_b]) (by kernel_rfl) (⟨(f78_j13_d_ok k).use (by kernel_rfl), (f78_j15_d_ok k).use (by kernel_rfl), (f78_j17_d_ok k).use (by kernel_rfl), (f78_j23_d_ok k).use (by kernel_rfl), trivial⟩) ((LrcNat.add (f78_j23_d_ok k).2 (LrcNat.add (f78_j17_d_ok k).2 (LrcNat.add (f78_j15_d_ok k).2 (LrcNat.add (f78_j13_d_ok k).2 LrcNat.no))))) (fun _x _y _K => by kernel_rfl)
noncomputable def f78_j3_b : Code := joinAt f78_ann f78_b 0
noncomputable def f78_j3_g {R : Type} (k : Nat) (x : (Unit × Int × Int × ByteArray × Int × Unit × Unit)) (y : ((List Int × Unit × Int × Int × Int × Unit) × List D0 × List D1 × Unit)) (K : KX R) : Option R := f78_j3 k x.2.1 x.2.2.1 x.2.2.2.1 x.2.2.2.2.1 y.1.1 y.1.2.2.1 y.1.2.2.2.1 y.1.2.2.2.2.1 y.2.1 y.2.2.1 (fun z0 z1 z2 z3 z4 z5 => K (.exit 0) [.own 137438966784] [some (.row (.named 1) z0 true), some (.box [.list (.int .u8) z1, .own 137438966785, .int .i64 z2, .int .i64 z3, .int .i64 z4]), some (.row (.named 0) z5 true)]) (fun z0 z1 z2 z3 z4 z5 z6 z7 z8 z9 => K (.normal) [.ptr 0 0, .int .i64 z0, .int .i64 z1, .str z2, .int .i64 z3, .own 137439048704] [some (.box [.list (.int .u8) z4, .own 137439025152, .int .i64 z5, .int .i64 z6, .int .i64 z7]), some (.row (.named 0) z8 true), some (.row (.named 1) z9 true)])
noncomputable def f78_j3_d {R : Type} (k : Nat) : Lr D R := ldoor [.ptr 0 0, .int .i64, .int .i64, .str, .int .i64, .own 137438965760] [some (.box [.list (.int .u8), .own 137438965761, .int .i64, .int .i64, .int .i64]), some (.row (.named 0) true), some (.row (.named 1) true)] (f78_j3_g k)
noncomputable def f78_j3_r {R : Type} (k : Nat) : Lrc D R := (lrcAdd 1000023 (f78_j23_d k) (lrcAdd 1000017 (f78_j17_d k) (lrcAdd 1000015 (f78_j15_d k) (lrcAdd 1000013 (f78_j13_d k) (lrcAdd 1000011 (f78_j11_d k) noLrc)))))
theorem f78_j3_d_ok {R : Type} (k : Nat) : JoinOk Tryd.prog cx 166 1 f78_ann (f78_j3_d (R := R) k) f78_j3_b :=
  join_ok (keep := kp) (lrc := f78_j3_r (R := R) k) cxOk mixed (f78_o_ok k) (show f78_ann (Am.keyOf f78_j3_b + 1000000) = some f78_j3_a by kernel_rfl) (L := []) (by kernel_rfl) trivial (J := [f78_j11_b, f78_j13_b, f78_j15_b, f78_j17_b, f78_j23_b]) (by kernel_rfl) (⟨(f78_j11_d_ok k).use (by kernel_rfl), (f78_j13_d_ok k).use (by kernel_rfl), (f78_j15_d_ok k).use (by kernel_rfl), (f78_j17_d_ok k).use (by kernel_rfl), (f78_j23_d_ok k).use (by kernel_rfl), trivial⟩) ((LrcNat.add (f78_j23_d_ok k).2 (LrcNat.add (f78_j17_d_ok k).2 (LrcNat.add (f78_j15_d_ok k).2 (LrcNat.add (f78_j13_d_ok k).2 (LrcNat.add (f78_j11_d_ok k).2 LrcNat.no)))))) (fun _x _y _K => by kernel_rfl)
noncomputable def f78_l2_b : Code := loopAt f78_b 0
noncomputable def f78_l2_g {R : Type} (k : Nat) (x : (Unit × Int × Int × ByteArray × Int × Unit × Unit)) (y : ((List Int × Unit × Int × Int × Int × Unit) × List D0 × List D1 × Unit)) (K : KX R) : Option R := f78_l2 k x.2.1 x.2.2.1 x.2.2.2.1 x.2.2.2.2.1 y.1.1 y.1.2.2.1 y.1.2.2.2.1 y.1.2.2.2.2.1 y.2.1 y.2.2.1 (fun z0 z1 z2 z3 z4 z5 => K (.exit 0) [.own 68719485952] [some (.row (.named 1) z0 true), some (.box [.list (.int .u8) z1, .own 68719485953, .int .i64 z2, .int .i64 z3, .int .i64 z4]), some (.row (.named 0) z5 true)])
noncomputable def f78_l2_d {R : Type} (k : Nat) : Lr D R := ldoor [.ptr 0 0, .int .i64, .int .i64, .str, .int .i64, .own 68719484928] [some (.box [.list (.int .u8), .own 68719484929, .int .i64, .int .i64, .int .i64]), some (.row (.named 0) true), some (.row (.named 1) true)] (f78_l2_g k)
noncomputable def f78_l2_r {R : Type} (k : Nat) : Lrc D R := (lrcAdd 1000023 (f78_j23_d k) (lrcAdd 1000017 (f78_j17_d k) (lrcAdd 1000015 (f78_j15_d k) (lrcAdd 1000013 (f78_j13_d k) (lrcAdd 1000011 (f78_j11_d k) (lrcAdd 1000003 (f78_j3_d k) noLrc))))))
theorem f78_l2_d_ok {R : Type} : ∀ k, LoopOk Tryd.prog cx 166 1 f78_ann (f78_l2_d (R := R) k) f78_l2_b :=
  loop_ok (keep := kp) (lrc := f78_l2_r (R := R)) cxOk mixed (f78_o_ok) (show f78_ann (Am.keyOf f78_l2_b) = some f78_l2_a by kernel_rfl) (L := []) (by kernel_rfl) (fun _k => trivial) (J := [f78_j3_b, f78_j11_b, f78_j13_b, f78_j15_b, f78_j17_b, f78_j23_b]) (by kernel_rfl) (fun k => ⟨(f78_j3_d_ok k).use (by kernel_rfl), (f78_j11_d_ok k).use (by kernel_rfl), (f78_j13_d_ok k).use (by kernel_rfl), (f78_j15_d_ok k).use (by kernel_rfl), (f78_j17_d_ok k).use (by kernel_rfl), (f78_j23_d_ok k).use (by kernel_rfl), trivial⟩) (fun k => (LrcNat.add (f78_j23_d_ok k).2 (LrcNat.add (f78_j17_d_ok k).2 (LrcNat.add (f78_j15_d_ok k).2 (LrcNat.add (f78_j13_d_ok k).2 (LrcNat.add (f78_j11_d_ok k).2 (LrcNat.add (f78_j3_d_ok k).2 LrcNat.no))))))) (fun _x _y _K => by kernel_rfl) (fun _k _x _y _K => by kernel_rfl)
noncomputable def f78_r {R : Type} (k : Nat) : Lrc D R := (lrcAdd 1000023 (f78_j23_d k) (lrcAdd 1000017 (f78_j17_d k) (lrcAdd 1000015 (f78_j15_d k) (lrcAdd 1000013 (f78_j13_d k) (lrcAdd 1000011 (f78_j11_d k) (lrcAdd 1000003 (f78_j3_d k) (lrcAdd 2 (f78_l2_d k) noLrc)))))))
theorem f78_ok {R : Type} (k : Nat) {e : Dr D R} (he : FnOk Tryd.prog cx 78 e) : FnOk Tryd.prog cx 78 (f78_d (f78 k) e) :=
  he.door fun _x _y => body_ok (keep := kp) (ann := f78_ann) (lrc := f78_r (R := R) k) (N := 166) (n0 := 1) (c := []) cxOk mixed (f78_o_ok k) (body := f78_b) (by kernel_rfl : Tryd.prog.funcs[78]? = some Tryd.f78) (by kernel_rfl) (by kernel_rfl) (by kernel_rfl) (by kernel_rfl) (of_decide_eq_true (by kernel_rfl)) (L := [f78_l2_b]) (by kernel_rfl) (⟨(f78_l2_d_ok k).use (by kernel_rfl), trivial⟩) (J := [f78_j3_b, f78_j11_b, f78_j13_b, f78_j15_b, f78_j17_b, f78_j23_b]) (by kernel_rfl) (⟨(f78_j3_d_ok k).use (by kernel_rfl), (f78_j11_d_ok k).use (by kernel_rfl), (f78_j13_d_ok k).use (by kernel_rfl), (f78_j15_d_ok k).use (by kernel_rfl), (f78_j17_d_ok k).use (by kernel_rfl), (f78_j23_d_ok k).use (by kernel_rfl), trivial⟩) ((LrcNat.add (f78_j23_d_ok k).2 (LrcNat.add (f78_j17_d_ok k).2 (LrcNat.add (f78_j15_d_ok k).2 (LrcNat.add (f78_j13_d_ok k).2 (LrcNat.add (f78_j11_d_ok k).2 (LrcNat.add (f78_j3_d_ok k).2 (LrcNat.add (f78_l2_d_ok k).2 LrcNat.no)))))))) (fun _K => by delta f78 f78_o; generalize @f56 R = a0; generalize @f55 R = a1; generalize @f60 R = a2; generalize @f88 R = a3; generalize @f95_2 R = a4; generalize @f94_2 R = a5; generalize @f78_2 R = a6; revert a0 a1 a2 a3 a4 a5 a6; refine id ?_; intros; kernel_rfl)

abbrev f50_T (R : Type) : Type := List Int → (List D1 → List Int → Int → Int → Int → List D0 → Option R) → Option R
/-! ## 50: diorama/dioramaref08.read -/
noncomputable def f50 {R : Type} (k : Nat) (a0 : List Int) (K : List D1 → List Int → Int → Int → Int → List D0 → Option R) : Option R :=
 bif decide ((a0.length : Int) > 1048576) then
  K ([] : List D1) a0 0 2 0 ([] : List D0)
 else
  f78 k 0 (a0.length : Int) (⟨#[]⟩ : ByteArray) 1 a0 0 0 0 (fun v1 v2 v3 v4 v5 v6 =>
   K v5 v1 v2 v3 v4 v6)
noncomputable def f50_d {R : Type} (g : f50_T R) (e : Dr D R) : Dr D R := door [.list (.int .u8)] [] (fun (x : (List Int × Unit)) (_y : (Unit)) K => g x.1 (fun z0 z1 z2 z3 z4 z5 => K ⟨.tup [.own 0, .ptr 1 0], [some (.row (.named 1) z0 true), some (.box [.list (.int .u8) z1, .own 2, .int .i64 z2, .int .i64 z3, .int .i64 z4]), some (.row (.named 0) z5 true)]⟩)) e
noncomputable def f50_o {R : Type} (k : Nat) : Orc D R := (orcAdd 78 (f78_d (f78 k) noDr) noOrc)
theorem f50_o_ok {R : Type} (k : Nat) : OrcOk Tryd.prog cx (f50_o (R := R) k) := (OrcOk.add (f78_ok k FnOk.no) OrcOk.no)
noncomputable def f50_b : Code := bodyOf Tryd.f50
noncomputable def f50_ann : Nat → Option LAnn := fun _key => none
noncomputable def f50_r {R : Type} (_k : Nat) : Lrc D R := noLrc
theorem f50_ok {R : Type} (k : Nat) {e : Dr D R} (he : FnOk Tryd.prog cx 50 e) : FnOk Tryd.prog cx 50 (f50_d (f50 k) e) :=
  he.door fun _x _y => body_ok (keep := kp) (ann := f50_ann) (lrc := f50_r (R := R) k) (N := 22) (n0 := 0) (c := [(.tmp 2, .own 1099511627776 (.named 1)), (.cell 131216 1, .own 1099511627777 (.named 0))]) cxOk mixed (f50_o_ok k) (body := f50_b) (by kernel_rfl : Tryd.prog.funcs[50]? = some Tryd.f50) (by kernel_rfl) (by kernel_rfl) (by kernel_rfl) (by kernel_rfl) (of_decide_eq_true (by kernel_rfl)) (L := []) (by kernel_rfl) trivial (J := []) (by kernel_rfl) trivial (LrcNat.no) (fun _K => by delta f50 f50_o; generalize @f78 R = a0; revert a0; refine id ?_; intros; kernel_rfl)

abbrev f15_T (R : Type) : Type := List Int → (Int → Int → List D1 → Option R) → Option R
/-! ## 15: diorama/dioramaref08.Parse -/
noncomputable def f15 {R : Type} (k : Nat) (a0 : List Int) (K : Int → Int → List D1 → Option R) : Option R :=
 f50 k a0 (fun v1 _v2 _v3 v4 v5 _v6 =>
  bif (v4 != 0) then
   K v5 v4 ([] : List D1)
  else
   K 0 0 v1)
noncomputable def f15_d {R : Type} (g : f15_T R) (e : Dr D R) : Dr D R := door [.list (.int .u8)] [] (fun (x : (List Int × Unit)) (_y : (Unit)) K => g x.1 (fun z0 z1 z2 => K ⟨.tup [.own 0, .int .i64 z0, .int .i64 z1], [some (.row (.named 1) z2 true)]⟩)) e
noncomputable def f15_o {R : Type} (k : Nat) : Orc D R := (orcAdd 50 (f50_d (f50 k) noDr) noOrc)
theorem f15_o_ok {R : Type} (k : Nat) : OrcOk Tryd.prog cx (f15_o (R := R) k) := (OrcOk.add (f50_ok k FnOk.no) OrcOk.no)
noncomputable def f15_b : Code := bodyOf Tryd.f15
noncomputable def f15_ann : Nat → Option LAnn := fun _key => none
noncomputable def f15_r {R : Type} (_k : Nat) : Lrc D R := noLrc
theorem f15_ok {R : Type} (k : Nat) {e : Dr D R} (he : FnOk Tryd.prog cx 15 e) : FnOk Tryd.prog cx 15 (f15_d (f15 k) e) :=
  he.door fun _x _y => body_ok (keep := kp) (ann := f15_ann) (lrc := f15_r (R := R) k) (N := 26) (n0 := 0) (c := [(.tmp 2, .own 1099511627776 (.named 1))]) cxOk mixed (f15_o_ok k) (body := f15_b) (by kernel_rfl : Tryd.prog.funcs[15]? = some Tryd.f15) (by kernel_rfl) (by kernel_rfl) (by kernel_rfl) (by kernel_rfl) (of_decide_eq_true (by kernel_rfl)) (L := []) (by kernel_rfl) trivial (J := []) (by kernel_rfl) trivial (LrcNat.no) (fun _K => by delta f15 f15_o; generalize @f50 R = a0; revert a0; refine id ?_; intros; kernel_rfl)

abbrev f16_T (R : Type) : Type := List Int → (Int → Int → List D0 → Option R) → Option R
/-! ## 16: diorama/box.Places -/
noncomputable def f16 {R : Type} (k : Nat) (a0 : List Int) (K : Int → Int → List D0 → Option R) : Option R :=
 f49 k a0 (fun v1 v2 _v3 v4 =>
  K v1 v2 v4)
noncomputable def f16_d {R : Type} (g : f16_T R) (e : Dr D R) : Dr D R := door [.list (.int .u8)] [] (fun (x : (List Int × Unit)) (_y : (Unit)) K => g x.1 (fun z0 z1 z2 => K ⟨.tup [.own 0, .int .i64 z0, .int .i64 z1], [some (.row (.named 0) z2 true)]⟩)) e
noncomputable def f16_o {R : Type} (k : Nat) : Orc D R := (orcAdd 49 (f49_d (f49 k) noDr) noOrc)
theorem f16_o_ok {R : Type} (k : Nat) : OrcOk Tryd.prog cx (f16_o (R := R) k) := (OrcOk.add (f49_ok k FnOk.no) OrcOk.no)
noncomputable def f16_b : Code := bodyOf Tryd.f16
noncomputable def f16_ann : Nat → Option LAnn := fun _key => none
noncomputable def f16_r {R : Type} (_k : Nat) : Lrc D R := noLrc
theorem f16_ok {R : Type} (k : Nat) {e : Dr D R} (he : FnOk Tryd.prog cx 16 e) : FnOk Tryd.prog cx 16 (f16_d (f16 k) e) :=
  he.door fun _x _y => body_ok (keep := kp) (ann := f16_ann) (lrc := f16_r (R := R) k) (N := 19) (n0 := 0) (c := []) cxOk mixed (f16_o_ok k) (body := f16_b) (by kernel_rfl : Tryd.prog.funcs[16]? = some Tryd.f16) (by kernel_rfl) (by kernel_rfl) (by kernel_rfl) (by kernel_rfl) (of_decide_eq_true (by kernel_rfl)) (L := []) (by kernel_rfl) trivial (J := []) (by kernel_rfl) trivial (LrcNat.no) (fun _K => by delta f16 f16_o; generalize @f49 R = a0; revert a0; refine id ?_; intros; kernel_rfl)

abbrev f17_T (R : Type) : Type := List Int → (Int → Int → List D0 → Option R) → Option R
/-! ## 17: diorama/dioramaref08.Places -/
noncomputable def f17 {R : Type} (k : Nat) (a0 : List Int) (K : Int → Int → List D0 → Option R) : Option R :=
 f50 k a0 (fun _v1 _v2 _v3 v4 v5 v6 =>
  bif (v4 != 0) then
   K v5 v4 ([] : List D0)
  else
   K 0 0 v6)
noncomputable def f17_d {R : Type} (g : f17_T R) (e : Dr D R) : Dr D R := door [.list (.int .u8)] [] (fun (x : (List Int × Unit)) (_y : (Unit)) K => g x.1 (fun z0 z1 z2 => K ⟨.tup [.own 0, .int .i64 z0, .int .i64 z1], [some (.row (.named 0) z2 true)]⟩)) e
noncomputable def f17_o {R : Type} (k : Nat) : Orc D R := (orcAdd 50 (f50_d (f50 k) noDr) noOrc)
theorem f17_o_ok {R : Type} (k : Nat) : OrcOk Tryd.prog cx (f17_o (R := R) k) := (OrcOk.add (f50_ok k FnOk.no) OrcOk.no)
noncomputable def f17_b : Code := bodyOf Tryd.f17
noncomputable def f17_ann : Nat → Option LAnn := fun _key => none
noncomputable def f17_r {R : Type} (_k : Nat) : Lrc D R := noLrc
theorem f17_ok {R : Type} (k : Nat) {e : Dr D R} (he : FnOk Tryd.prog cx 17 e) : FnOk Tryd.prog cx 17 (f17_d (f17 k) e) :=
  he.door fun _x _y => body_ok (keep := kp) (ann := f17_ann) (lrc := f17_r (R := R) k) (N := 29) (n0 := 0) (c := [(.tmp 2, .own 1099511627776 (.named 0))]) cxOk mixed (f17_o_ok k) (body := f17_b) (by kernel_rfl : Tryd.prog.funcs[17]? = some Tryd.f17) (by kernel_rfl) (by kernel_rfl) (by kernel_rfl) (by kernel_rfl) (of_decide_eq_true (by kernel_rfl)) (L := []) (by kernel_rfl) trivial (J := []) (by kernel_rfl) trivial (LrcNat.no) (fun _K => by delta f17 f17_o; generalize @f50 R = a0; revert a0; refine id ?_; intros; kernel_rfl)

abbrev f25_T (R : Type) : Type := List Int → List Int → (Bool → Option R) → Option R
/-! ## 25: diorama/dioramaref00.EqBytes -/
noncomputable def f25_l4 {R : Type} : Nat → List Int → List Int → Int → Option R → (Bool → Option R) → Option R
  | 0, _, _, _, _, _ => none
  | k + 1, v1, v2, v3, X0, X1 =>
  bif decide (v3 < (v1.length : Int)) then
   bif inb v3 v1.length then
    bif inb v3 v2.length then
     bif ((v1.getD v3.toNat 0) != (v2.getD v3.toNat 0)) then
      X1 false
     else
      f25_l4 k v1 v2 (IntKind.i64.wrap (v3 + 1)) X0 X1
    else
     none
   else
    none
  else
   X0
noncomputable def f25 {R : Type} (k : Nat) (a0 a1 : List Int) (K : Bool → Option R) : Option R :=
 bif ((a0.length : Int) != (a1.length : Int)) then
  K false
 else
  f25_l4 k a0 a1 0 (
   K true) K
noncomputable def f25_d {R : Type} (g : f25_T R) (e : Dr D R) : Dr D R := door [.list (.int .u8), .list (.int .u8)] [] (fun (x : (List Int × List Int × Unit)) (_y : (Unit)) K => g x.1 x.2.1 (fun z0 => K ⟨.bool z0, []⟩)) e
noncomputable def f25_o {R : Type} (_k : Nat) : Orc D R := noOrc
theorem f25_o_ok {R : Type} (k : Nat) : OrcOk Tryd.prog cx (f25_o (R := R) k) := OrcOk.no
noncomputable def f25_b : Code := bodyOf Tryd.f25
noncomputable def f25_l4_a : LAnn := ⟨⟨[], [0, 1, 5], [], []⟩, exOf (some ⟨[], [4], [], []⟩) [(0, ⟨[], [], [], []⟩)]⟩
noncomputable def f25_ann : Nat → Option LAnn := fun key => bif Nat.beq key 4 then some f25_l4_a else none
noncomputable def f25_l4_b : Code := loopAt f25_b 0
noncomputable def f25_l4_g {R : Type} (k : Nat) (x : (List Int × List Int × Int × Unit)) (_y : (Unit)) (K : KX R) : Option R := f25_l4 k x.1 x.2.1 x.2.2.1 (K (.exit 0) [] []) (fun z0 => K (.ret) [.bool z0] [])
noncomputable def f25_l4_d {R : Type} (k : Nat) : Lr D R := ldoor [.list (.int .u8), .list (.int .u8), .int .i64] [] (f25_l4_g k)
noncomputable def f25_l4_r {R : Type} (_k : Nat) : Lrc D R := noLrc
theorem f25_l4_d_ok {R : Type} : ∀ k, LoopOk Tryd.prog cx 26 0 f25_ann (f25_l4_d (R := R) k) f25_l4_b :=
  loop_ok (keep := kp) (lrc := f25_l4_r (R := R)) cxOk mixed (f25_o_ok) (show f25_ann (Am.keyOf f25_l4_b) = some f25_l4_a by kernel_rfl) (L := []) (by kernel_rfl) (fun _k => trivial) (J := []) (by kernel_rfl) (fun _k => trivial) (fun _k => LrcNat.no) (fun _x _y _K => by kernel_rfl) (fun _k _x _y _K => by kernel_rfl)
noncomputable def f25_r {R : Type} (k : Nat) : Lrc D R := (lrcAdd 4 (f25_l4_d k) noLrc)
theorem f25_ok {R : Type} (k : Nat) {e : Dr D R} (he : FnOk Tryd.prog cx 25 e) : FnOk Tryd.prog cx 25 (f25_d (f25 k) e) :=
  he.door fun _x _y => body_ok (keep := kp) (ann := f25_ann) (lrc := f25_r (R := R) k) (N := 26) (n0 := 0) (c := []) cxOk mixed (f25_o_ok k) (body := f25_b) (by kernel_rfl : Tryd.prog.funcs[25]? = some Tryd.f25) (by kernel_rfl) (by kernel_rfl) (by kernel_rfl) (by kernel_rfl) (of_decide_eq_true (by kernel_rfl)) (L := [f25_l4_b]) (by kernel_rfl) (⟨(f25_l4_d_ok k).use (by kernel_rfl), trivial⟩) (J := []) (by kernel_rfl) trivial ((LrcNat.add (f25_l4_d_ok k).2 LrcNat.no)) (fun _K => by kernel_rfl)


end Go.Proofs.YtehmahdngjdhpaaDoor

/-! What the functions do, as plain functions; and that they do. -/
namespace Go.Proofs.YtehmahdngjdhpaaDoor
open Go Go.Am
abbrev f34_2_T (R : Type) : Type := Int → List Int → List D1 → Bool → Int → List Int → List D1 → Bool → (Bool → Option R) → Option R
abbrev f18_T (R : Type) : Type := List D1 → List D1 → (Bool → Option R) → Option R
/-! ## 34: diorama/dioramaref00.EqNode -/
noncomputable def f34_2_s {R : Type} (g_f18 : Nat → f18_T R) (k : Nat) (a0 : Int) (a1 : List Int) (a2 : List D1) (a3 : Bool) (a4 : Int) (a5 : List Int) (a6 : List D1) (a7 : Bool) (K : Bool → Option R) : Option R :=
 bif (a0 == a4) then
  bif (a3 == a7) then
   f25 k a1 a5 (fun v1 =>
    bif v1 then
     g_f18 k a2 a6 K
    else
     K false)
  else
   K false
 else
  K false
noncomputable def f34_2_d {R : Type} (g : f34_2_T R) (e : Dr D R) : Dr D R := door [.agg [.int .i64, .list (.int .u8), .list (.named 1), .bool], .agg [.int .i64, .list (.int .u8), .list (.named 1), .bool]] [] (fun (x : ((Int × List Int × List D1 × Bool × Unit) × (Int × List Int × List D1 × Bool × Unit) × Unit)) (_y : (Unit)) K => g x.1.1 x.1.2.1 x.1.2.2.1 x.1.2.2.2.1 x.2.1.1 x.2.1.2.1 x.2.1.2.2.1 x.2.1.2.2.2.1 (fun z0 => K ⟨.bool z0, []⟩)) e
/-! ## 18: diorama/dioramaref00.EqNodes -/
noncomputable def f18_l4 {R : Type} (g_f34_2 : Nat → f34_2_T R) : Nat → List D1 → List D1 → Int → Option R → (Bool → Option R) → Option R
  | 0, _, _, _, _, _ => none
  | k + 1, v1, v2, v3, X0, X1 =>
  bif decide (v3 < (v1.length : Int)) then
   bif inb v3 v1.length then
    bif inb v3 v2.length then
     g_f34_2 k (D1.c0 (v1.getD v3.toNat zero1)) (D1.c1 (v1.getD v3.toNat zero1)) (D1.c2 (v1.getD v3.toNat zero1)) (D1.c3 (v1.getD v3.toNat zero1)) (D1.c0 (v2.getD v3.toNat zero1)) (D1.c1 (v2.getD v3.toNat zero1)) (D1.c2 (v2.getD v3.toNat zero1)) (D1.c3 (v2.getD v3.toNat zero1)) (fun v4 =>
      bif (!v4) then
      X1 false
      else
      f18_l4 g_f34_2 k v1 v2 (IntKind.i64.wrap (v3 + 1)) X0 X1)
    else
     none
   else
    none
  else
   X0
noncomputable def f18_s {R : Type} (g_f34_2 : Nat → f34_2_T R) (k : Nat) (a0 a1 : List D1) (K : Bool → Option R) : Option R :=
 bif ((a0.length : Int) != (a1.length : Int)) then
  K false
 else
  f18_l4 g_f34_2 k a0 a1 0 (
   K true) K
noncomputable def f18_d {R : Type} (g : f18_T R) (e : Dr D R) : Dr D R := door [.list (.named 1), .list (.named 1)] [] (fun (x : (List D1 × List D1 × Unit)) (_y : (Unit)) K => g x.1 x.2.1 (fun z0 => K ⟨.bool z0, []⟩)) e
noncomputable def f34_2_o {R : Type} (g_f18 : Nat → f18_T R) (k : Nat) : Orc D R := (orcAdd 18 (f18_d (g_f18 k) noDr) (orcAdd 25 (f25_d (f25 k) noDr) noOrc))
theorem f34_2_o_ok {R : Type} (g_f18 : Nat → f18_T R) (h_f18 : ∀ (k : Nat) (e : Dr D R), FnOk Tryd.prog cx 18 e → FnOk Tryd.prog cx 18 (f18_d (g_f18 k) e)) (k : Nat) : OrcOk Tryd.prog cx (f34_2_o (R := R) g_f18 k) := (OrcOk.add (h_f18 k _ FnOk.no) (OrcOk.add (f25_ok k FnOk.no) OrcOk.no))
noncomputable def f34_2_b : Code := bodyOf Tryd.f34
noncomputable def f34_2_ann : Nat → Option LAnn := fun _key => none
noncomputable def f34_2_r {R : Type} (_g_f18 : Nat → f18_T R) (_k : Nat) : Lrc D R := noLrc
noncomputable def f18_o {R : Type} (g_f34_2 : Nat → f34_2_T R) (k : Nat) : Orc D R := (orcAdd 34 (f34_2_d (g_f34_2 k) noDr) noOrc)
theorem f18_o_ok {R : Type} (g_f34_2 : Nat → f34_2_T R) (h_f34_2 : ∀ (k : Nat) (e : Dr D R), FnOk Tryd.prog cx 34 e → FnOk Tryd.prog cx 34 (f34_2_d (g_f34_2 k) e)) (k : Nat) : OrcOk Tryd.prog cx (f18_o (R := R) g_f34_2 k) := (OrcOk.add (h_f34_2 k _ FnOk.no) OrcOk.no)
noncomputable def f18_b : Code := bodyOf Tryd.f18
noncomputable def f18_l4_a : LAnn := ⟨⟨[], [0, 1, 5], [], []⟩, exOf (some ⟨[], [4], [], []⟩) [(0, ⟨[], [], [], []⟩)]⟩
noncomputable def f18_ann : Nat → Option LAnn := fun key => bif Nat.beq key 4 then some f18_l4_a else none
noncomputable def f18_l4_b : Code := loopAt f18_b 0
noncomputable def f18_l4_g {R : Type} (g_f34_2 : Nat → f34_2_T R) (k : Nat) (x : (List D1 × List D1 × Int × Unit)) (_y : (Unit)) (K : KX R) : Option R := f18_l4 g_f34_2 k x.1 x.2.1 x.2.2.1 (K (.exit 0) [] []) (fun z0 => K (.ret) [.bool z0] [])
noncomputable def f18_l4_d {R : Type} (g_f34_2 : Nat → f34_2_T R) (k : Nat) : Lr D R := ldoor [.list (.named 1), .list (.named 1), .int .i64] [] (f18_l4_g g_f34_2 k)
noncomputable def f18_l4_r {R : Type} (_g_f34_2 : Nat → f34_2_T R) (_k : Nat) : Lrc D R := noLrc
theorem f18_l4_d_ok {R : Type} (g_f34_2 : Nat → f34_2_T R) (h_f34_2 : ∀ (k : Nat) (e : Dr D R), FnOk Tryd.prog cx 34 e → FnOk Tryd.prog cx 34 (f34_2_d (g_f34_2 k) e)) : ∀ k, LoopOk Tryd.prog cx 27 0 f18_ann (f18_l4_d (R := R) g_f34_2 k) f18_l4_b :=
  loop_ok (keep := kp) (lrc := f18_l4_r (R := R) g_f34_2) cxOk mixed (f18_o_ok g_f34_2 h_f34_2) (show f18_ann (Am.keyOf f18_l4_b) = some f18_l4_a by kernel_rfl) (L := []) (by kernel_rfl) (fun _k => trivial) (J := []) (by kernel_rfl) (fun _k => trivial) (fun _k => LrcNat.no) (fun _x _y _K => by kernel_rfl) (fun _k _x _y _K => by kernel_rfl)
noncomputable def f18_r {R : Type} (g_f34_2 : Nat → f34_2_T R) (k : Nat) : Lrc D R := (lrcAdd 4 (f18_l4_d g_f34_2 k) noLrc)
noncomputable def rec_f34_2 {R : Type} : Nat → (f34_2_T R) × (f18_T R)
  | 0 => (fun _ _ _ _ _ _ _ _ _ => none, fun _ _ _ => none)
  | k + 1 => (f34_2_s (fun _ => (rec_f34_2 (R := R) k).2) k, f18_s (fun _ => (rec_f34_2 (R := R) k).1) k)
theorem rec_f34_2_succ {R : Type} (k : Nat) : rec_f34_2 (R := R) (k + 1) = (f34_2_s (fun _ => (rec_f34_2 (R := R) k).2) k, f18_s (fun _ => (rec_f34_2 (R := R) k).1) k) := rfl
theorem rec_f34_2_ok {R : Type} : ∀ k, (∀ e : Dr D R, FnOk Tryd.prog cx 34 e → FnOk Tryd.prog cx 34 (f34_2_d (rec_f34_2 (R := R) k).1 e)) ∧ (∀ e : Dr D R, FnOk Tryd.prog cx 18 e → FnOk Tryd.prog cx 18 (f18_d (rec_f34_2 (R := R) k).2 e))
  | 0 => ⟨fun e he => he.door0 fun x y K => rfl, fun e he => he.door0 fun x y _K => rfl⟩
  | k + 1 => by
    rw [rec_f34_2_succ]
    exact ⟨fun e he => he.door fun x y => body_ok (keep := kp) (ann := f34_2_ann) (lrc := f34_2_r (R := R) (fun _ => (rec_f34_2 (R := R) k).2) k) (N := 31) (n0 := 0) (c := []) cxOk mixed (f34_2_o_ok (fun _ => (rec_f34_2 (R := R) k).2) (fun _ e he => (rec_f34_2_ok (R := R) k).2 e he) k) (body := f34_2_b) (by kernel_rfl : Tryd.prog.funcs[34]? = some Tryd.f34) (by kernel_rfl) (by kernel_rfl) (by kernel_rfl) (by kernel_rfl) (of_decide_eq_true (by kernel_rfl)) (L := []) (by kernel_rfl) trivial (J := []) (by kernel_rfl) trivial (LrcNat.no) (fun _K => by delta f34_2_s f34_2_o; generalize @f25 R = a0; revert a0; refine id ?_; intros; kernel_rfl),
      fun e he => he.door fun _x _y => body_ok (keep := kp) (ann := f18_ann) (lrc := f18_r (R := R) (fun _ => (rec_f34_2 (R := R) k).1) k) (N := 27) (n0 := 0) (c := []) cxOk mixed (f18_o_ok (fun _ => (rec_f34_2 (R := R) k).1) (fun _ e he => (rec_f34_2_ok (R := R) k).1 e he) k) (body := f18_b) (by kernel_rfl : Tryd.prog.funcs[18]? = some Tryd.f18) (by kernel_rfl) (by kernel_rfl) (by kernel_rfl) (by kernel_rfl) (of_decide_eq_true (by kernel_rfl)) (L := [f18_l4_b]) (by kernel_rfl) (⟨(f18_l4_d_ok (fun _ => (rec_f34_2 (R := R) k).1) (fun _ e he => (rec_f34_2_ok (R := R) k).1 e he) k).use (by kernel_rfl), trivial⟩) (J := []) (by kernel_rfl) trivial ((LrcNat.add (f18_l4_d_ok (fun _ => (rec_f34_2 (R := R) k).1) (fun _ e he => (rec_f34_2_ok (R := R) k).1 e he) k).2 LrcNat.no)) (fun _K => by kernel_rfl)⟩
noncomputable def f34_2 {R : Type} (k : Nat) (a0 : Int) (a1 : List Int) (a2 : List D1) (a3 : Bool) (a4 : Int) (a5 : List Int) (a6 : List D1) (a7 : Bool) (K : Bool → Option R) : Option R := (rec_f34_2 (R := R) k).1 a0 a1 a2 a3 a4 a5 a6 a7 K
theorem f34_2_ok {R : Type} (k : Nat) {e : Dr D R} (he : FnOk Tryd.prog cx 34 e) : FnOk Tryd.prog cx 34 (f34_2_d (f34_2 k) e) := (rec_f34_2_ok (R := R) k).1 e he
noncomputable def f18 {R : Type} (k : Nat) (a0 a1 : List D1) (K : Bool → Option R) : Option R := (rec_f34_2 (R := R) k).2 a0 a1 K
theorem f18_ok {R : Type} (k : Nat) {e : Dr D R} (he : FnOk Tryd.prog cx 18 e) : FnOk Tryd.prog cx 18 (f18_d (f18 k) e) := (rec_f34_2_ok (R := R) k).2 e he
theorem f34_2_step {R : Type} (k : Nat) (a0 : Int) (a1 : List Int) (a2 : List D1) (a3 : Bool) (a4 : Int) (a5 : List Int) (a6 : List D1) (a7 : Bool) (K : Bool → Option R) : f34_2 (k + 1) a0 a1 a2 a3 a4 a5 a6 a7 K = f34_2_s (fun _ => f18 (R := R) k) k a0 a1 a2 a3 a4 a5 a6 a7 K := rfl
theorem f18_step {R : Type} (k : Nat) (a0 a1 : List D1) (K : Bool → Option R) : f18 (k + 1) a0 a1 K = f18_s (fun _ => f34_2 (R := R) k) k a0 a1 K := rfl

abbrev f19_T (R : Type) : Type := List D0 → List D0 → (Bool → Option R) → Option R
/-! ## 19: diorama/dioramalaw08.eqPlaces -/
noncomputable def f19_l4 {R : Type} : Nat → List D0 → List D0 → Int → Option R → (Bool → Option R) → Option R
  | 0, _, _, _, _, _ => none
  | k + 1, v1, v2, v3, X0, X1 =>
  bif decide (v3 < (v1.length : Int)) then
   bif inb v3 v1.length then
    bif inb v3 v2.length then
     bif (!((((v1.getD v3.toNat zero0).1) == ((v2.getD v3.toNat zero0).1)) && ((((v1.getD v3.toNat zero0).2.1) == ((v2.getD v3.toNat zero0).2.1)) && ((((v1.getD v3.toNat zero0).2.2.1) == ((v2.getD v3.toNat zero0).2.2.1)) && ((((v1.getD v3.toNat zero0).2.2.2.1) == ((v2.getD v3.toNat zero0).2.2.2.1)) && ((((v1.getD v3.toNat zero0).2.2.2.2) == ((v2.getD v3.toNat zero0).2.2.2.2)) && true)))))) then
      X1 false
     else
      f19_l4 k v1 v2 (IntKind.i64.wrap (v3 + 1)) X0 X1
    else
     none
   else
    none
  else
   X0
noncomputable def f19 {R : Type} (k : Nat) (a0 a1 : List D0) (K : Bool → Option R) : Option R :=
 bif ((a0.length : Int) != (a1.length : Int)) then
  K false
 else
  f19_l4 k a0 a1 0 (
   K true) K
noncomputable def f19_d {R : Type} (g : f19_T R) (e : Dr D R) : Dr D R := door [.list (.named 0), .list (.named 0)] [] (fun (x : (List D0 × List D0 × Unit)) (_y : (Unit)) K => g x.1 x.2.1 (fun z0 => K ⟨.bool z0, []⟩)) e
noncomputable def f19_o {R : Type} (_k : Nat) : Orc D R := noOrc
theorem f19_o_ok {R : Type} (k : Nat) : OrcOk Tryd.prog cx (f19_o (R := R) k) := OrcOk.no
noncomputable def f19_b : Code := bodyOf Tryd.f19
noncomputable def f19_l4_a : LAnn := ⟨⟨[], [0, 1, 5], [], []⟩, exOf (some ⟨[], [4], [], []⟩) [(0, ⟨[], [], [], []⟩)]⟩
noncomputable def f19_ann : Nat → Option LAnn := fun key => bif Nat.beq key 4 then some f19_l4_a else none
noncomputable def f19_l4_b : Code := loopAt f19_b 0
noncomputable def f19_l4_g {R : Type} (k : Nat) (x : (List D0 × List D0 × Int × Unit)) (_y : (Unit)) (K : KX R) : Option R := f19_l4 k x.1 x.2.1 x.2.2.1 (K (.exit 0) [] []) (fun z0 => K (.ret) [.bool z0] [])
noncomputable def f19_l4_d {R : Type} (k : Nat) : Lr D R := ldoor [.list (.named 0), .list (.named 0), .int .i64] [] (f19_l4_g k)
noncomputable def f19_l4_r {R : Type} (_k : Nat) : Lrc D R := noLrc
theorem f19_l4_d_ok {R : Type} : ∀ k, LoopOk Tryd.prog cx 26 0 f19_ann (f19_l4_d (R := R) k) f19_l4_b :=
  loop_ok (keep := kp) (lrc := f19_l4_r (R := R)) cxOk mixed (f19_o_ok) (show f19_ann (Am.keyOf f19_l4_b) = some f19_l4_a by kernel_rfl) (L := []) (by kernel_rfl) (fun _k => trivial) (J := []) (by kernel_rfl) (fun _k => trivial) (fun _k => LrcNat.no) (fun _x _y _K => by kernel_rfl) (fun _k _x _y _K => by kernel_rfl)
noncomputable def f19_r {R : Type} (k : Nat) : Lrc D R := (lrcAdd 4 (f19_l4_d k) noLrc)
theorem f19_ok {R : Type} (k : Nat) {e : Dr D R} (he : FnOk Tryd.prog cx 19 e) : FnOk Tryd.prog cx 19 (f19_d (f19 k) e) :=
  he.door fun _x _y => body_ok (keep := kp) (ann := f19_ann) (lrc := f19_r (R := R) k) (N := 26) (n0 := 0) (c := []) cxOk mixed (f19_o_ok k) (body := f19_b) (by kernel_rfl : Tryd.prog.funcs[19]? = some Tryd.f19) (by kernel_rfl) (by kernel_rfl) (by kernel_rfl) (by kernel_rfl) (of_decide_eq_true (by kernel_rfl)) (L := [f19_l4_b]) (by kernel_rfl) (⟨(f19_l4_d_ok k).use (by kernel_rfl), trivial⟩) (J := []) (by kernel_rfl) trivial ((LrcNat.add (f19_l4_d_ok k).2 LrcNat.no)) (fun _K => by kernel_rfl)

abbrev f20_T (R : Type) : Type := (Bool → Option R) → Option R
/-! ## 20: diorama/dioramalaw08.awake -/
noncomputable def f20 {R : Type} (k : Nat) (K : Bool → Option R) : Option R :=
 f14 k ([0, 0, 0, 8, 102, 114, 101, 101, 0, 0, 0, 8, 116, 114, 97, 107]) (fun v1 v2 _v3 =>
  f14 k ([0, 0, 0, 9, 97, 98, 99, 100, 5]) (fun _v4 v5 v6 =>
   bif (v1 == 8) then
    bif (v2 == 42) then
     bif (v5 == 0) then
      bif ((v6.length : Int) == 1) then
      bif inb 0 v6.length then
      K (((D1.c1 (v6.getD 0 zero1)).length : Int) == 1)
      else
      none
      else
      K false
     else
      K false
    else
     K false
   else
    K false))
noncomputable def f20_d {R : Type} (g : f20_T R) (e : Dr D R) : Dr D R := door [] [] (fun (_x : (Unit)) (_y : (Unit)) K => g (fun z0 => K ⟨.bool z0, []⟩)) e
noncomputable def f20_o {R : Type} (k : Nat) : Orc D R := (orcAdd 14 (f14_d (f14 k) noDr) noOrc)
theorem f20_o_ok {R : Type} (k : Nat) : OrcOk Tryd.prog cx (f20_o (R := R) k) := (OrcOk.add (f14_ok k FnOk.no) OrcOk.no)
noncomputable def f20_b : Code := bodyOf Tryd.f20
noncomputable def f20_ann : Nat → Option LAnn := fun _key => none
noncomputable def f20_r {R : Type} (_k : Nat) : Lrc D R := noLrc
theorem f20_ok {R : Type} (k : Nat) {e : Dr D R} (he : FnOk Tryd.prog cx 20 e) : FnOk Tryd.prog cx 20 (f20_d (f20 k) e) :=
  he.door fun _x _y => body_ok (keep := kp) (ann := f20_ann) (lrc := f20_r (R := R) k) (N := 42) (n0 := 0) (c := []) cxOk mixed (f20_o_ok k) (body := f20_b) (by kernel_rfl : Tryd.prog.funcs[20]? = some Tryd.f20) (by kernel_rfl) (by kernel_rfl) (by kernel_rfl) (by kernel_rfl) (of_decide_eq_true (by kernel_rfl)) (L := []) (by kernel_rfl) trivial (J := []) (by kernel_rfl) trivial (LrcNat.no) (fun _K => by delta f20 f20_o; generalize @f14 R = a0; revert a0; refine id ?_; intros; kernel_rfl)

abbrev f3_T (R : Type) : Type := List Int → (Bool → Option R) → Option R
/-! ## 3: diorama/dioramalaw08.BoxParses -/
noncomputable def f3 {R : Type} (k : Nat) (a0 : List Int) (K : Bool → Option R) : Option R :=
 f14 k a0 (fun v1 v2 v3 =>
  f15 k a0 (fun v4 v5 v6 =>
   f16 k a0 (fun v7 v8 v9 =>
    f17 k a0 (fun v10 v11 v12 =>
     f18 k v3 v6 (fun v13 =>
      bif v13 then
      bif (v1 == v4) then
      bif (v2 == v5) then
      f19 k v9 v12 (fun v14 =>
      bif v14 then
      bif (v7 == v10) then
      bif (v8 == v11) then
      f20 k K
      else
      K false
      else
      K false
      else
      K false)
      else
      K false
      else
      K false
      else
      K false)))))
noncomputable def f3_d {R : Type} (g : f3_T R) (e : Dr D R) : Dr D R := door [.list (.int .u8)] [] (fun (x : (List Int × Unit)) (_y : (Unit)) K => g x.1 (fun z0 => K ⟨.bool z0, []⟩)) e
noncomputable def f3_o {R : Type} (k : Nat) : Orc D R := (orcAdd 20 (f20_d (f20 k) noDr) (orcAdd 19 (f19_d (f19 k) noDr) (orcAdd 18 (f18_d (f18 k) noDr) (orcAdd 17 (f17_d (f17 k) noDr) (orcAdd 16 (f16_d (f16 k) noDr) (orcAdd 15 (f15_d (f15 k) noDr) (orcAdd 14 (f14_d (f14 k) noDr) noOrc)))))))
theorem f3_o_ok {R : Type} (k : Nat) : OrcOk Tryd.prog cx (f3_o (R := R) k) := (OrcOk.add (f20_ok k FnOk.no) (OrcOk.add (f19_ok k FnOk.no) (OrcOk.add (f18_ok k FnOk.no) (OrcOk.add (f17_ok k FnOk.no) (OrcOk.add (f16_ok k FnOk.no) (OrcOk.add (f15_ok k FnOk.no) (OrcOk.add (f14_ok k FnOk.no) OrcOk.no)))))))
noncomputable def f3_b : Code := bodyOf Tryd.f3
noncomputable def f3_ann : Nat → Option LAnn := fun _key => none
noncomputable def f3_r {R : Type} (_k : Nat) : Lrc D R := noLrc
theorem f3_ok {R : Type} (k : Nat) {e : Dr D R} (he : FnOk Tryd.prog cx 3 e) : FnOk Tryd.prog cx 3 (f3_d (f3 k) e) :=
  he.door fun _x _y => body_ok (keep := kp) (ann := f3_ann) (lrc := f3_r (R := R) k) (N := 70) (n0 := 0) (c := []) cxOk mixed (f3_o_ok k) (body := f3_b) (by kernel_rfl : Tryd.prog.funcs[3]? = some Tryd.f3) (by kernel_rfl) (by kernel_rfl) (by kernel_rfl) (by kernel_rfl) (of_decide_eq_true (by kernel_rfl)) (L := []) (by kernel_rfl) trivial (J := []) (by kernel_rfl) trivial (LrcNat.no) (fun _K => by delta f3 f3_o; generalize @f14 R = a0; generalize @f15 R = a1; generalize @f16 R = a2; generalize @f17 R = a3; generalize @f18 R = a4; generalize @f19 R = a5; generalize @f20 R = a6; revert a0 a1 a2 a3 a4 a5 a6; refine id ?_; intros; kernel_rfl)

abbrev f96_T (R : Type) : Type := Int → Int → (List Int → Option R) → Option R
/-! ## 96: diorama/bits.big -/
noncomputable def f96_l3 {R : Type} : Nat → Int → Int → List Int → (List Int → Option R) → Option R
  | 0, _, _, _, _ => none
  | k + 1, v1, v2, v3, X0 =>
  bif decide (v2 ≥ 0) then
   bif inb v2 v3.length then
    f96_l3 k (shrI .u64 v1 8) (IntKind.i64.wrap (v2 - 1)) (v3.set v2.toNat (IntKind.u8.wrap (v1))) X0
   else
    none
  else
   X0 v3
noncomputable def f96 {R : Type} (k : Nat) (a0 a1 : Int) (K : List Int → Option R) : Option R :=
 bif (decide ((0 : Int) ≤ a1)) && (decide (a1 ≤ a1)) && (decide (a1 * ((1 : Nat) : Int) ≤ 140737488355328)) then
  f96_l3 k a0 (IntKind.i64.wrap (a1 - 1)) (List.replicate a1.toNat (0 : Int)) K
 else
  none
noncomputable def f96_d {R : Type} (g : f96_T R) (e : Dr D R) : Dr D R := door [.int .u64, .int .i64] [] (fun (x : (Int × Int × Unit)) (_y : (Unit)) K => g x.1 x.2.1 (fun z0 => K ⟨.own 0, [some (.row (.int .u8) z0 true)]⟩)) e
noncomputable def f96_o {R : Type} (_k : Nat) : Orc D R := noOrc
theorem f96_o_ok {R : Type} (k : Nat) : OrcOk Tryd.prog cx (f96_o (R := R) k) := OrcOk.no
noncomputable def f96_b : Code := bodyOf Tryd.f96
noncomputable def f96_l3_a : LAnn := ⟨⟨[], [0, 5, 6], [131216], []⟩, exOf (none) [(0, ⟨[], [5], [131216], []⟩)]⟩
noncomputable def f96_ann : Nat → Option LAnn := fun key => bif Nat.beq key 3 then some f96_l3_a else none
noncomputable def f96_l3_b : Code := loopAt f96_b 0
noncomputable def f96_l3_g {R : Type} (k : Nat) (x : (Int × Unit × Int × Unit)) (y : (List Int × Unit)) (K : KX R) : Option R := f96_l3 k x.1 x.2.2.1 y.1 (fun z0 => K (.exit 0) [.own 131216] [some (.row (.int .u8) z0 true)])
noncomputable def f96_l3_d {R : Type} (k : Nat) : Lr D R := ldoor [.int .u64, .own 131216, .int .i64] [some (.row (.int .u8) true)] (f96_l3_g k)
noncomputable def f96_l3_r {R : Type} (_k : Nat) : Lrc D R := noLrc
theorem f96_l3_d_ok {R : Type} : ∀ k, LoopOk Tryd.prog cx 23 0 f96_ann (f96_l3_d (R := R) k) f96_l3_b :=
  loop_ok (keep := kp) (lrc := f96_l3_r (R := R)) cxOk mixed (f96_o_ok) (show f96_ann (Am.keyOf f96_l3_b) = some f96_l3_a by kernel_rfl) (L := []) (by kernel_rfl) (fun _k => trivial) (J := []) (by kernel_rfl) (fun _k => trivial) (fun _k => LrcNat.no) (fun _x _y _K => by kernel_rfl) (fun _k _x _y _K => by kernel_rfl)
noncomputable def f96_r {R : Type} (k : Nat) : Lrc D R := (lrcAdd 3 (f96_l3_d k) noLrc)
theorem f96_ok {R : Type} (k : Nat) {e : Dr D R} (he : FnOk Tryd.prog cx 96 e) : FnOk Tryd.prog cx 96 (f96_d (f96 k) e) :=
  he.door fun _x _y => body_ok (keep := kp) (ann := f96_ann) (lrc := f96_r (R := R) k) (N := 23) (n0 := 0) (c := []) cxOk mixed (f96_o_ok k) (body := f96_b) (by kernel_rfl : Tryd.prog.funcs[96]? = some Tryd.f96) (by kernel_rfl) (by kernel_rfl) (by kernel_rfl) (by kernel_rfl) (of_decide_eq_true (by kernel_rfl)) (L := [f96_l3_b]) (by kernel_rfl) (⟨(f96_l3_d_ok k).use (by kernel_rfl), trivial⟩) (J := []) (by kernel_rfl) trivial ((LrcNat.add (f96_l3_d_ok k).2 LrcNat.no)) (fun _K => by kernel_rfl)

abbrev f80_T (R : Type) : Type := Int → Int → (Int → List Int → Option R) → Option R
/-! ## 80: diorama/bits.PutInt -/
noncomputable def f80 {R : Type} (k : Nat) (a0 a1 : Int) (K : Int → List Int → Option R) : Option R :=
 bif decide (a1 < 1) then
  K 1 ([] : List Int)
 else
  bif decide (a1 > 8) then
   K 1 ([] : List Int)
  else
   bif decide (a0 < 0) then
    K 1 ([] : List Int)
   else
    bif decide (a1 < 8) then
     bif decide ((IntKind.i64.wrap (8 * a1)) < 0) then
      none
     else
      bif decide ((shrI .i64 a0 (IntKind.i64.wrap (8 * a1))) > 0) then
      K 1 ([] : List Int)
      else
      f96 k (IntKind.u64.wrap (a0)) a1 (fun v1 =>
      K 0 v1)
    else
     f96 k (IntKind.u64.wrap (a0)) a1 (fun v2 =>
      K 0 v2)
noncomputable def f80_d {R : Type} (g : f80_T R) (e : Dr D R) : Dr D R := door [.int .i64, .int .i64] [] (fun (x : (Int × Int × Unit)) (_y : (Unit)) K => g x.1 x.2.1 (fun z0 z1 => K ⟨.tup [.own 0, .int .i64 z0], [some (.row (.int .u8) z1 true)]⟩)) e
noncomputable def f80_o {R : Type} (k : Nat) : Orc D R := (orcAdd 96 (f96_d (f96 k) noDr) noOrc)
theorem f80_o_ok {R : Type} (k : Nat) : OrcOk Tryd.prog cx (f80_o (R := R) k) := (OrcOk.add (f96_ok k FnOk.no) OrcOk.no)
noncomputable def f80_b : Code := bodyOf Tryd.f80
noncomputable def f80_ann : Nat → Option LAnn := fun _key => none
noncomputable def f80_r {R : Type} (_k : Nat) : Lrc D R := noLrc
theorem f80_ok {R : Type} (k : Nat) {e : Dr D R} (he : FnOk Tryd.prog cx 80 e) : FnOk Tryd.prog cx 80 (f80_d (f80 k) e) :=
  he.door fun _x _y => body_ok (keep := kp) (ann := f80_ann) (lrc := f80_r (R := R) k) (N := 31) (n0 := 0) (c := [(.tmp 4, .own 1099511627776 (.int .u8))]) cxOk mixed (f80_o_ok k) (body := f80_b) (by kernel_rfl : Tryd.prog.funcs[80]? = some Tryd.f80) (by kernel_rfl) (by kernel_rfl) (by kernel_rfl) (by kernel_rfl) (of_decide_eq_true (by kernel_rfl)) (L := []) (by kernel_rfl) trivial (J := []) (by kernel_rfl) trivial (LrcNat.no) (fun _K => by delta f80 f80_o; generalize @f96 R = a0; revert a0; refine id ?_; intros; kernel_rfl)

abbrev f57_T (R : Type) : Type := Int → Int → (List Int → Option R) → Option R
/-! ## 57: diorama/box.put -/
noncomputable def f57 {R : Type} (k : Nat) (a0 a1 : Int) (K : List Int → Option R) : Option R :=
 f80 k a0 a1 (fun _v1 v2 =>
  bif room 1 v2.length then
   K v2
  else
   none)
noncomputable def f57_d {R : Type} (g : f57_T R) (e : Dr D R) : Dr D R := door [.nil, .int .i64, .int .i64] [] (fun (x : (Unit × Int × Int × Unit)) (_y : (Unit)) K => g x.2.1 x.2.2.1 (fun z0 => K ⟨.own 0, [some (.row (.int .u8) z0 true)]⟩)) e
noncomputable def f57_o {R : Type} (k : Nat) : Orc D R := (orcAdd 80 (f80_d (f80 k) noDr) noOrc)
theorem f57_o_ok {R : Type} (k : Nat) : OrcOk Tryd.prog cx (f57_o (R := R) k) := (OrcOk.add (f80_ok k FnOk.no) OrcOk.no)
noncomputable def f57_b : Code := bodyOf Tryd.f57
noncomputable def f57_ann : Nat → Option LAnn := fun _key => none
noncomputable def f57_r {R : Type} (_k : Nat) : Lrc D R := noLrc
theorem f57_ok {R : Type} (k : Nat) {e : Dr D R} (he : FnOk Tryd.prog cx 57 e) : FnOk Tryd.prog cx 57 (f57_d (f57 k) e) :=
  he.door fun _x _y => body_ok (keep := kp) (ann := f57_ann) (lrc := f57_r (R := R) k) (N := 18) (n0 := 0) (c := []) cxOk mixed (f57_o_ok k) (body := f57_b) (by kernel_rfl : Tryd.prog.funcs[57]? = some Tryd.f57) (by kernel_rfl) (by kernel_rfl) (by kernel_rfl) (by kernel_rfl) (of_decide_eq_true (by kernel_rfl)) (L := []) (by kernel_rfl) trivial (J := []) (by kernel_rfl) trivial (LrcNat.no) (fun _K => by delta f57 f57_o; generalize @f80 R = a0; revert a0; refine id ?_; intros; kernel_rfl)

abbrev f57_2_T (R : Type) : Type := Int → Int → List Int → (List Int → Option R) → Option R
/-! ## 57: diorama/box.put -/
noncomputable def f57_2 {R : Type} (k : Nat) (a0 a1 : Int) (a2 : List Int) (K : List Int → Option R) : Option R :=
 f80 k a0 a1 (fun _v1 v2 =>
  bif room 1 (a2.length + v2.length) then
   K (a2 ++ v2)
  else
   none)
noncomputable def f57_2_d {R : Type} (g : f57_2_T R) (e : Dr D R) : Dr D R := door [.own 0, .int .i64, .int .i64] [.row (.int .u8) true] (fun (x : (Unit × Int × Int × Unit)) (y : (List Int × Unit)) K => g x.2.1 x.2.2.1 y.1 (fun z0 => K ⟨.own 1, [none, some (.row (.int .u8) z0 true)]⟩)) e
noncomputable def f57_2_o {R : Type} (k : Nat) : Orc D R := (orcAdd 80 (f80_d (f80 k) noDr) noOrc)
theorem f57_2_o_ok {R : Type} (k : Nat) : OrcOk Tryd.prog cx (f57_2_o (R := R) k) := (OrcOk.add (f80_ok k FnOk.no) OrcOk.no)
noncomputable def f57_2_b : Code := bodyOf Tryd.f57
noncomputable def f57_2_ann : Nat → Option LAnn := fun _key => none
noncomputable def f57_2_r {R : Type} (_k : Nat) : Lrc D R := noLrc
theorem f57_2_ok {R : Type} (k : Nat) {e : Dr D R} (he : FnOk Tryd.prog cx 57 e) : FnOk Tryd.prog cx 57 (f57_2_d (f57_2 k) e) :=
  he.door fun _x _y => body_ok (keep := kp) (ann := f57_2_ann) (lrc := f57_2_r (R := R) k) (N := 18) (n0 := 1) (c := []) cxOk mixed (f57_2_o_ok k) (body := f57_2_b) (by kernel_rfl : Tryd.prog.funcs[57]? = some Tryd.f57) (by kernel_rfl) (by kernel_rfl) (by kernel_rfl) (by kernel_rfl) (of_decide_eq_true (by kernel_rfl)) (L := []) (by kernel_rfl) trivial (J := []) (by kernel_rfl) trivial (LrcNat.no) (fun _K => by delta f57_2 f57_2_o; generalize @f80 R = a0; revert a0; refine id ?_; intros; kernel_rfl)

abbrev f51_T (R : Type) : Type := Int → List Int → Bool → (List Int → Option R) → Option R
/-! ## 51: diorama/box.headed -/
noncomputable def f51 {R : Type} (k : Nat) (a0 : Int) (a1 : List Int) (a2 : Bool) (K : List Int → Option R) : Option R :=
 bif a2 then
  f57 k 1 4 (fun v1 =>
   f57_2 k a0 4 v1 (fun v2 =>
    f57_2 k (IntKind.i64.wrap (16 + (a1.length : Int))) 8 v2 (fun v3 =>
     bif room 1 (v3.length + a1.length) then
      K (v3 ++ a1)
     else
      none)))
 else
  f57 k (IntKind.i64.wrap (8 + (a1.length : Int))) 4 (fun v4 =>
   f57_2 k a0 4 v4 (fun v5 =>
    bif room 1 (v5.length + a1.length) then
     K (v5 ++ a1)
    else
     none))
noncomputable def f51_d {R : Type} (g : f51_T R) (e : Dr D R) : Dr D R := door [.int .i64, .list (.int .u8), .bool] [] (fun (x : (Int × List Int × Bool × Unit)) (_y : (Unit)) K => g x.1 x.2.1 x.2.2.1 (fun z0 => K ⟨.own 0, [some (.row (.int .u8) z0 true)]⟩)) e
noncomputable def f51_o {R : Type} (k : Nat) : Orc D R := (orcAdd 57 (f57_2_d (f57_2 k) (f57_d (f57 k) noDr)) noOrc)
theorem f51_o_ok {R : Type} (k : Nat) : OrcOk Tryd.prog cx (f51_o (R := R) k) := (OrcOk.add (f57_2_ok k (f57_ok k FnOk.no)) OrcOk.no)
noncomputable def f51_b : Code := bodyOf Tryd.f51
noncomputable def f51_ann : Nat → Option LAnn := fun _key => none
noncomputable def f51_r {R : Type} (_k : Nat) : Lrc D R := noLrc
theorem f51_ok {R : Type} (k : Nat) {e : Dr D R} (he : FnOk Tryd.prog cx 51 e) : FnOk Tryd.prog cx 51 (f51_d (f51 k) e) :=
  he.door fun _x _y => body_ok (keep := kp) (ann := f51_ann) (lrc := f51_r (R := R) k) (N := 25) (n0 := 0) (c := []) cxOk mixed (f51_o_ok k) (body := f51_b) (by kernel_rfl : Tryd.prog.funcs[51]? = some Tryd.f51) (by kernel_rfl) (by kernel_rfl) (by kernel_rfl) (by kernel_rfl) (of_decide_eq_true (by kernel_rfl)) (L := []) (by kernel_rfl) trivial (J := []) (by kernel_rfl) trivial (LrcNat.no) (fun _K => by delta f51 f51_o; generalize @f57 R = a0; generalize @f57_2 R = a1; revert a0 a1; refine id ?_; intros; kernel_rfl)

abbrev f23_T (R : Type) : Type := Int → (Int → List Int → Option R) → Option R
/-! ## 23: diorama/box.Free -/
noncomputable def f23 {R : Type} (k : Nat) (a0 : Int) (K : Int → List Int → Option R) : Option R :=
 bif decide (a0 < 8) then
  K 1 ([] : List Int)
 else
  bif decide (a0 > 1048576) then
   K 1 ([] : List Int)
  else
   f26 k (⟨#[102, 114, 101, 101]⟩ : ByteArray) (fun v1 _v2 =>
    bif (decide ((0 : Int) ≤ (IntKind.i64.wrap (a0 - 8)))) && (decide ((IntKind.i64.wrap (a0 - 8)) ≤ (IntKind.i64.wrap (a0 - 8)))) && (decide ((IntKind.i64.wrap (a0 - 8)) * ((1 : Nat) : Int) ≤ 140737488355328)) then
     f51 k v1 (List.replicate ((IntKind.i64.wrap (a0 - 8)).toNat) (0 : Int)) false (fun v3 =>
      K 0 v3)
    else
     none)
noncomputable def f23_d {R : Type} (g : f23_T R) (e : Dr D R) : Dr D R := door [.int .i64] [] (fun (x : (Int × Unit)) (_y : (Unit)) K => g x.1 (fun z0 z1 => K ⟨.tup [.own 0, .int .i64 z0], [some (.row (.int .u8) z1 true)]⟩)) e
noncomputable def f23_o {R : Type} (k : Nat) : Orc D R := (orcAdd 51 (f51_d (f51 k) noDr) (orcAdd 26 (f26_d (f26 k) noDr) noOrc))
theorem f23_o_ok {R : Type} (k : Nat) : OrcOk Tryd.prog cx (f23_o (R := R) k) := (OrcOk.add (f51_ok k FnOk.no) (OrcOk.add (f26_ok k FnOk.no) OrcOk.no))
noncomputable def f23_b : Code := bodyOf Tryd.f23
noncomputable def f23_ann : Nat → Option LAnn := fun _key => none
noncomputable def f23_r {R : Type} (_k : Nat) : Lrc D R := noLrc
theorem f23_ok {R : Type} (k : Nat) {e : Dr D R} (he : FnOk Tryd.prog cx 23 e) : FnOk Tryd.prog cx 23 (f23_d (f23 k) e) :=
  he.door fun _x _y => body_ok (keep := kp) (ann := f23_ann) (lrc := f23_r (R := R) k) (N := 21) (n0 := 0) (c := [(.tmp 2, .own 1099511627776 (.int .u8))]) cxOk mixed (f23_o_ok k) (body := f23_b) (by kernel_rfl : Tryd.prog.funcs[23]? = some Tryd.f23) (by kernel_rfl) (by kernel_rfl) (by kernel_rfl) (by kernel_rfl) (of_decide_eq_true (by kernel_rfl)) (L := []) (by kernel_rfl) trivial (J := []) (by kernel_rfl) trivial (LrcNat.no) (fun _K => by delta f23 f23_o; generalize @f26 R = a0; generalize @f51 R = a1; revert a0 a1; refine id ?_; intros; kernel_rfl)

abbrev f28_T (R : Type) : Type := Int → (ByteArray → Int → Option R) → Option R
/-! ## 28: diorama/box.Name -/
noncomputable def f28 {R : Type} (k : Nat) (a0 : Int) (K : ByteArray → Int → Option R) : Option R :=
 bif decide (a0 < 0) then
  K (⟨#[]⟩ : ByteArray) 80
 else
  bif decide (a0 > 4294967295) then
   K (⟨#[]⟩ : ByteArray) 80
  else
   f57 k a0 4 (fun v1 =>
    f26 k (strOf v1) (fun _v2 v3 =>
     bif (v3 != 0) then
      K (⟨#[]⟩ : ByteArray) v3
     else
      K (strOf v1) 0))
noncomputable def f28_d {R : Type} (g : f28_T R) (e : Dr D R) : Dr D R := door [.int .i64] [] (fun (x : (Int × Unit)) (_y : (Unit)) K => g x.1 (fun z0 z1 => K ⟨.tup [.str z0, .int .i64 z1], []⟩)) e
noncomputable def f28_o {R : Type} (k : Nat) : Orc D R := (orcAdd 57 (f57_d (f57 k) noDr) (orcAdd 26 (f26_d (f26 k) noDr) noOrc))
theorem f28_o_ok {R : Type} (k : Nat) : OrcOk Tryd.prog cx (f28_o (R := R) k) := (OrcOk.add (f57_ok k FnOk.no) (OrcOk.add (f26_ok k FnOk.no) OrcOk.no))
noncomputable def f28_b : Code := bodyOf Tryd.f28
noncomputable def f28_ann : Nat → Option LAnn := fun _key => none
noncomputable def f28_r {R : Type} (_k : Nat) : Lrc D R := noLrc
theorem f28_ok {R : Type} (k : Nat) {e : Dr D R} (he : FnOk Tryd.prog cx 28 e) : FnOk Tryd.prog cx 28 (f28_d (f28 k) e) :=
  he.door fun _x _y => body_ok (keep := kp) (ann := f28_ann) (lrc := f28_r (R := R) k) (N := 25) (n0 := 0) (c := []) cxOk mixed (f28_o_ok k) (body := f28_b) (by kernel_rfl : Tryd.prog.funcs[28]? = some Tryd.f28) (by kernel_rfl) (by kernel_rfl) (by kernel_rfl) (by kernel_rfl) (of_decide_eq_true (by kernel_rfl)) (L := []) (by kernel_rfl) trivial (J := []) (by kernel_rfl) trivial (LrcNat.no) (fun _K => by delta f28 f28_o; generalize @f26 R = a0; generalize @f57 R = a1; revert a0 a1; refine id ?_; intros; kernel_rfl)

abbrev f30_T (R : Type) : Type := Int → (Bool → Option R) → Option R
/-! ## 30: diorama/box.IsGroup -/
noncomputable def f30 {R : Type} (k : Nat) (a0 : Int) (K : Bool → Option R) : Option R :=
 f28 k a0 (fun v1 _v2 =>
  f59 k v1 (fun _v3 v4 =>
   K v4))
noncomputable def f30_d {R : Type} (g : f30_T R) (e : Dr D R) : Dr D R := door [.int .i64] [] (fun (x : (Int × Unit)) (_y : (Unit)) K => g x.1 (fun z0 => K ⟨.bool z0, []⟩)) e
noncomputable def f30_o {R : Type} (k : Nat) : Orc D R := (orcAdd 28 (f28_d (f28 k) noDr) (orcAdd 59 (f59_d (f59 k) noDr) noOrc))
theorem f30_o_ok {R : Type} (k : Nat) : OrcOk Tryd.prog cx (f30_o (R := R) k) := (OrcOk.add (f28_ok k FnOk.no) (OrcOk.add (f59_ok k FnOk.no) OrcOk.no))
noncomputable def f30_b : Code := bodyOf Tryd.f30
noncomputable def f30_ann : Nat → Option LAnn := fun _key => none
noncomputable def f30_r {R : Type} (_k : Nat) : Lrc D R := noLrc
theorem f30_ok {R : Type} (k : Nat) {e : Dr D R} (he : FnOk Tryd.prog cx 30 e) : FnOk Tryd.prog cx 30 (f30_d (f30 k) e) :=
  he.door fun _x _y => body_ok (keep := kp) (ann := f30_ann) (lrc := f30_r (R := R) k) (N := 18) (n0 := 0) (c := []) cxOk mixed (f30_o_ok k) (body := f30_b) (by kernel_rfl : Tryd.prog.funcs[30]? = some Tryd.f30) (by kernel_rfl) (by kernel_rfl) (by kernel_rfl) (by kernel_rfl) (of_decide_eq_true (by kernel_rfl)) (L := []) (by kernel_rfl) trivial (J := []) (by kernel_rfl) trivial (LrcNat.no) (fun _K => by delta f30 f30_o; generalize @f59 R = a0; generalize @f28 R = a1; revert a0 a1; refine id ?_; intros; kernel_rfl)

abbrev f18_2_T (R : Type) : Type := (Bool → Option R) → Option R
/-! ## 18: diorama/dioramaref00.EqNodes -/
noncomputable def f18_2_l4 {R : Type} : Nat → Int → Option R → Option R
  | 0, _, _ => none
  | _k + 1, v1, X0 =>
  bif decide (v1 < 0) then
   none
  else
   X0
noncomputable def f18_2 {R : Type} (k : Nat) (K : Bool → Option R) : Option R :=
 f18_2_l4 k 0 (
  K true)
noncomputable def f18_2_d {R : Type} (g : f18_2_T R) (e : Dr D R) : Dr D R := door [.nil, .nil] [] (fun (_x : (Unit × Unit × Unit)) (_y : (Unit)) K => g (fun z0 => K ⟨.bool z0, []⟩)) e
noncomputable def f18_2_o {R : Type} (_k : Nat) : Orc D R := noOrc
theorem f18_2_o_ok {R : Type} (k : Nat) : OrcOk Tryd.prog cx (f18_2_o (R := R) k) := OrcOk.no
noncomputable def f18_2_b : Code := bodyOf Tryd.f18
noncomputable def f18_2_l4_a : LAnn := ⟨⟨[], [0, 1, 5], [], []⟩, exOf (none) [(0, ⟨[], [], [], []⟩)]⟩
noncomputable def f18_2_ann : Nat → Option LAnn := fun key => bif Nat.beq key 4 then some f18_2_l4_a else none
noncomputable def f18_2_l4_b : Code := loopAt f18_2_b 0
noncomputable def f18_2_l4_g {R : Type} (k : Nat) (x : (Unit × Unit × Int × Unit)) (_y : (Unit)) (K : KX R) : Option R := f18_2_l4 k x.2.2.1 (K (.exit 0) [] [])
noncomputable def f18_2_l4_d {R : Type} (k : Nat) : Lr D R := ldoor [.nil, .nil, .int .i64] [] (f18_2_l4_g k)
noncomputable def f18_2_l4_r {R : Type} (_k : Nat) : Lrc D R := noLrc
theorem f18_2_l4_d_ok {R : Type} : ∀ k, LoopOk Tryd.prog cx 27 0 f18_2_ann (f18_2_l4_d (R := R) k) f18_2_l4_b :=
  loop_ok (keep := kp) (lrc := f18_2_l4_r (R := R)) cxOk mixed (f18_2_o_ok) (show f18_2_ann (Am.keyOf f18_2_l4_b) = some f18_2_l4_a by kernel_rfl) (L := []) (by kernel_rfl) (fun _k => trivial) (J := []) (by kernel_rfl) (fun _k => trivial) (fun _k => LrcNat.no) (fun _x _y _K => by kernel_rfl) (fun _k _x _y _K => by kernel_rfl)
noncomputable def f18_2_r {R : Type} (k : Nat) : Lrc D R := (lrcAdd 4 (f18_2_l4_d k) noLrc)
theorem f18_2_ok {R : Type} (k : Nat) {e : Dr D R} (he : FnOk Tryd.prog cx 18 e) : FnOk Tryd.prog cx 18 (f18_2_d (f18_2 k) e) :=
  he.door fun _x _y => body_ok (keep := kp) (ann := f18_2_ann) (lrc := f18_2_r (R := R) k) (N := 27) (n0 := 0) (c := []) cxOk mixed (f18_2_o_ok k) (body := f18_2_b) (by kernel_rfl : Tryd.prog.funcs[18]? = some Tryd.f18) (by kernel_rfl) (by kernel_rfl) (by kernel_rfl) (by kernel_rfl) (of_decide_eq_true (by kernel_rfl)) (L := [f18_2_l4_b]) (by kernel_rfl) (⟨(f18_2_l4_d_ok k).use (by kernel_rfl), trivial⟩) (J := []) (by kernel_rfl) trivial ((LrcNat.add (f18_2_l4_d_ok k).2 LrcNat.no)) (fun _K => by kernel_rfl)

abbrev f34_3_T (R : Type) : Type := Int → List Int → Bool → Int → List Int → Bool → (Bool → Option R) → Option R
/-! ## 34: diorama/dioramaref00.EqNode -/
noncomputable def f34_3 {R : Type} (k : Nat) (a0 : Int) (a1 : List Int) (a2 : Bool) (a3 : Int) (a4 : List Int) (a5 : Bool) (K : Bool → Option R) : Option R :=
 bif (a0 == a3) then
  bif (a2 == a5) then
   f25 k a1 a4 (fun v1 =>
    bif v1 then
     f18_2 k K
    else
     K false)
  else
   K false
 else
  K false
noncomputable def f34_3_d {R : Type} (g : f34_3_T R) (e : Dr D R) : Dr D R := door [.agg [.int .i64, .list (.int .u8), .nil, .bool], .agg [.int .i64, .list (.int .u8), .nil, .bool]] [] (fun (x : ((Int × List Int × Unit × Bool × Unit) × (Int × List Int × Unit × Bool × Unit) × Unit)) (_y : (Unit)) K => g x.1.1 x.1.2.1 x.1.2.2.2.1 x.2.1.1 x.2.1.2.1 x.2.1.2.2.2.1 (fun z0 => K ⟨.bool z0, []⟩)) e
noncomputable def f34_3_o {R : Type} (k : Nat) : Orc D R := (orcAdd 18 (f18_2_d (f18_2 k) noDr) (orcAdd 25 (f25_d (f25 k) noDr) noOrc))
theorem f34_3_o_ok {R : Type} (k : Nat) : OrcOk Tryd.prog cx (f34_3_o (R := R) k) := (OrcOk.add (f18_2_ok k FnOk.no) (OrcOk.add (f25_ok k FnOk.no) OrcOk.no))
noncomputable def f34_3_b : Code := bodyOf Tryd.f34
noncomputable def f34_3_ann : Nat → Option LAnn := fun _key => none
noncomputable def f34_3_r {R : Type} (_k : Nat) : Lrc D R := noLrc
theorem f34_3_ok {R : Type} (k : Nat) {e : Dr D R} (he : FnOk Tryd.prog cx 34 e) : FnOk Tryd.prog cx 34 (f34_3_d (f34_3 k) e) :=
  he.door fun _x _y => body_ok (keep := kp) (ann := f34_3_ann) (lrc := f34_3_r (R := R) k) (N := 31) (n0 := 0) (c := []) cxOk mixed (f34_3_o_ok k) (body := f34_3_b) (by kernel_rfl : Tryd.prog.funcs[34]? = some Tryd.f34) (by kernel_rfl) (by kernel_rfl) (by kernel_rfl) (by kernel_rfl) (of_decide_eq_true (by kernel_rfl)) (L := []) (by kernel_rfl) trivial (J := []) (by kernel_rfl) trivial (LrcNat.no) (fun _K => by delta f34_3 f34_3_o; generalize @f25 R = a0; generalize @f18_2 R = a1; revert a0 a1; refine id ?_; intros; kernel_rfl)

abbrev f63_T (R : Type) : Type := Int → List Int → List D1 → Bool → Int → (Bool → Int → Option R) → Option R
/-! ## 63: diorama/box.Find$1 -/
noncomputable def f63 {R : Type} (_k : Nat) (a0 : Int) (_a1 : List Int) (_a2 : List D1) (_a3 : Bool) (a4 : Int) (K : Bool → Int → Option R) : Option R :=
 K (a0 == a4) a4
noncomputable def f63_d {R : Type} (g : f63_T R) (e : Dr D R) : Dr D R := door [.agg [.int .i64, .list (.int .u8), .list (.named 1), .bool], .ptr 0 0] [.box [.int .i64]] (fun (x : ((Int × List Int × List D1 × Bool × Unit) × Unit × Unit)) (y : ((Int × Unit) × Unit)) K => g x.1.1 x.1.2.1 x.1.2.2.1 x.1.2.2.2.1 y.1.1 (fun z0 z1 => K ⟨.bool z0, [some (.box [.int .i64 z1])]⟩)) e
noncomputable def f63_o {R : Type} (_k : Nat) : Orc D R := noOrc
theorem f63_o_ok {R : Type} (k : Nat) : OrcOk Tryd.prog cx (f63_o (R := R) k) := OrcOk.no
noncomputable def f63_b : Code := bodyOf Tryd.f63
noncomputable def f63_ann : Nat → Option LAnn := fun _key => none
noncomputable def f63_r {R : Type} (_k : Nat) : Lrc D R := noLrc
theorem f63_ok {R : Type} (k : Nat) {e : Dr D R} (he : FnOk Tryd.prog cx 63 e) : FnOk Tryd.prog cx 63 (f63_d (f63 k) e) :=
  he.door fun _x _y => body_ok (keep := kp) (ann := f63_ann) (lrc := f63_r (R := R) k) (N := 8) (n0 := 1) (c := []) cxOk mixed (f63_o_ok k) (body := f63_b) (by kernel_rfl : Tryd.prog.funcs[63]? = some Tryd.f63) (by kernel_rfl) (by kernel_rfl) (by kernel_rfl) (by kernel_rfl) (of_decide_eq_true (by kernel_rfl)) (L := []) (by kernel_rfl) trivial (J := []) (by kernel_rfl) trivial (LrcNat.no) (fun _K => by kernel_rfl)


end Go.Proofs.YtehmahdngjdhpaaDoor
