/- Proved: what a function's door, a table of types and a law's row need. Conditions: none. -/
import Derived.Test.YtehmahdngjdhpaaDoorMach3
import Derived.ChangeKeysEq
import Derived.Carry
import Derived.ChangeOld
import Derived.ChangeArms
import Derived.Handed
import Derived.RowKit2
import Derived.DataShut
import Derived.SizedLaws
import Derived.JoinedCond
import Derived.Deep.DeepHandedRow
import Derived.Deep.DeepWitnessRef
import Derived.Laws.Strings

set_option maxRecDepth 100000
/-! Doors: an oracle for one function, a loop's way in, for values of one shape; and what such a door needs to be sound. -/
namespace Go.Am

/-- A shape of values: what is fixed of them. -/
inductive PT where
  | int (k : IntKind) | bool | str | nilI | ifc (t : TypeId) (p : PT) | agg (l : List PT) | arr (t : Ty) | tup (l : List PT) | nil | list (t : Ty)
  | own (o : Nat) | view (o : Nat) | ptr (o off : Nat) | elem (o off : Nat) | lelem (t : Ty) (off : Nat) | nilp | fn (f : FuncId) (l : List PT) | nilf | full (t : Ty) | opt (t : Ty)

/-- What is not fixed. -/
def PT.T (D : Nat → Type) : PT → Type
  | .int _ => Int
  | .bool => Bool
  | .str => ByteArray
  | .ifc _ p => p.T D
  | .agg l => go l
  | .arr t => List (t.den D)
  | .tup l => go l
  | .list t => List (t.den D)
  | .view _ => Nat × Nat
  | .elem _ _ => Nat
  | .lelem t _ => List (t.den D) × Nat
  | .fn _ l => go l
  | .full t => List (t.den D)
  | .opt t => List (t.den D) × Bool
  | _ => Unit
  where
  go : List PT → Type
  | [] => Unit
  | p :: ps => p.T D × go ps

section
variable {D : Nat → Type} {R : Type}

def PT.give : (p : PT) → p.T D → PV D
  | .int k, n => .int k n
  | .bool, b => .bool b
  | .str, s => .str s
  | .nilI, _ => .nilI
  | .ifc t p, x => .ifc t (p.give x)
  | .agg l, x => .agg (go l x)
  | .arr t, x => .arr t x
  | .tup l, x => .tup (go l x)
  | .nil, _ => .nil
  | .list t, x => .list t x
  | .own o, _ => .own o
  | .view o, x => .view o x.1 x.2
  | .ptr o off, _ => .ptr o off
  | .elem o off, i => .elem o i off
  | .lelem t off, x => .lelem t x.1 x.2 off
  | .nilp, _ => .nilp
  | .fn f l, x => .fn f (go l x)
  | .nilf, _ => .nilf
  | .full t, x => .full t x
  | .opt t, x => .opt t x.1 x.2
  where
  go : (l : List PT) → PT.T.go D l → List (PV D)
  | [], _ => []
  | p :: ps, x => p.give x.1 :: go ps x.2

def asInt (k : IntKind) : PV D → Option Int
  | .int k' n => bif decide (k' = k) then some n else none
  | _ => none
def asBool : PV D → Option Bool
  | .bool b => some b
  | _ => none
def asStr : PV D → Option ByteArray
  | .str b => some b
  | _ => none
def asNilI : PV D → Option Unit
  | .nilI => some ()
  | _ => none
def asNil : PV D → Option Unit
  | .nil => some ()
  | _ => none
def asNilp : PV D → Option Unit
  | .nilp => some ()
  | _ => none
def asNilf : PV D → Option Unit
  | .nilf => some ()
  | _ => none
def asIfc (t : TypeId) : PV D → Option (PV D)
  | .ifc t' v => bif Nat.beq t' t then some v else none
  | _ => none
def asAgg : PV D → Option (List (PV D))
  | .agg l => some l
  | _ => none
def asTup : PV D → Option (List (PV D))
  | .tup l => some l
  | _ => none
def asFn (f : FuncId) : PV D → Option (List (PV D))
  | .fn f' l => bif Nat.beq f' f then some l else none
  | _ => none
def asArr (t : Ty) : PV D → Option (List (t.den D))
  | .arr t' xs => cast? t' t xs
  | _ => none
def asList (t : Ty) : PV D → Option (List (t.den D))
  | .list t' xs => cast? t' t xs
  | _ => none
def asFull (t : Ty) : PV D → Option (List (t.den D))
  | .full t' xs => cast? t' t xs
  | _ => none
def asOpt (t : Ty) : PV D → Option (List (t.den D) × Bool)
  | .opt t' xs b => match cast? t' t xs with
    | some ys => some (ys, b)
    | none => none
  | _ => none
def asOwn (o : Nat) : PV D → Option Unit
  | .own o' => bif Nat.beq o' o then some () else none
  | _ => none
def asView (o : Nat) : PV D → Option (Nat × Nat)
  | .view o' lo n => bif Nat.beq o' o then some (lo, n) else none
  | _ => none
def asPtr (o off : Nat) : PV D → Option Unit
  | .ptr o' off' => bif Nat.beq o' o then (bif Nat.beq off' off then some () else none) else none
  | _ => none
def asElem (o off : Nat) : PV D → Option Nat
  | .elem o' i off' => bif Nat.beq o' o then (bif Nat.beq off' off then some i else none) else none
  | _ => none
def asLelem (t : Ty) (off : Nat) : PV D → Option (List (t.den D) × Nat)
  | .lelem t' xs i off' => bif Nat.beq off' off then (match cast? t' t xs with
    | some ys => some (ys, i)
    | none => none) else none
  | _ => none

theorem bif_some {α : Type} {b : Bool} {x y : Option α} {z : α} (h : (bif b then x else y) = some z) (hy : y = none) : b = true ∧ x = some z := by
  cases b with
  | true => exact ⟨rfl, h⟩
  | false => simp [hy] at h
theorem beq_nat {a b : Nat} (h : Nat.beq a b = true) : a = b := Nat.eq_of_beq_eq_true h

theorem asInt_eq {k : IntKind} {v : PV D} {n : Int} (h : asInt k v = some n) : v = .int k n := by
  unfold asInt at h; split at h
  · obtain ⟨h1, h2⟩ := bif_some h rfl; simp at h1 h2; subst h1; subst h2; rfl
  · simp at h
theorem asBool_eq {v : PV D} {n : Bool} (h : asBool v = some n) : v = .bool n := by
  unfold asBool at h; split at h <;> simp at h; subst h; rfl
theorem asStr_eq {v : PV D} {n : ByteArray} (h : asStr v = some n) : v = .str n := by
  unfold asStr at h; split at h <;> simp at h; subst h; rfl
theorem asNilI_eq {v : PV D} {n : Unit} (h : asNilI v = some n) : v = .nilI := by
  unfold asNilI at h; split at h <;> simp at h; rfl
theorem asNil_eq {v : PV D} {n : Unit} (h : asNil v = some n) : v = .nil := by
  unfold asNil at h; split at h <;> simp at h; rfl
theorem asNilp_eq {v : PV D} {n : Unit} (h : asNilp v = some n) : v = .nilp := by
  unfold asNilp at h; split at h <;> simp at h; rfl
theorem asNilf_eq {v : PV D} {n : Unit} (h : asNilf v = some n) : v = .nilf := by
  unfold asNilf at h; split at h <;> simp at h; rfl
theorem asIfc_eq {t : TypeId} {v u : PV D} (h : asIfc t v = some u) : v = .ifc t u := by
  unfold asIfc at h; split at h
  · obtain ⟨h1, h2⟩ := bif_some h rfl; cases h2; rw [beq_nat h1]
  · simp at h
theorem asAgg_eq {v : PV D} {l : List (PV D)} (h : asAgg v = some l) : v = .agg l := by
  unfold asAgg at h; split at h <;> simp at h; subst h; rfl
theorem asTup_eq {v : PV D} {l : List (PV D)} (h : asTup v = some l) : v = .tup l := by
  unfold asTup at h; split at h <;> simp at h; subst h; rfl
theorem asFn_eq {f : FuncId} {v : PV D} {l : List (PV D)} (h : asFn f v = some l) : v = .fn f l := by
  unfold asFn at h; split at h
  · obtain ⟨h1, h2⟩ := bif_some h rfl; cases h2; rw [beq_nat h1]
  · simp at h
theorem asArr_eq {t : Ty} {v : PV D} {xs : List (t.den D)} (h : asArr t v = some xs) : v = .arr t xs := by
  unfold asArr at h; split at h
  · obtain ⟨rfl, h2⟩ := cast?_some h; cases h2; rfl
  · simp at h
theorem asList_eq {t : Ty} {v : PV D} {xs : List (t.den D)} (h : asList t v = some xs) : v = .list t xs := by
  unfold asList at h; split at h
  · obtain ⟨rfl, h2⟩ := cast?_some h; cases h2; rfl
  · simp at h
theorem asFull_eq {t : Ty} {v : PV D} {xs : List (t.den D)} (h : asFull t v = some xs) : v = .full t xs := by
  unfold asFull at h; split at h
  · obtain ⟨rfl, h2⟩ := cast?_some h; cases h2; rfl
  · simp at h
theorem asOpt_eq {t : Ty} {v : PV D} {x : List (t.den D) × Bool} (h : asOpt t v = some x) : v = .opt t x.1 x.2 := by
  unfold asOpt at h; split at h
  · split at h
    · rename_i ys hy
      obtain ⟨rfl, h3⟩ := cast?_some hy; cases h3; cases h; rfl
    · simp at h
  · simp at h
theorem asOwn_eq {o : Nat} {v : PV D} {x : Unit} (h : asOwn o v = some x) : v = .own o := by
  unfold asOwn at h; split at h
  · obtain ⟨h1, h2⟩ := bif_some h rfl; rw [beq_nat h1]
  · simp at h
theorem asView_eq {o : Nat} {v : PV D} {x : Nat × Nat} (h : asView o v = some x) : v = .view o x.1 x.2 := by
  unfold asView at h; split at h
  · obtain ⟨h1, h2⟩ := bif_some h rfl; cases h2; rw [beq_nat h1]
  · simp at h
theorem asPtr_eq {o off : Nat} {v : PV D} {x : Unit} (h : asPtr o off v = some x) : v = .ptr o off := by
  unfold asPtr at h; split at h
  · obtain ⟨h1, h2⟩ := bif_some h rfl; obtain ⟨h3, h4⟩ := bif_some h2 rfl; rw [beq_nat h1, beq_nat h3]
  · simp at h
theorem asElem_eq {o off : Nat} {v : PV D} {x : Nat} (h : asElem o off v = some x) : v = .elem o x off := by
  unfold asElem at h; split at h
  · obtain ⟨h1, h2⟩ := bif_some h rfl; obtain ⟨h3, h4⟩ := bif_some h2 rfl; cases h4; rw [beq_nat h1, beq_nat h3]
  · simp at h
theorem asLelem_eq {t : Ty} {off : Nat} {v : PV D} {x : List (t.den D) × Nat} (h : asLelem t off v = some x) : v = .lelem t x.1 x.2 off := by
  unfold asLelem at h; split at h
  · obtain ⟨h1, h2⟩ := bif_some h rfl
    split at h2
    · rename_i ys hy
      obtain ⟨rfl, h3⟩ := cast?_some hy; cases h3; cases h2; rw [beq_nat h1]
    · simp at h2
  · simp at h

def PT.take : (p : PT) → PV D → Option (p.T D)
  | .int k, v => asInt k v
  | .bool, v => asBool v
  | .str, v => asStr v
  | .nilI, v => asNilI v
  | .ifc t p, v => match asIfc t v with
    | some u => p.take u
    | none => none
  | .agg l, v => match asAgg v with
    | some vs => go l vs
    | none => none
  | .arr t, v => asArr t v
  | .tup l, v => match asTup v with
    | some vs => go l vs
    | none => none
  | .nil, v => asNil v
  | .list t, v => asList t v
  | .own o, v => asOwn o v
  | .view o, v => asView o v
  | .ptr o off, v => asPtr o off v
  | .elem o off, v => asElem o off v
  | .lelem t off, v => asLelem t off v
  | .nilp, v => asNilp v
  | .fn f l, v => match asFn f v with
    | some vs => go l vs
    | none => none
  | .nilf, v => asNilf v
  | .full t, v => asFull t v
  | .opt t, v => asOpt t v
  where
  go : (l : List PT) → List (PV D) → Option (PT.T.go D l)
  | [], [] => some ()
  | p :: ps, v :: vs => match p.take v, go ps vs with
    | some x, some y => some (x, y)
    | _, _ => none
  | _, _ => none

abbrev Ts (D : Nat → Type) (l : List PT) : Type := PT.T.go D l
abbrev gives (l : List PT) (x : Ts D l) : List (PV D) := PT.give.go l x
abbrev takes (l : List PT) (vs : List (PV D)) : Option (Ts D l) := PT.take.go l vs

mutual
theorem take_give : ∀ (p : PT) (v : PV D) (x : p.T D), p.take v = some x → v = p.give x
  | .int k, v, x, h => asInt_eq h
  | .bool, v, x, h => asBool_eq h
  | .str, v, x, h => asStr_eq h
  | .nilI, v, x, h => asNilI_eq (n := ()) h
  | .nil, v, x, h => asNil_eq (n := ()) h
  | .nilp, v, x, h => asNilp_eq (n := ()) h
  | .nilf, v, x, h => asNilf_eq (n := ()) h
  | .arr t, v, x, h => asArr_eq h
  | .list t, v, x, h => asList_eq h
  | .full t, v, x, h => asFull_eq h
  | .opt t, v, x, h => asOpt_eq h
  | .own o, v, x, h => asOwn_eq (x := ()) h
  | .view o, v, x, h => asView_eq h
  | .ptr o off, v, x, h => asPtr_eq (x := ()) h
  | .elem o off, v, x, h => asElem_eq h
  | .lelem t off, v, x, h => asLelem_eq h
  | .ifc t p, v, x, h => by
    unfold PT.take at h; split at h
    · rename_i u hu
      rw [asIfc_eq hu, take_give p u x h]; rfl
    · simp at h
  | .agg l, v, x, h => by
    unfold PT.take at h; split at h
    · rename_i u hu
      rw [asAgg_eq hu, takes_gives l u x h]; rfl
    · simp at h
  | .tup l, v, x, h => by
    unfold PT.take at h; split at h
    · rename_i u hu
      rw [asTup_eq hu, takes_gives l u x h]; rfl
    · simp at h
  | .fn f l, v, x, h => by
    unfold PT.take at h; split at h
    · rename_i u hu
      rw [asFn_eq hu, takes_gives l u x h]; rfl
    · simp at h
theorem takes_gives : ∀ (l : List PT) (vs : List (PV D)) (x : PT.T.go D l), PT.take.go l vs = some x → vs = PT.give.go l x
  | [], [], x, h => rfl
  | [], _ :: _, x, h => by simp [PT.take.go] at h
  | _ :: _, [], x, h => by simp [PT.take.go] at h
  | p :: ps, v :: vs, x, h => by
    simp only [PT.take.go] at h
    split at h
    · rename_i a b ha hb
      cases h
      rw [take_give p v _ ha, takes_gives ps vs _ hb]; rfl
    · simp at h
end

/-- A shape of objects. -/
inductive PO where
  | box (l : List PT) | row (t : Ty) (live : Bool)

def PO.T (D : Nat → Type) : PO → Type
  | .box l => Ts D l
  | .row t _ => List (t.den D)
def PO.give : (p : PO) → p.T D → Obj D
  | .box l, x => .box (gives l x)
  | .row t b, x => .row t x b
def asBox : Obj D → Option (List (PV D))
  | .box l => some l
  | _ => none
def asRow (t : Ty) (b : Bool) : Obj D → Option (List (t.den D))
  | .row t' xs b' => bif b' == b then cast? t' t xs else none
  | _ => none
theorem asBox_eq {v : Obj D} {l : List (PV D)} (h : asBox v = some l) : v = .box l := by
  unfold asBox at h; split at h <;> simp at h; subst h; rfl
theorem asRow_eq {t : Ty} {b : Bool} {v : Obj D} {xs : List (t.den D)} (h : asRow t b v = some xs) : v = .row t xs b := by
  unfold asRow at h; split at h
  · obtain ⟨h1, h2⟩ := bif_some h rfl
    obtain ⟨rfl, h2⟩ := cast?_some h2; cases h2; simp at h1; subst h1; rfl
  · simp at h
def PO.take : (p : PO) → Obj D → Option (p.T D)
  | .box l, v => match asBox v with
    | some vs => takes l vs
    | none => none
  | .row t b, v => asRow t b v
theorem takeO_give : ∀ (p : PO) (v : Obj D) (x : p.T D), p.take v = some x → v = p.give x
  | .box l, v, x, h => by
    simp only [PO.take] at h; split at h
    · rename_i u hu
      rw [asBox_eq hu, takes_gives l u x h]; rfl
    · simp at h
  | .row t b, v, x, h => asRow_eq h

def TOs (D : Nat → Type) : List PO → Type
  | [] => Unit
  | p :: ps => p.T D × TOs D ps
def giveOs : (l : List PO) → TOs D l → List (Obj D)
  | [], _ => []
  | p :: ps, x => p.give x.1 :: giveOs ps x.2
def takeOs : (l : List PO) → List (Obj D) → Option (TOs D l)
  | [], [] => some ()
  | p :: ps, v :: vs => match p.take v, takeOs ps vs with
    | some x, some y => some (x, y)
    | _, _ => none
  | _, _ => none
theorem takeOs_give : ∀ (l : List PO) (vs : List (Obj D)) (x : TOs D l), takeOs l vs = some x → vs = giveOs l x
  | [], [], x, h => rfl
  | [], _ :: _, x, h => by simp [takeOs] at h
  | _ :: _, [], x, h => by simp [takeOs] at h
  | p :: ps, v :: vs, x, h => by
    simp only [takeOs] at h
    split at h
    · rename_i a b ha hb
      cases h
      rw [takeO_give p v _ ha, takeOs_give ps vs _ hb]; rfl
    · simp at h

/-- Objects that may be gone. -/
def TG (D : Nat → Type) : Option PO → Type
  | some p => p.T D
  | none => Unit
def giveG : (p : Option PO) → TG D p → Option (Obj D)
  | some p, x => some (p.give x)
  | none, _ => none
def takeG : (p : Option PO) → Option (Obj D) → Option (TG D p)
  | some p, v => match v with
    | some v => p.take v
    | none => none
  | none, v => match v with
    | some _ => none
    | none => some ()
theorem takeG_give : ∀ (p : Option PO) (v : Option (Obj D)) (x : TG D p), takeG p v = some x → v = giveG p x
  | some p, v, x, h => by
    simp only [takeG] at h; split at h
    · rw [takeO_give p _ x h]; rfl
    · simp at h
  | none, v, x, h => by
    simp only [takeG] at h; split at h
    · simp at h
    · rfl
def TGs (D : Nat → Type) : List (Option PO) → Type
  | [] => Unit
  | p :: ps => TG D p × TGs D ps
def giveGs : (l : List (Option PO)) → TGs D l → List (Option (Obj D))
  | [], _ => []
  | p :: ps, x => giveG p x.1 :: giveGs ps x.2
def takeGs : (l : List (Option PO)) → List (Option (Obj D)) → Option (TGs D l)
  | [], [] => some ()
  | p :: ps, v :: vs => match takeG p v, takeGs ps vs with
    | some x, some y => some (x, y)
    | _, _ => none
  | _, _ => none
theorem takeGs_give : ∀ (l : List (Option PO)) (vs : List (Option (Obj D))) (x : TGs D l), takeGs l vs = some x → vs = giveGs l x
  | [], [], x, h => rfl
  | [], _ :: _, x, h => by simp [takeGs] at h
  | _ :: _, [], x, h => by simp [takeGs] at h
  | p :: ps, v :: vs, x, h => by
    simp only [takeGs] at h
    split at h
    · rename_i a b ha hb
      cases h
      rw [takeG_give p v _ ha, takeGs_give ps vs _ hb]; rfl
    · simp at h
end

section
variable {D : Nat → Type} {R : Type} {cx : Cx D} {orc : Orc D R} {lrc : Lrc D R} {ann : Nat → Option LAnn} {keep : FuncId → List Bool} {N n0 : Nat} {P : Program}

/-! ### Functions -/
abbrev Dr (D : Nat → Type) (R : Type) := List (PV D) → List (Obj D) → (RV D → Option R) → Option R

def FnOk (P : Program) (cx : Cx D) (f : FuncId) (c : Dr D R) : Prop :=
  (∀ args os K r, c args os K = some r → Owes P cx f args os K r) ∧ ∀ args os, Nat1 (c args os)

def noDr : Dr D R := fun _ _ _ => none
theorem FnOk.no {f : FuncId} : FnOk P cx f (noDr : Dr D R) := ⟨fun _ _ _ _ h => by simp [noDr] at h, fun _ _ => .none⟩

def door (sh : List PT) (osh : List PO) (F : Ts D sh → TOs D osh → (RV D → Option R) → Option R) (e : Dr D R) : Dr D R := fun args os K =>
  match takes sh args, takeOs osh os with
  | some x, some y => F x y K
  | _, _ => e args os K

theorem FnOk.door {f : FuncId} {sh : List PT} {osh : List PO} {F : Ts D sh → TOs D osh → (RV D → Option R) → Option R} {e : Dr D R} (he : FnOk P cx f e)
    (h : ∀ x y, (∀ K r, F x y K = some r → Owes P cx f (gives sh x) (giveOs osh y) K r) ∧ Nat1 (F x y)) : FnOk P cx f (door sh osh F e) := by
  constructor
  · intro args os K r hr
    unfold Am.door at hr
    split at hr
    · rename_i x y hx hy
      rw [takes_gives _ _ _ hx, takeOs_give _ _ _ hy]
      exact (h x y).1 K r hr
    · exact he.1 args os K r hr
  · intro args os
    unfold Am.door
    split
    · rename_i x y hx hy
      exact (h x y).2
    · exact he.2 args os

theorem FnOk.door0 {f : FuncId} {sh : List PT} {osh : List PO} {F : Ts D sh → TOs D osh → (RV D → Option R) → Option R} {e : Dr D R} (he : FnOk P cx f e) (h : ∀ x y K, F x y K = none) : FnOk P cx f (Am.door sh osh F e) :=
  he.door fun x y => ⟨fun K r hr => by simp [h] at hr, .inl (h x y)⟩

/-- An oracle of several functions. -/
def OrcOk (P : Program) (cx : Cx D) (orc : Orc D R) : Prop := OrcSound P cx orc ∧ ∀ f args os, Nat1 (orc f args os)
def noOrc : Orc D R := fun _ _ _ _ => none
def orcAdd (f : FuncId) (c : Dr D R) (o : Orc D R) : Orc D R := fun g args os K => bif Nat.beq g f then c args os K else o g args os K
theorem OrcOk.no : OrcOk P cx (noOrc : Orc D R) := ⟨fun _ _ _ _ _ h => by simp [noOrc] at h, fun _ _ _ => .none⟩
theorem OrcOk.add {f : FuncId} {c : Dr D R} {o : Orc D R} (h : FnOk P cx f c) (ho : OrcOk P cx o) : OrcOk P cx (orcAdd f c o) := by
  constructor
  · intro g args os K r hr
    unfold orcAdd at hr
    cases hg : Nat.beq g f with
    | true => rw [hg] at hr; rw [beq_nat hg]; exact h.1 _ _ _ _ hr
    | false => rw [hg] at hr; exact ho.1 _ _ _ _ _ hr
  · intro g args os
    unfold orcAdd
    cases hg : Nat.beq g f with
    | true => exact h.2 args os
    | false => exact ho.2 g args os

/-! ### Loops -/
def AllL {α : Type} (Q : α → Prop) : List α → Prop
  | [] => True
  | a :: l => Q a ∧ AllL Q l
theorem AllL.mem {α : Type} {Q : α → Prop} : ∀ {l : List α}, AllL Q l → ∀ a ∈ l, Q a
  | [], _, _, h => by simp at h
  | b :: l, ⟨h1, h2⟩, a, h => by
    rcases List.mem_cons.1 h with rfl | h
    · exact h1
    · exact AllL.mem h2 a h

abbrev Lr (D : Nat → Type) (R : Type) := List (PV D) → List (Option (Obj D)) → (Ex → List (PV D) → List (Option (Obj D)) → Option R) → Option R

def LoopOk (P : Program) (cx : Cx D) (N n0 : Nat) (ann : Nat → Option LAnn) (lr : Lr D R) (b : Code) : Prop :=
  (∃ n, LSound P cx N n0 ann lr b n) ∧ ∀ vs os, NatL (lr vs os)

def ldoor (sh : List PT) (osh : List (Option PO)) (G : Ts D sh → TGs D osh → (Ex → List (PV D) → List (Option (Obj D)) → Option R) → Option R) : Lr D R := fun vs os K =>
  match takes sh vs, takeGs osh os with
  | some x, some y => G x y K
  | _, _ => none

def noLrc : Lrc D R := fun _ _ _ _ => none
def lrcAdd (k : Nat) (l : Lr D R) (o : Lrc D R) : Lrc D R := fun key vs os K => bif Nat.beq key k then l vs os K else o key vs os K
def LrcNat (lrc : Lrc D R) : Prop := ∀ key vs os, NatL (lrc key vs os)
theorem LrcNat.no : LrcNat (noLrc : Lrc D R) := fun _ _ _ => .inl fun _ => rfl
theorem LrcNat.add {k : Nat} {l : Lr D R} {o : Lrc D R} (h : ∀ vs os, NatL (l vs os)) (ho : LrcNat o) : LrcNat (lrcAdd k l o) := by
  intro key vs os
  unfold lrcAdd
  cases Nat.beq key k with
  | true => exact h vs os
  | false => exact ho key vs os

def JoinOk (P : Program) (cx : Cx D) (N n0 : Nat) (ann : Nat → Option LAnn) (lr : Lr D R) (b : Code) : Prop :=
  JSound P cx N n0 ann lr b ∧ ∀ vs os, NatL (lr vs os)
theorem JoinOk.use {lr : Lr D R} {b : Code} (h : JoinOk P cx N n0 ann lr b) (e : lrc (keyOf b + 1000000) = lr) : JSound P cx N n0 ann (lrc (keyOf b + 1000000)) b := by
  rw [e]; exact h.1
theorem LoopOk.use {lr : Lr D R} {b : Code} (h : LoopOk P cx N n0 ann lr b) (e : lrc (keyOf b) = lr) : ∃ n, LSound P cx N n0 ann (lrc (keyOf b)) b n := by
  rw [e]; exact h.1

theorem loop_ok (ok : CxOk cx P) (hmix : P.follows .mixedOrders = true) {orc : Nat → Orc D R} {lrc : Nat → Lrc D R} (horc : ∀ k, OrcOk P cx (orc k)) {b : Code} {l : LAnn} (hann : ann (keyOf b) = some l)
    {L : List Code} (hL : loopsOf b = L) (hl : ∀ k, AllL (fun b' => ∃ n, LSound P cx N n0 ann (lrc k (keyOf b')) b' n) L) {J : List Code} (hJ : joinsOf ann b = J) (hj : ∀ k, AllL (fun b' => JSound P cx N n0 ann (lrc k (keyOf b' + 1000000)) b') J) (hnat : ∀ k, LrcNat (lrc k))
    {sh : List PT} {osh : List (Option PO)} {G : Nat → Ts D sh → TGs D osh → (Ex → List (PV D) → List (Option (Obj D)) → Option R) → Option R} (h0 : ∀ x y K, G 0 x y K = none)
    (hs : ∀ k x y K, G (k + 1) x y K = round cx (orc k) (lrc k) ann keep N n0 l b (gives sh x) (giveGs osh y) (fun vs os => ldoor sh osh (G k) vs os K) K) : ∀ k, LoopOk P cx N n0 ann (ldoor sh osh (G k)) b := by
  intro k
  induction k with
  | zero =>
    have hz : ∀ vs os K, ldoor sh osh (G 0) vs os K = none := by
      intro vs os K
      unfold ldoor
      split
      · exact h0 _ _ _
      · rfl
    exact ⟨⟨0, LSound.zero hz⟩, fun vs os => .inl (hz vs os)⟩
  | succ k ih =>
    obtain ⟨⟨n, hn⟩, hN⟩ := ih
    constructor
    · refine ⟨n + 1, round_sound (keep := keep) ok (horc k).1 (horc k).2 hmix hann (fun b' hb' => (hl k).mem b' (hL ▸ hb')) (joins_all fun b' hb' => (hj k).mem b' (hJ ▸ hb')) hn fun vs os K r hr => ?_⟩
      unfold ldoor at hr
      split at hr
      · rename_i x y hx hy
        rw [takes_gives _ _ _ hx, takeGs_give _ _ _ hy, ← hs]
        exact hr
      · simp at hr
    · intro vs os
      unfold ldoor
      split
      · rename_i x y hx hy
        have := round_nat (keep := keep) (N := N) (n0 := n0) (ann := ann) ok (horc k).2 (hnat k) hN l b (gives sh x) (giveGs osh y)
        have e : G (k + 1) x y = fun K => round cx (orc k) (lrc k) ann keep N n0 l b (gives sh x) (giveGs osh y) (fun vs os => ldoor sh osh (G k) vs os K) K := by
          funext K; exact hs k x y K
        rw [e]; exact this
      · exact .inl fun _ => rfl

theorem join_ok (ok : CxOk cx P) (hmix : P.follows .mixedOrders = true) (horc : OrcOk P cx orc) {b : Code} {l : LAnn} (hann : ann (keyOf b + 1000000) = some l)
    {L : List Code} (hL : loopsOf b = L) (hl : AllL (fun b' => ∃ n, LSound P cx N n0 ann (lrc (keyOf b')) b' n) L) {J : List Code} (hJ : joinsOf ann b = J) (hj : AllL (fun b' => JSound P cx N n0 ann (lrc (keyOf b' + 1000000)) b') J) (hnat : LrcNat lrc)
    {sh : List PT} {osh : List (Option PO)} {G : Ts D sh → TGs D osh → (Ex → List (PV D) → List (Option (Obj D)) → Option R) → Option R}
    (hs : ∀ x y K, G x y K = tailR cx orc lrc ann keep N n0 l b (gives sh x) (giveGs osh y) K) : JoinOk P cx N n0 ann (ldoor sh osh G) b := by
  constructor
  · refine tail_sound (keep := keep) ok horc.1 horc.2 hmix hann (fun b' hb' => hl.mem b' (hL ▸ hb')) (joins_all fun b' hb' => hj.mem b' (hJ ▸ hb')) fun vs os K r hr => ?_
    unfold ldoor at hr
    split at hr
    · rename_i x y hx hy
      rw [takes_gives _ _ _ hx, takeGs_give _ _ _ hy, ← hs]
      exact hr
    · simp at hr
  · intro vs os
    unfold ldoor
    split
    · rename_i x y hx hy
      have := tail_nat (keep := keep) (N := N) (n0 := n0) (ann := ann) ok horc.2 hnat l b (gives sh x) (giveGs osh y)
      have e : G x y = fun K => tailR cx orc lrc ann keep N n0 l b (gives sh x) (giveGs osh y) K := by
        funext K; exact hs x y K
      rw [e]; exact this
    · exact .inl fun _ => rfl

theorem body_ok (ok : CxOk cx P) (hmix : P.follows .mixedOrders = true) (horc : OrcOk P cx orc) {f : FuncId} {fn : Func} {body : Code} (hf : P.funcs[f]? = some fn) (hb : fn.body = some body) (hname : (fn.name == "runtime.NumGoroutine") = false)
    {args : List (PV D)} {os : List (Obj D)} (hN : N = fn.ntmps) (hn0 : n0 = os.length) (hN' : args.length ≤ N) {c : List (Loc × Mode)} {L : List Code} (hL : loopsOf body = L) (hl : AllL (fun b' => ∃ n, LSound P cx N n0 ann (lrc (keyOf b')) b' n) L) {J : List Code} (hJ : joinsOf ann body = J) (hj : AllL (fun b' => JSound P cx N n0 ann (lrc (keyOf b' + 1000000)) b') J) (hnat : LrcNat lrc)
    {G : (RV D → Option R) → Option R} (h : ∀ K, G K = exec cx orc lrc ann keep N n0 body (entry args os) (fin cx fn.results.toList c n0 K)) :
    (∀ K r, G K = some r → Owes P cx f args os K r) ∧ Nat1 G := by
  subst hN; subst hn0
  constructor
  · intro K r hr
    rw [h] at hr
    exact func_sound ok horc.1 horc.2 hmix hf hb hname hN' (fun b' hb' => hl.mem b' (hL ▸ hb')) (joins_all fun b' hb' => hj.mem b' (hJ ▸ hb')) hr
  · have := func_nat (keep := keep) (N := fn.ntmps) (n0 := os.length) (ann := ann) ok horc.2 hnat body (entry args os) fn.results.toList c os.length
    have e : G = fun K => exec cx orc lrc ann keep fn.ntmps os.length body (entry args os) (fin cx fn.results.toList c os.length K) := by
      funext K; exact h K
    rw [e]; exact this

/-- A function that asks whether a list is nil: it does as well on either. -/
theorem Owes.split {f : FuncId} {t : Ty} {xs : List (t.den D)} {K : RV D → Option R} {r : R} (h1 : xs = [] → Owes P cx f [.nil] [] K r) (h2 : Owes P cx f [.full t xs] [] K r) : Owes P cx f [.list t xs] [] K r := by
  intro β F w vals hp hr hn hn'
  match vals, hr with
  | [v], hr =>
    simp only [PReps, PRep, and_true] at hr
    have main : (v = .slice none 0 0 ∧ xs = []) ∨ ∃ a n c, v = .slice (some a) n c := by
      generalize hz : IV.list (sz cx t) (xs.map (deep cx t)) = z at hr
      cases hr with
      | nil => simp at hz; exact .inl ⟨rfl, hz.2⟩
      | list => exact .inr ⟨_, _, _, rfl⟩
      | _ => simp at hz
    rcases main with ⟨rfl, hx⟩ | hv
    · refine h1 hx β F w _ hp ?_ ?_ hn'
      · simp [PReps, PRep]
      · simp [names.go, names]
    · refine h2 β F w _ hp ?_ ?_ hn'
      · simp only [PReps, PRep, and_true]; exact ⟨hv, hr⟩
      · simp [names.go, names]
theorem split_ok {f : FuncId} {t : Ty} {xs : List (t.den D)} {F : (RV D → Option R) → Option R} (h2 : ∀ K r, F K = some r → Owes P cx f [.full t xs] [] K r) (h1 : xs = [] → ∀ K r, F K = some r → Owes P cx f [.nil] [] K r) (hn : Nat1 F) :
    (∀ K r, F K = some r → Owes P cx f [.list t xs] [] K r) ∧ Nat1 F :=
  ⟨fun K r h => .split (fun hx => h1 hx K r h) (h2 K r h), hn⟩
end
end Go.Am

/-! The table of types, and named types by their fields: what a context is made of, and that it is sound. -/
namespace Go.Am
section
variable {D : Nat → Type} {R : Type} {cx : Cx D} {P : Program}

def look {α : Type} : List (Nat × α) → Nat → Option α
  | [], _ => none
  | p :: l, T => bif Nat.beq T p.1 then some p.2 else look l T

theorem look_mem {α : Type} : ∀ {l : List (Nat × α)} {T : Nat} {a : α}, look l T = some a → (T, a) ∈ l
  | [], _, _, h => by simp [look] at h
  | p :: l, T, a, h => by
    unfold look at h
    cases hp : Nat.beq T p.1 with
    | true => rw [hp] at h; simp at h; subst h; rw [beq_nat hp]; simp
    | false => rw [hp] at h; exact List.mem_cons_of_mem _ (look_mem h)

def all2b {α β : Type} (f : α → β → Bool) : List α → List β → Bool
  | [], [] => true
  | a :: l, b :: m => f a b && all2b f l m
  | _, _ => false
theorem all2b_sound {α β : Type} {f : α → β → Bool} {Q : α → β → Prop} (hf : ∀ a b, f a b = true → Q a b) : ∀ {l : List α} {m : List β}, all2b f l m = true → All2 Q l m
  | [], [], _ => .nil
  | [], _ :: _, h => by simp [all2b] at h
  | _ :: _, [], h => by simp [all2b] at h
  | a :: l, b :: m, h => by
    simp only [all2b, Bool.and_eq_true] at h
    exact .cons (hf a b h.1) (all2b_sound hf h.2)

def bigB : TypeDesc → Bool
  | .struct _ | .array _ _ => true
  | _ => false

def fieldChk (P : Program) (f : Nat × Nat × Bool) (g : Field) : Bool :=
  Nat.beq g.offset f.1 && Nat.blt 0 f.2.1 && (match P.info? g.type with
    | some i => Nat.beq i.size f.2.1
    | none => false) && (match P.underlying g.type with
    | some d => bigB d == f.2.2
    | none => false)

def descChk (P : Program) : TD → TypeDesc → Bool
  | .int k, .int k' => decide (k' = k)
  | .bool, .bool => true
  | .str, .string => true
  | .slice e, .slice e' => Nat.beq e' e
  | .struct fs, .struct gs => all2b (fieldChk P) fs gs.toList
  | .arr n e, .array n' e' => Nat.beq n' n && Nat.beq e' e
  | .ptr e, .pointer e' => Nat.beq e' e
  | .iface, .interface _ => true
  | .func, .func _ _ _ => true
  | .tuple, .tuple _ => true
  | _, _ => false

theorem fieldChk_sound {f : Nat × Nat × Bool} {g : Field} (h : fieldChk P f g = true) : FieldOk cx P f g := by
  unfold fieldChk at h
  simp only [Bool.and_eq_true] at h
  obtain ⟨⟨⟨h1, h2⟩, h3⟩, h4⟩ := h
  refine ⟨beq_nat h1, Nat.le_of_ble_eq_true h2, ?_, ?_⟩
  · split at h3
    · rename_i i hi; exact ⟨i, hi, beq_nat h3⟩
    · simp at h3
  · split at h4
    · rename_i d hd
      refine ⟨d, hd, ?_⟩
      have : bigB d = f.2.2 := by simpa using h4
      rw [← this]; cases d <;> rfl
    · simp at h4

theorem descChk_sound {t : TD} {d : TypeDesc} (h : descChk P t d = true) : DescOk cx P t d := by
  unfold descChk at h
  split at h
  · simpa [DescOk] using h
  · rfl
  · rfl
  · simp only [DescOk]; rw [beq_nat h]
  · exact ⟨_, rfl, all2b_sound (fun _ _ => fieldChk_sound) h⟩
  · simp only [Bool.and_eq_true] at h; simp only [DescOk]; rw [beq_nat h.1, beq_nat h.2]
  · simp only [DescOk]; rw [beq_nat h]
  · exact ⟨_, rfl⟩
  · exact ⟨_, _, _, rfl⟩
  · exact ⟨_, rfl⟩
  · simp at h

def emptyB (s : ByteArray) : Bool := s.data.toList.isEmpty
theorem emptyB_eq {s t : ByteArray} (h : emptyB s = true) (k : emptyB t = true) : s = t := by
  have : ∀ s : ByteArray, emptyB s = true → s = ⟨#[]⟩ := by
    rintro ⟨⟨l⟩⟩ h
    cases l with
    | nil => rfl
    | cons => simp [emptyB] at h
  rw [this s h, this t k]

def leafPV : PV D → Value → Bool
  | .int k n, .int k' n' => decide (k' = k) && decide (n' = n)
  | .bool b, .bool b' => b' == b
  | .str s, .string s' => emptyB s && emptyB s'
  | .nil, .slice none 0 0 => true
  | .nilI, .nilIface => true
  | .nilp, .pointer none => true
  | .nilf, .nilFunc => true
  | _, _ => false
theorem leafPV_sound {S : Nat → Option Sh} {β : Beta} {F : Nat → Prop} {w : World} {p : PV D} {v : Value} (h : leafPV p v = true) : PRep cx S β F w p v := by
  unfold leafPV at h
  split at h <;> first | (simp at h; done) | skip
  · simp at h; simp only [PRep]; rw [h.1, h.2]
  · simp at h; simp only [PRep]; rw [h]
  · simp at h; simp only [PRep]; rw [emptyB_eq h.1 h.2]
  all_goals simp [PRep]

def leafIV : Value → IV → Bool
  | .int k n, .int k' n' => decide (k' = k) && decide (n' = n)
  | .bool b, .bool b' => b' == b
  | .string s, .str s' => emptyB s && emptyB s'
  | .slice none 0 0, .list _ [] => true
  | _, _ => false
theorem leafIV_sound {F : Nat → Prop} {w : World} {v : Value} {x : IV} (h : leafIV v x = true) : Rep F w v x := by
  unfold leafIV at h
  split at h <;> first | (simp at h; done) | skip
  · simp at h; rw [h.1, h.2]; exact .int
  · simp at h; rw [h]; exact .bool
  · simp at h; rw [emptyB_eq h.1 h.2]; exact .str
  · exact .nil

/-! ### Structs that are compared -/
def eqKind (P : Program) (T : TypeId) : PV D → Bool
  | .int _ _ => match P.underlying T with
    | some (.int _) => true
    | _ => false
  | .bool _ => match P.underlying T with
    | some .bool => true
    | _ => false
  | .str _ => match P.underlying T with
    | some .string => true
    | _ => false
  | _ => false
def eqFieldsChk (P : Program) : Nat → List Field → List (PV D) → Bool
  | _, [], [] => true
  | k, f :: fs, z :: zs => f.name != "_" && Nat.beq f.offset k && eqKind P f.type z && eqFieldsChk P (k + 1) fs zs
  | _, _, _ => false
def eqChk (P : Program) (T : TypeId) (zs : List (PV D)) : Bool := match P.underlying T with
  | some (.struct fs) => !P.stoodInHeld T && !P.eqGuardType P.depth T && eqFieldsChk P 0 fs.toList zs
  | _ => false

theorem eqFields_run (d : Nat) (xs ys : Array Value) (w : World) {S : Nat → Option Sh} {β : Beta} {F : Nat → Prop} : ∀ (fs : List Field) (k : Nat) (zs cs ds : List (PV D)) (r : Bool), eqFieldsChk P k fs zs = true → likeZ zs cs = true → eqCells cs ds = some r →
    PReps cx S β F w cs (xs.toList.drop k) → PReps cx S β F w ds (ys.toList.drop k) → (Op.eqFields (d + 1) xs ys fs).run P w = .ok r w
  | [], k, [], cs, ds, r, _, hz, he, _, _ => by
    cases cs with
    | nil =>
      cases ds with
      | nil => simp [eqCells] at he; subst he; rfl
      | cons => simp [eqCells] at he
    | cons => simp [likeZ] at hz
  | [], k, _ :: _, cs, ds, r, h, _, _, _, _ => by simp [eqFieldsChk] at h
  | _ :: _, k, [], cs, ds, r, h, _, _, _, _ => by simp [eqFieldsChk] at h
  | f :: fs, k, z :: zs, [], ds, r, _, hz, _, _, _ => by cases z <;> simp [likeZ] at hz
  | f :: fs, k, z :: zs, c :: cs, [], r, _, _, he, _, _ => by cases c <;> simp [eqCells] at he
  | f :: fs, k, z :: zs, c :: cs, e :: ds, r, h, hz, he, hx, hy => by
    simp only [eqFieldsChk, Bool.and_eq_true] at h
    obtain ⟨⟨⟨h1, h2⟩, h3⟩, h4⟩ := h
    have h2 := beq_nat h2
    have hd : ∀ (zs : Array Value) (p : PV D) (ps : List (PV D)), PReps cx S β F w (p :: ps) (zs.toList.drop k) → ∃ v, zs[k]? = some v ∧ PRep cx S β F w p v ∧ PReps cx S β F w ps (zs.toList.drop (k + 1)) := by
      intro zs p ps hz
      cases hq : zs.toList.drop k with
      | nil => rw [hq] at hz; simp [PReps] at hz
      | cons v vs =>
        rw [hq] at hz
        obtain ⟨z1, z2⟩ := hz
        have h5 : zs.toList[k]? = some v := by
          have := congrArg (fun l : List Value => l[0]?) hq
          simpa using this
        refine ⟨v, by simpa using h5, z1, ?_⟩
        have : zs.toList.drop (k + 1) = vs := by
          rw [← List.drop_drop, hq]; rfl
        rw [this]; exact z2
    obtain ⟨v, hv, v1, v2⟩ := hd xs c cs hx
    obtain ⟨u, hu, u1, u2⟩ := hd ys e ds hy
    have key : ∀ (b r' : Bool), P.plainKey f.type = true → (Op.equalIn (d + 1) f.type v u).run P w = .ok b w → likeZ zs cs = true → eqCells cs ds = some r' → r = (b && r') → (Op.eqFields (d + 1) xs ys (f :: fs)).run P w = .ok r w := by
      intro b r' hpk hb hz' hr' hr
      have pv : (part f.type xs f.offset).run P w = .ok v w := by rw [h2]; exact run_part_plain w hpk hv
      have pu : (part f.type ys f.offset).run P w = .ok u w := by rw [h2]; exact run_part_plain w hpk hu
      have ih := eqFields_run d xs ys w fs (k + 1) zs cs ds r' h4 hz' hr' v2 u2
      have hn : f.name ≠ "_" := by simpa using h1
      simp only [Op.eqFields, if_pos hn, Sem.run_bind, pv, pu, Result.andThen_ok, hb]
      cases b with
      | false => subst hr; simp
      | true => simp only [Bool.not_true, Bool.false_eq_true, if_false]; rw [ih, hr]; rfl
    unfold eqCells at he
    split at he
    · rename_i heq _; simp at heq
    · rename_i k1 a x k2 b y heq1 heq2
      simp only [List.cons.injEq] at heq1 heq2
      obtain ⟨rfl, rfl⟩ := heq1
      obtain ⟨rfl, rfl⟩ := heq2
      obtain ⟨hk, he⟩ := bif_some he rfl
      have hk : k1 = k2 := by simpa using hk
      subst hk
      split at he
      · rename_i r' hr'
        simp at he
        have v1 : v = .int k1 a := v1
        have u1 : u = .int k1 b := u1
        subst v1; subst u1
        cases z <;> simp only [likeZ, Bool.false_eq_true] at hz
        simp only [eqKind] at h3
        split at h3
        · rename_i k' hun
          exact key (a == b) r' (by unfold Program.plainKey; rw [hun]) (run_equalIn_int w d _ _ _ _ _ hun) hz hr' he.symm
        · simp at h3
      · simp at he
    · rename_i a x b y heq1 heq2
      simp only [List.cons.injEq] at heq1 heq2
      obtain ⟨rfl, rfl⟩ := heq1
      obtain ⟨rfl, rfl⟩ := heq2
      split at he
      · rename_i r' hr'
        simp at he
        have v1 : v = .bool a := v1
        have u1 : u = .bool b := u1
        subst v1; subst u1
        cases z <;> simp only [likeZ, Bool.false_eq_true] at hz
        simp only [eqKind] at h3
        split at h3
        · rename_i hun
          exact key (a == b) r' (by unfold Program.plainKey; rw [hun]) (run_equalIn_bool' w d _ _ _ hun) hz hr' he.symm
        · simp at h3
      · simp at he
    · rename_i a x b y heq1 heq2
      simp only [List.cons.injEq] at heq1 heq2
      obtain ⟨rfl, rfl⟩ := heq1
      obtain ⟨rfl, rfl⟩ := heq2
      split at he
      · rename_i r' hr'
        simp at he
        have v1 : v = .string a := v1
        have u1 : u = .string b := u1
        subst v1; subst u1
        cases z <;> simp only [likeZ, Bool.false_eq_true] at hz
        simp only [eqKind] at h3
        split at h3
        · rename_i hun
          refine key (a == b) r' (by unfold Program.plainKey; rw [hun]) ?_ hz hr' he.symm
          rw [beq_toListBytes]; exact run_equalIn_string w d _ _ _ hun
        · simp at h3
      · simp at he
    · simp at he
theorem eqChk_sound {T : TypeId} {zs : List (PV D)} (h : eqChk P T zs = true) (op : BinOp) (x y : Operand) (xs ys : Array Value) (w : World) (cs ds : List (PV D)) (r : Bool) (S : Nat → Option Sh) (β : Beta) (F : Nat → Prop) (hz : likeZ zs cs = true) (he : eqCells cs ds = some r)
    (hx : PReps cx S β F w cs xs.toList) (hy : PReps cx S β F w ds ys.toList) : (eqGuard op T x y (.agg xs) (.agg ys)).run P w = .ok () w ∧ (Op.equal T (.agg xs) (.agg ys)).run P w = .ok r w := by
  unfold eqChk at h
  split at h
  · rename_i fs hu
    simp only [Bool.and_eq_true, Bool.not_eq_true'] at h
    have hf : P.fieldsOf T = fs := by unfold Program.fieldsOf; rw [hu]
    refine ⟨run_eqGuard_agg w op T x y xs ys h.1.2, ?_⟩
    unfold Op.equal Op.maxDepth
    rw [run_equalIn_struct w 9999 T xs ys (by rw [hf]; exact hu) h.1.1, hf]
    exact eqFields_run 9998 xs ys w fs.toList 0 zs cs ds r h.2 hz he (by simpa using hx) (by simpa using hy)
  · simp at h

def tyChk (cx : Cx D) (P : Program) (T : TypeId) (ti : TI D) : Bool :=
  (!ti.eqs || eqChk P T ti.zero) && (names.go ti.zero).isEmpty && (match P.underlying T with
    | some d => descChk P ti.desc d && (bigB d == ti.agg)
    | none => false) && (match P.info? T with
    | some i => Nat.beq i.size ti.size && Nat.beq i.bytes ti.bytes && (match i.zero with
      | some z => all2b leafPV ti.zero z.cells.toList && Nat.beq z.cells.size ti.size && (ti.agg || (match z with
        | .agg _ => false
        | _ => true)) && (match ti.ty with
          | some t => Nat.beq (sz cx t) ti.size && Nat.blt 0 ti.size && Nat.blt 0 ti.bytes && all2b leafIV z.cells.toList (deep cx t (t.zero cx))
          | none => true) && (match ti.desc with
          | .arr n e => match cx.T e with
            | some te => match te.ty with
              | some t => all2b leafIV z.cells.toList ((List.replicate n (t.zero cx)).flatMap (deep cx t))
              | none => true
            | none => true
          | _ => true)
      | none => false)
    | none => false)

theorem tyChk_sound {T : TypeId} {ti : TI D} (h : tyChk cx P T ti = true) : TyOk cx P T ti := by
  unfold tyChk at h
  simp only [Bool.and_eq_true] at h
  obtain ⟨⟨⟨h1, h2⟩, h3⟩, h4⟩ := h
  have hz : names.go ti.zero = [] := by simpa using h2
  refine ⟨?_, ?_, hz, fun he => eqChk_sound (by simpa [he] using h1)⟩
  · split at h3
    · rename_i d hd
      simp only [Bool.and_eq_true] at h3
      refine ⟨d, hd, descChk_sound h3.1, ?_⟩
      have : bigB d = ti.agg := by simpa using h3.2
      rw [← this]; cases d <;> rfl
    · simp at h3
  · split at h4
    · rename_i i hi
      simp only [Bool.and_eq_true] at h4
      obtain ⟨⟨h5, h6⟩, h7⟩ := h4
      split at h7
      · rename_i z hz
        simp only [Bool.and_eq_true] at h7
        obtain ⟨⟨⟨⟨h8, h9⟩, h10⟩, h11⟩, h12⟩ := h7
        refine ⟨i, z, hi, beq_nat h5, beq_nat h6, hz, fun S β F w => (PReps_all2 ..).2 (all2b_sound (fun _ _ => leafPV_sound) h8), beq_nat h9, ?_, ?_, ?_⟩
        · rcases Bool.or_eq_true _ _ ▸ h10 with h | h
          · exact .inl h
          · right; cases z <;> simp at h <;> rfl
        · intro t ht
          rw [ht] at h11
          simp only [Bool.and_eq_true] at h11
          obtain ⟨⟨⟨a1, a2⟩, a3⟩, a4⟩ := h11
          exact ⟨beq_nat a1, Nat.le_of_ble_eq_true a2, Nat.le_of_ble_eq_true a3, fun F w => all2b_sound (fun _ _ => leafIV_sound) a4⟩
        · intro n e te t he hte ht F w
          rw [he] at h12; simp only [hte, ht] at h12
          exact all2b_sound (fun _ _ => leafIV_sound) h12
      · simp at h7
    · simp at h4

theorem tab_ok {tab : List (Nat × TI D)} (hT : cx.T = look tab) (h : tab.all (fun p => tyChk cx P p.1 p.2) = true) : ∀ T ti, cx.T T = some ti → TyOk cx P T ti := by
  intro T ti hti
  rw [hT] at hti
  have := List.all_eq_true.1 h _ (look_mem hti)
  exact tyChk_sound this

/-! ### Named types -/
/-- A value of a named type: its cells, as pairs. -/
def Tup (D : Nat → Type) : List Ty → Type
  | [] => Unit
  | [t] => t.den D
  | t :: u :: ts => t.den D × Tup D (u :: ts)

def plainT : Ty → Bool
  | .named _ => false
  | _ => true

def encTup (cx : Cx D) : (ts : List Ty) → Tup D ts → List (PV D)
  | [], _ => []
  | [t], x => encC cx t x
  | t :: u :: ts, x => encC cx t x.1 ++ encTup cx (u :: ts) x.2
def deepTup (cx : Cx D) : (ts : List Ty) → Tup D ts → List IV
  | [], _ => []
  | [t], x => deep cx t x
  | t :: u :: ts, x => deep cx t x.1 ++ deepTup cx (u :: ts) x.2
def zeroTup (cx : Cx D) : (ts : List Ty) → Tup D ts
  | [] => ()
  | [t] => t.zero cx
  | t :: u :: ts => (t.zero cx, zeroTup cx (u :: ts))
def decTup (cx : Cx D) : (ts : List Ty) → List (PV D) → Option (Tup D ts)
  | [], cs => match cs with
    | [] => some ()
    | _ => none
  | [t], cs => decC cx t cs
  | t :: u :: ts, cs => match cs with
    | c :: cs => match decC cx t [c], decTup cx (u :: ts) cs with
      | some x, some y => some (x, y)
      | _, _ => none
    | [] => none

theorem encC_deep {t : Ty} (ht : plainT t = true) (x : t.den D) : All2 (CS cx) (encC cx t x) (deep cx t x) := by
  cases t with
  | named r => simp [plainT] at ht
  | _ => simp only [encC, deep]; exact .cons rfl .nil
theorem encTup_deep : ∀ {ts : List Ty}, ts.all plainT = true → ∀ x : Tup D ts, All2 (CS cx) (encTup cx ts x) (deepTup cx ts x)
  | [], _, _ => .nil
  | [t], h, x => encC_deep (by simpa using h) x
  | t :: u :: ts, h, x => by
    simp only [List.all_cons, Bool.and_eq_true] at h
    exact .append (encC_deep h.1 x.1) (encTup_deep (by simpa using h.2) x.2)
theorem decC_deep {t : Ty} (ht : plainT t = true) {cs : List (PV D)} {x : t.den D} (h : decC cx t cs = some x) : All2 (CI cx) cs (deep cx t x) := by
  unfold decC at h
  split at h
  · obtain ⟨h1, h2⟩ := bif_some h rfl
    simp at h1 h2; subst h1; subst h2; exact .cons rfl .nil
  · simp at h; subst h; exact .cons rfl .nil
  · simp at h; subst h; exact .cons rfl .nil
  · simp at h; subst h; exact .cons ⟨_, rfl⟩ .nil
  · obtain ⟨rfl, h2⟩ := cast?_some h; subst h2; exact .cons rfl .nil
  · simp [plainT] at ht
  · simp at h
theorem decTup_deep : ∀ {ts : List Ty}, ts.all plainT = true → ∀ {cs : List (PV D)} {x : Tup D ts}, decTup cx ts cs = some x → All2 (CI cx) cs (deepTup cx ts x)
  | [], _, cs, x, h => by
    simp only [decTup] at h
    split at h
    · exact .nil
    · simp at h
  | [t], ht, cs, x, h => decC_deep (by simpa using ht) h
  | t :: u :: ts, ht, cs, x, h => by
    simp only [List.all_cons, Bool.and_eq_true] at ht
    simp only [decTup] at h
    split at h
    · rename_i c cs
      split at h
      · rename_i a b ha hb
        cases h
        exact .append (l := [c]) (decC_deep ht.1 ha) (decTup_deep (by simpa using ht.2) hb)
      · simp at h
    · simp at h
theorem deep_one {t : Ty} (ht : plainT t = true) (x : t.den D) : (deep cx t x).length = 1 := by
  cases t with
  | named r => simp [plainT] at ht
  | _ => rfl
theorem deepTup_len : ∀ {ts : List Ty}, ts.all plainT = true → ∀ x : Tup D ts, (deepTup cx ts x).length = ts.length
  | [], _, _ => rfl
  | [t], h, x => deep_one (by simpa using h) x
  | t :: u :: ts, h, x => by
    simp only [List.all_cons, Bool.and_eq_true] at h
    simp only [deepTup, List.length_append, deep_one h.1, deepTup_len (by simpa using h.2) x.2, List.length_cons]
    omega

theorem deep_flat {t : Ty} (ht : t.flat = true) (v : t.den D) : ∀ y ∈ deep cx t v, y.flat = true := by
  cases t <;> first | (simp [Ty.flat] at ht; done) | (intro y hy; rw [List.mem_singleton.1 hy]; rfl)
theorem deepTup_flat : ∀ {ts : List Ty}, ts.all Ty.flat = true → ∀ x : Tup D ts, ∀ y ∈ deepTup cx ts x, y.flat = true
  | [], _, _, y, hy => by simp [deepTup] at hy
  | [t], h, x, y, hy => deep_flat (by simpa using h) x y hy
  | t :: u :: ts, h, x, y, hy => by
    simp only [List.all_cons, Bool.and_eq_true] at h
    simp only [deepTup, List.mem_append] at hy
    rcases hy with hy | hy
    · exact deep_flat h.1 _ y hy
    · exact deepTup_flat (by simpa using h.2) x.2 y hy

/-- A context of named types by their fields. -/
theorem cx_ok {fields : Nat → List Ty} {toT : ∀ r, D r → Tup D (fields r)} {ofT : ∀ r, Tup D (fields r) → D r} (hf : ∀ r, (fields r).all plainT = true) (hto : ∀ r x, toT r (ofT r x) = x)
    (hd : ∀ r v, cx.deep r v = deepTup cx (fields r) (toT r v)) (he : ∀ r v, cx.enc r v = encTup cx (fields r) (toT r v)) (hdec : ∀ r cs, cx.dec r cs = (decTup cx (fields r) cs).map (ofT r)) (hs : ∀ r, cx.size r = (fields r).length) (hfl : ∀ r, cx.fl r = (fields r).all Ty.flat)
    {tab : List (Nat × TI D)} (hT : cx.T = look tab) (h : tab.all (fun p => tyChk cx P p.1 p.2) = true) : CxOk cx P where
  ty := tab_ok hT h
  enc r v := by rw [hd, he]; exact encTup_deep (hf r) _
  dec r cs v hv := by
    rw [hdec] at hv
    rw [hd]
    cases hx : decTup cx (fields r) cs with
    | none => simp [hx] at hv
    | some x => rw [hx] at hv; simp at hv; subst hv; rw [hto]; exact decTup_deep (hf r) hx
  size r v := by rw [hd, hs]; exact deepTup_len (hf r) _
  fl r h v x hx := by
    rw [hd] at hx
    exact deepTup_flat (by rw [← hfl]; exact h) _ x hx

theorem encTup_cx {cx' : Cx D} : ∀ {ts : List Ty}, ts.all plainT = true → ∀ x : Tup D ts, encTup cx ts x = encTup cx' ts x
  | [], _, _ => rfl
  | [t], h, x => by
    have h : plainT t = true := by simpa using h
    cases t <;> first | rfl | (simp [plainT] at h)
  | t :: u :: ts, h, x => by
    simp only [List.all_cons, Bool.and_eq_true] at h
    have e : encC cx t x.1 = encC cx' t x.1 := by
      have h := h.1
      cases t <;> first | rfl | (simp [plainT] at h)
    simp only [encTup, e, encTup_cx (cx' := cx') (ts := u :: ts) (by simpa using h.2) x.2]
theorem decC_cx {cx' : Cx D} {t : Ty} (h : plainT t = true) (cs : List (PV D)) : decC cx t cs = decC cx' t cs := by
  cases t with
  | named r => simp [plainT] at h
  | _ =>
    cases cs with
    | nil => rfl
    | cons c l =>
      cases l with
      | nil => cases c <;> rfl
      | cons d l => cases c <;> rfl
theorem decTup_cx {cx' : Cx D} : ∀ {ts : List Ty}, ts.all plainT = true → ∀ cs : List (PV D), decTup cx ts cs = decTup cx' ts cs
  | [], _, _ => rfl
  | [t], h, cs => decC_cx (by simpa using h) cs
  | t :: u :: ts, h, cs => by
    simp only [List.all_cons, Bool.and_eq_true] at h
    cases cs with
    | nil => rfl
    | cons c cs =>
      simp only [decTup, decC_cx (cx' := cx') h.1, decTup_cx (cx' := cx') (ts := u :: ts) (by simpa using h.2) cs]

def mkCx (tab : List (Nat × TI D)) (fields : Nat → List Ty) (toT : ∀ r, D r → Tup D (fields r)) (ofT : ∀ r, Tup D (fields r) → D r) (zero : ∀ r, D r) (deep : ∀ r, D r → List IV) (gv : Nat → PV D := fun _ => .undef) (gc : List (Nat × Value) := []) : Cx D where
  T := look tab
  enc r v := encTup ⟨fun _ => none, fun _ _ => [], fun _ _ => none, zero, fun _ => 0, deep, fun _ => false, fun _ => .undef, []⟩ (fields r) (toT r v)
  dec r cs := (decTup ⟨fun _ => none, fun _ _ => [], fun _ _ => none, zero, fun _ => 0, deep, fun _ => false, fun _ => .undef, []⟩ (fields r) cs).map (ofT r)
  zero := zero
  size r := (fields r).length
  deep := deep
  fl r := (fields r).all Ty.flat
  gv := gv
  gc := gc

theorem mkCx_ok {tab : List (Nat × TI D)} {fields : Nat → List Ty} {toT : ∀ r, D r → Tup D (fields r)} {ofT : ∀ r, Tup D (fields r) → D r} {zero : ∀ r, D r} {deep : ∀ r, D r → List IV} {gv : Nat → PV D} {gc : List (Nat × Value)}
    (hf : ∀ r, (fields r).all plainT = true) (hto : ∀ r x, toT r (ofT r x) = x) (hd : ∀ r v, deep r v = deepTup (mkCx tab fields toT ofT zero deep gv gc) (fields r) (toT r v))
    (h : tab.all (fun p => tyChk (mkCx tab fields toT ofT zero deep gv gc) P p.1 p.2) = true) : CxOk (mkCx tab fields toT ofT zero deep gv gc) P :=
  cx_ok hf hto hd (fun r v => encTup_cx (hf r) _) (fun r cs => by show _ = _; simp only [mkCx]; rw [decTup_cx (hf r)]) (fun _ => rfl) (fun _ => rfl) rfl h

/-- Where a loop is left to: by 'ret', by an exit. -/
def exOf (r : Option Cut) (l : List (Nat × Cut)) : Ex → Option Cut
  | .normal => none
  | .ret => r
  | .exit i => look l i

/-- A string of bytes; the bytes of a string. -/
def strOf (l : List Int) : ByteArray := ⟨(l.map fun n => UInt8.ofNat n.toNat).toArray⟩
def bytesOf (b : ByteArray) : List Int := b.data.toList.map fun c => (c.toNat : Int)
def exOfJ (n r : Option Cut) (l : List (Nat × Cut)) : Ex → Option Cut
  | .normal => n
  | .ret => r
  | .exit i => look l i
def joinAt (ann : Nat → Option LAnn) (b : Code) (i : Nat) : Code := (joinsOf ann b).getD i .skip

/-- A function's body, and its loops. -/
def bodyOf (f : Func) : Code := f.body.getD .skip
def loopAt (b : Code) (i : Nat) : Code := (loopsOf b).getD i .skip
end
end Go.Am

/-! What can be read as data is a typed value; the row of a law. -/
namespace Go.Am
open Go.RowKit
section
variable {D : Nat → Type} {cx : Cx D} {P : Program} {H : Type} {enc : TypeId × Value → H} {w : World} {base : Nat} {spare : Nat → Bool} {held : Bool}

/-- How many bytes a cell has at least, and where it may lie. -/
def cellB : IV → Nat × Nat
  | .int k _ => (k.bits / 8, k.bits / 8)
  | .bool _ => (1, 1)
  | .str _ => (16, 8)
  | .list _ _ => (24, 8)
def cellT : Ty → Nat × Nat
  | .int k => (k.bits / 8, k.bits / 8)
  | .bool => (1, 1)
  | .str => (16, 8)
  | .slice _ => (24, 8)
  | .named _ => (0, 1)
/-- How many bytes cells take that lie behind one another. -/
def lay (l : List (Nat × Nat)) : Nat :=
  let s := l.foldl (fun s c => ((s.1 + (c.2 - 1)) / c.2 * c.2 + c.1, max s.2 c.2)) (0, 1)
  (s.1 + (s.2 - 1)) / s.2 * s.2
/-- Numbers in their range, no slice longer than memory. -/
inductive WfIV : IV → Prop where
  | int {k n} : (Lit.int k n).wf = true → WfIV (.int k n)
  | bool {b} : WfIV (.bool b)
  | str {s} : s.size ≤ reachBytes → WfIV (.str s)
  | list {z} {xs : List (List IV)} : xs.length ≤ reachBytes → (∀ l ∈ xs, ∀ x ∈ l, WfIV x) → (∀ l ∈ xs, xs.length * lay (l.map cellB) ≤ reachBytes) → WfIV (.list z xs)

mutual
/-- How many values and letters a reading holds. -/
def bulkD {H : Type} : DataW H → Nat
  | .lit (.string bytes) => bytes.length + 1
  | .lit _ => 1
  | .nil => 1
  | .ptr d => bulkD d + 1
  | .slice elems spare => bulkA elems + bulkA spare + 1
  | .agg parts => bulkA parts + 1
  | .iface _ d => bulkD d + 1
  | .map entries => bulkEs entries + 1
  | .held _ => 1
def bulkA {H : Type} : List (DataW H) → Nat
  | [] => 0
  | d :: r => bulkD d + bulkA r
def bulkEs {H : Type} : List (Lit × DataW H) → Nat
  | [] => 0
  | x :: r => bulkE x + bulkEs r
def bulkE {H : Type} : Lit × DataW H → Nat
  | (.string bytes, d) => bytes.length + bulkD d + 1
  | (_, d) => bulkD d + 1
end
mutual
def ivB : IV → Nat
  | .int _ _ => 1
  | .bool _ => 1
  | .str s => s.size + 1
  | .list _ xs => ivBB xs + 1
def ivBL : List IV → Nat
  | [] => 0
  | x :: l => ivB x + ivBL l
def ivBB : List (List IV) → Nat
  | [] => 0
  | x :: l => ivBL x + ivBB l
end
theorem ivBL_append : ∀ (a b : List IV), ivBL (a ++ b) = ivBL a + ivBL b
  | [], b => by simp [ivBL]
  | x :: a, b => by rw [List.cons_append, ivBL, ivBL, ivBL_append a b]; omega
theorem ivBB_le {α β H : Type} {f : α → List IV} {g : β → DataW H} : ∀ {xs : List α} {es : List β}, xs.length ≤ es.length → (∀ (i : Nat) x e, xs[i]? = some x → es[i]? = some e → ivBL (f x) ≤ bulkD (g e)) → ivBB (xs.map f) ≤ bulkA (es.map g)
  | [], es, _, _ => by simp [ivBB]
  | x :: xs, [], h, _ => by simp at h
  | x :: xs, e :: es, h, k => by
    have h1 := k 0 x e rfl rfl
    have h2 := ivBB_le (xs := xs) (es := es) (by simpa using h) fun i a b ha hb => k (i + 1) a b (by simpa using ha) (by simpa using hb)
    simp only [List.map_cons, ivBB, bulkA]
    omega

/-- How a context names its named types. -/
structure Naming (cx : Cx D) where
  flds : Nat → List Ty
  toT : ∀ r, D r → Tup D (flds r)
  ofT : ∀ r, Tup D (flds r) → D r
  plain : ∀ r, (flds r).all plainT = true
  to_of : ∀ r x, toT r (ofT r x) = x
  deep : ∀ r v, cx.deep r v = deepTup cx (flds r) (toT r v)

def flatT (nm : Naming cx) : Ty → List Ty
  | .named q => nm.flds q
  | t => [t]

def fldsChk (nm : Naming cx) : List Field → Nat → List Ty → Bool
  | [], _, l => l.isEmpty
  | g :: gs, o, l => match cx.T g.type with
    | some tg => match tg.ty with
      | some tt => Nat.beq g.offset o && decide (l = flatT nm tt ++ l.drop (flatT nm tt).length) && fldsChk nm gs (o + (flatT nm tt).length) (l.drop (flatT nm tt).length)
      | none => false
    | none => false

def fitChk (nm : Naming cx) (P : Program) (T : TypeId) (ti : TI D) : Bool :=
  match ti.ty, ti.desc with
  | none, _ => true
  | some (.int k), .int k' => decide (k' = k)
  | some .bool, .bool => true
  | some .str, .str => true
  | some (.slice u), .slice e => match cx.T e with
    | some te => decide (te.ty = some u) && decide (lay ((flatT nm u).map cellT) ≤ te.bytes)
    | none => false
  | some (.named r), .struct _ => match P.underlying T with
    | some (.struct gs) => fldsChk nm gs.toList 0 (nm.flds r)
    | _ => false
  | _, _ => false

def Fit (nm : Naming cx) (P : Program) : Prop := ∀ T ti, cx.T T = some ti → fitChk nm P T ti = true

theorem fit_of {nm : Naming cx} {tab : List (Nat × TI D)} (hT : cx.T = look tab) (h : tab.all (fun p => fitChk nm P p.1 p.2) = true) : Fit nm P := by
  intro T ti hti
  rw [hT] at hti
  exact List.all_eq_true.1 h _ (look_mem hti)

theorem cells_tup : ∀ (l : List Ty), l.all plainT = true → ∀ x : Tup D l, (deepTup cx l x).map cellB = l.map cellT
  | [], _, x => rfl
  | [t], h, x => by
    simp only [List.all_cons, List.all_nil, Bool.and_true] at h
    cases t with
    | named q => simp [plainT] at h
    | _ => rfl
  | t :: u :: l, h, x => by
    rw [List.all_cons, Bool.and_eq_true] at h
    have ih := cells_tup (u :: l) h.2 x.2
    have e : deepTup cx (t :: u :: l) x = deep cx t x.1 ++ deepTup cx (u :: l) x.2 := rfl
    rw [e, List.map_append, ih]
    cases t with
    | named q => simp [plainT] at h
    | _ => rfl
theorem cells_deep (nm : Naming cx) (t : Ty) (x : t.den D) : (deep cx t x).map cellB = (flatT nm t).map cellT := by
  cases t with
  | named r =>
    show (cx.deep r x).map cellB = _
    rw [nm.deep, cells_tup _ (nm.plain r)]; rfl
  | _ => rfl

/-- A value's cells, read as data: they are a typed value's. -/
def Opened (_cx : Cx D) (w : World) (cs : List Value) (ds : List IV) : Prop := All2 (Rep (fun b => b < w.heap.size) w) cs ds ∧ ∀ x ∈ ds, WfIV x

theorem Opened.append {cs cs' : List Value} {ds ds' : List IV} (h : Opened cx w cs ds) (k : Opened cx w cs' ds') : Opened cx w (cs ++ cs') (ds ++ ds') :=
  ⟨h.1.append k.1, fun x hx => by rcases List.mem_append.1 hx with hx | hx; exact h.2 x hx; exact k.2 x hx⟩

theorem tup_append : ∀ (l m : List Ty) (a : Tup D l) (b : Tup D m), ∃ x : Tup D (l ++ m), deepTup cx (l ++ m) x = deepTup cx l a ++ deepTup cx m b
  | [], m, a, b => ⟨b, rfl⟩
  | [t], [], a, b => ⟨a, by simp [deepTup]⟩
  | [t], u :: m, a, b => ⟨(a, b), rfl⟩
  | t :: u :: l, m, a, b => by
    obtain ⟨x, hx⟩ := tup_append (u :: l) m a.2 b
    exact ⟨(a.1, x), by
      show deep cx t a.1 ++ deepTup cx (u :: (l ++ m)) x = _
      have hx : deepTup cx (u :: (l ++ m)) x = _ := hx
      rw [hx]; simp [deepTup]⟩

theorem cells_of (ok : CxOk cx P) {T : TypeId} {ti : TI D} (h : cx.T T = some ti) : P.cellsOf T = ti.size := by
  obtain ⟨i, z, h1, h2, _⟩ := (ok.ty T ti h).info
  unfold Program.cellsOf
  simp [h1, h2]

theorem sz_flat (ok : CxOk cx P) (nm : Naming cx) (t : Ty) : sz cx t = (flatT nm t).length := by
  cases t with
  | named r =>
    simp only [sz, flatT]
    by_cases h : Nonempty (D r)
    · obtain ⟨v⟩ := h
      rw [← ok.size r v, nm.deep, deepTup_len (nm.plain r)]
    · exact absurd ⟨cx.zero r⟩ h
  | _ => rfl

theorem opened_flds (ok : CxOk cx P) (nm : Naming cx) {n : Nat}
    (ih : ∀ (t : Ty) T ti, cx.T T = some ti → ti.ty = some t → ∀ cs y, DataW.trod enc P w base spare held n T cs = some y → (∀ m ∈ DataW.weights P T y.1, m ≤ reachBytes) → ∃ x : t.den D, Opened cx w cs (deep cx t x) ∧ ivBL (deep cx t x) ≤ bulkD y.1) (cs : List Value) :
    ∀ (gs : List Field) (o : Nat) (l : List Ty) (ys : List (DataW H × List MemPlace)), fldsChk nm gs o l = true → gs.mapM (fun f => DataW.trod enc P w base spare held n f.type ((cs.drop f.offset).take (P.cellsOf f.type))) = some ys → (∀ m ∈ DataW.weightsEach P (gs.map (·.type)) (ys.map (·.1)), m ≤ reachBytes) →
      ∃ x : Tup D l, Opened cx w ((cs.drop o).take l.length) (deepTup cx l x) ∧ ivBL (deepTup cx l x) ≤ bulkA (ys.map (·.1))
  | [], o, l, ys, h, _, _ => by
    simp [fldsChk] at h; subst h
    exact ⟨(), ⟨by simpa using .nil, by simp [deepTup]⟩, by simp [deepTup, ivBL]⟩
  | g :: gs, o, l, ys, h, hm, hwt => by
    simp only [fldsChk] at h
    split at h
    · rename_i tg htg
      split at h
      · rename_i tt htt
        simp only [Bool.and_eq_true, decide_eq_true_eq] at h
        obtain ⟨⟨h1, h2⟩, h3⟩ := h
        have h1 := beq_nat h1
        rw [List.mapM_cons] at hm
        simp only [Option.pure_def, Option.bind_eq_bind, Option.bind_eq_some_iff, Option.some.injEq] at hm
        obtain ⟨y, hy, ys', hys, rfl⟩ := hm
        have hwt1 : ∀ m ∈ DataW.weights P g.type y.1, m ≤ reachBytes := fun m hm => hwt m (by simp [DataW.weightsEach, hm])
        have hwt2 : ∀ m ∈ DataW.weightsEach P (gs.map (·.type)) (ys'.map (·.1)), m ≤ reachBytes := fun m hm => hwt m (by simp only [List.map_cons, DataW.weightsEach, List.mem_append]; exact .inr hm)
        obtain ⟨a, ha, hab⟩ := ih tt g.type tg htg htt _ _ hy hwt1
        obtain ⟨b, hb, hbb⟩ := opened_flds ok nm ih cs gs _ _ ys' h3 hys hwt2
        have hsz : P.cellsOf g.type = (flatT nm tt).length := by
          rw [cells_of ok htg, ← ((ok.ty _ _ htg).info.choose_spec.choose_spec.2.2.2.2.2.2.2.1 tt htt).1, sz_flat ok nm]
        have key : ∃ x : Tup D (flatT nm tt), deepTup cx (flatT nm tt) x = deep cx tt a := by
          cases tt with
          | named q => exact ⟨nm.toT q a, (nm.deep q a).symm⟩
          | _ => exact ⟨a, rfl⟩
        obtain ⟨a', ha'⟩ := key
        obtain ⟨x, hx⟩ := tup_append (cx := cx) (flatT nm tt) (l.drop (flatT nm tt).length) a' b
        rw [hsz, h1] at ha
        have hlen : l.length = (flatT nm tt).length + (l.drop (flatT nm tt).length).length := by
          have := congrArg List.length h2
          simpa using this
        have hcs : (cs.drop o).take l.length = (cs.drop o).take (flatT nm tt).length ++ (cs.drop (o + (flatT nm tt).length)).take (l.drop (flatT nm tt).length).length := by
          conv => lhs; rw [hlen]
          rw [List.take_add, List.drop_drop]
        rw [hcs]
        have big := ha.append hb
        rw [← ha', ← hx] at big
        have fin : ∀ l' (h : l = flatT nm tt ++ l') (x : Tup D (flatT nm tt ++ l')) (c : List Value) (N : Nat), Opened cx w c (deepTup cx (flatT nm tt ++ l') x) → ivBL (deepTup cx (flatT nm tt ++ l') x) ≤ N → ∃ x : Tup D l, Opened cx w c (deepTup cx l x) ∧ ivBL (deepTup cx l x) ≤ N := by
          rintro l' rfl x c N h h'; exact ⟨x, h, h'⟩
        refine fin _ h2 x _ _ big ?_
        rw [hx, ivBL_append, ha']
        simp only [List.map_cons, bulkA]
        omega
      · simp at h
    · simp at h

theorem weightsAll_mem {e : TypeId} {m : Nat} : ∀ {l : List (DataW H × List MemPlace)} {i : Nat} {y : DataW H × List MemPlace}, l[i]? = some y → m ∈ DataW.weights P e y.1 → m ∈ DataW.weightsAll P e (l.map (·.1))
  | [], i, y, h, _ => by simp at h
  | a :: l, 0, y, h, hm => by simp at h; subst h; simp [DataW.weightsAll, hm]
  | a :: l, i + 1, y, h, hm => by
    simp only [List.map_cons, DataW.weightsAll, List.mem_append]
    exact .inr (weightsAll_mem (by simpa using h) hm)

theorem open_trod (ok : CxOk cx P) (nm : Naming cx) (fit : Fit nm P) : ∀ (n : Nat) (t : Ty) T ti, cx.T T = some ti → ti.ty = some t → ∀ cs y, DataW.trod enc P w base spare held n T cs = some y → (∀ m ∈ DataW.weights P T y.1, m ≤ reachBytes) → ∃ x : t.den D, Opened cx w cs (deep cx t x) ∧ ivBL (deep cx t x) ≤ bulkD y.1
  | 0, t, T, ti, _, _, cs, y, h, _ => by simp [DataW.trod] at h
  | n + 1, t, T, ti, hT, ht, cs, y, h, hwt => by
    have hfit := fit T ti hT
    obtain ⟨d, hu, hd, _⟩ := (ok.ty T ti hT).desc
    unfold fitChk at hfit
    rw [ht] at hfit
    split at hfit
    · rename_i h0; simp at h0
    · rename_i k k' h0 hdesc
      simp at h0; subst h0
      simp at hfit; subst hfit
      rw [hdesc] at hd; simp only [DescOk] at hd; subst hd
      obtain ⟨m, rfl, rfl, hw⟩ := DataW.trod_int hu h
      exact ⟨m, ⟨.cons .int .nil, by simp [deep]; exact .int hw⟩, by simp [deep, ivBL, ivB, bulkD]⟩
    · rename_i h0 hdesc
      simp at h0; subst h0
      rw [hdesc] at hd; simp only [DescOk] at hd; subst hd
      obtain ⟨m, rfl, rfl⟩ := DataW.trod_bool hu h
      exact ⟨m, ⟨.cons .bool .nil, by simp [deep]; exact .bool⟩, by simp [deep, ivBL, ivB, bulkD]⟩
    · rename_i h0 hdesc
      simp at h0; subst h0
      rw [hdesc] at hd; simp only [DescOk] at hd; subst hd
      obtain ⟨m, rfl, rfl, hw⟩ := DataW.trod_string hu h
      exact ⟨m, ⟨.cons .str .nil, by simp [deep]; exact .str (by simpa [DataW.weights] using hwt)⟩, by simp [deep, ivBL, ivB, bulkD]⟩
    · rename_i u e h0 hdesc
      simp at h0; subst h0
      rw [hdesc] at hd; simp only [DescOk] at hd; subst hd
      split at hfit
      · rename_i te hte
        rw [Bool.and_eq_true] at hfit
        have hte' : te.ty = some u := of_decide_eq_true hfit.1
        have hlay : lay ((flatT nm u).map cellT) ≤ te.bytes := of_decide_eq_true hfit.2
        rcases DataW.trod_slice hu h with ⟨rfl, rfl⟩ | ⟨a, len, cap, elems, rest, m, hm, rfl, rfl, hb, hl, hc, hlen, hel, hsp, hns⟩
        · exact ⟨[], ⟨.cons .nil .nil, by simp [deep]; exact .list (by simp) (by simp) (by simp)⟩, by simp [deep, ivBL, ivB, ivBB, bulkD]⟩
        · simp at hm; subst hm
          have hbe : P.bytesOf e = te.bytes := by
            obtain ⟨i, z, h1, _, h3, _⟩ := (ok.ty _ _ hte).info
            unfold Program.bytesOf
            simp [h1, h3]
          have hbytes : 0 < P.bytesOf e := by
            obtain ⟨i, z, h1, _, h3, _, _, _, _, h8, _⟩ := (ok.ty _ _ hte).info
            have := (h8 u hte').2.2.1
            unfold Program.bytesOf
            simp [h1, h3]; exact this
          have hwt' : (elems.length + rest.length) * P.bytesOf e ≤ reachBytes ∧ ∀ m ∈ DataW.weightsAll P e (elems.map (·.1)), m ≤ reachBytes := by
            simp only [DataW.weights, hu] at hwt
            refine ⟨hwt _ (by simp), fun m hm => hwt m ?_⟩
            simp only [List.mem_cons, List.mem_append]
            exact .inr (.inl hm)
          have hlenB : len ≤ reachBytes := by
            have := Nat.le_mul_of_pos_right (elems.length + rest.length) hbytes
            omega
          have each : ∀ i, i < len → ∃ (x : u.den D) (cs : List Value), w.cells? base (a.add (i * P.cellsOf e)) (P.cellsOf e) = some cs ∧ Opened cx w cs (deep cx u x) ∧ ∀ y, elems[i]? = some y → ivBL (deep cx u x) ≤ bulkD y.1 := by
            intro i hi
            have := hel i hi
            have hy : elems[i]? = some (elems[i]'(by omega)) := List.getElem?_eq_getElem _
            rw [hy] at this
            obtain ⟨cs, h1, h2⟩ := Option.bind_eq_some_iff.1 this
            obtain ⟨x, hx⟩ := open_trod ok nm fit n u e te hte hte' cs _ h2 (fun m hm => hwt'.2 m (weightsAll_mem hy hm))
            exact ⟨x, cs, h1, hx.1, fun y hy' => by rw [hy] at hy'; obtain rfl := Option.some.inj hy'; exact hx.2⟩
          have hz : P.cellsOf e = sz cx u := by
            rw [cells_of ok hte, ← ((ok.ty _ _ hte).info.choose_spec.choose_spec.2.2.2.2.2.2.2.1 u hte').1]
          have big : ∀ n, n ≤ len → ∃ xs : List (u.den D), xs.length = n ∧ ∀ i x, xs[i]? = some x → ∃ cs, w.cells? base (a.add (i * P.cellsOf e)) (P.cellsOf e) = some cs ∧ Opened cx w cs (deep cx u x) ∧ ∀ y, elems[i]? = some y → ivBL (deep cx u x) ≤ bulkD y.1 := by
            intro n
            induction n with
            | zero => exact fun _ => ⟨[], rfl, by simp⟩
            | succ n ih2 =>
              intro hn
              obtain ⟨xs, h1, h2⟩ := ih2 (by omega)
              obtain ⟨x, cs, h3, h4⟩ := each n (by omega)
              refine ⟨xs ++ [x], by simp [h1], fun i y hy => ?_⟩
              by_cases hi : i < xs.length
              · rw [List.getElem?_append_left hi] at hy; exact h2 i y hy
              · rw [List.getElem?_append_right (by omega)] at hy
                have : i - xs.length = 0 := by
                  have := (List.getElem?_eq_some_iff.1 hy).1
                  simp at this; omega
                rw [this] at hy; simp at hy; subst hy
                have : i = n := by omega
                subst this
                exact ⟨cs, h3, h4⟩
          obtain ⟨xs, hxl, hxs⟩ := big len (Nat.le_refl _)
          refine ⟨xs, ⟨?_, ?_⟩, ?_⟩
          rotate_left 2
          · have hbb := ivBB_le (f := deep cx u) (g := fun y : DataW H × List MemPlace => y.1) (xs := xs) (es := elems) (by omega) fun i x y h1 h2 => by
              obtain ⟨_, _, _, h3⟩ := hxs i x h1
              exact h3 y h2
            simp only [deep, ivBL, ivB, bulkD]
            omega
          · refine .cons ?_ .nil
            have : (xs.map (deep cx u)).length = len := by simp [hxl]
            rw [← this]
            have cell : ∀ i l j x, (xs.map (deep cx u))[i]? = some l → l[j]? = some x → ∃ v, w.cell? (a.add (i * sz cx u + j)) = some v ∧ Rep (fun b => b < w.heap.size) w v x := by
              intro i l j x h1 h2
              simp only [List.getElem?_map, Option.map_eq_some_iff] at h1
              obtain ⟨y, hy, rfl⟩ := h1
              obtain ⟨cs, h3, ⟨h4, _⟩, _⟩ := hxs i y hy
              obtain ⟨_, h5, h6⟩ := World.cells?_some h3
              have hj : j < (deep cx u y).length := (List.getElem?_eq_some_iff.1 h2).1
              have hl2 := h4.length
              have hjc : j < cs.length := by omega
              obtain ⟨z, hz1, hz2⟩ := h4.get j (cs[j]) (List.getElem?_eq_getElem hjc)
              rw [h2] at hz1; simp at hz1; subst hz1
              refine ⟨cs[j], ?_, hz2⟩
              have := h6 j (by omega)
              rw [add_add, hz] at this
              rw [this]; exact List.getElem?_eq_getElem hjc
            refine .list (xs := xs.map (deep cx u)) (fun i j => (w.cell? (a.add (i * sz cx u + j))).getD .nilIface) (by rw [this]; exact hl) (fun hne => ?_) (fun i l j x h1 h2 => ?_) (fun i l j x h1 h2 => ?_)
            · cases xs with
              | nil => simp at hne
              | cons x xs =>
                have hp : 0 < (deep cx u x).length := by
                  have := (ok.ty _ _ hte).info.choose_spec.choose_spec.2.2.2.2.2.2.2.1 u hte'
                  have h8 : (deep cx u x).length = sz cx u := by
                    cases u with
                    | named r => simp only [deep, sz]; exact ok.size r x
                    | _ => rfl
                  rw [h8, this.1]; exact this.2.1
                obtain ⟨v, hv, _⟩ := cell 0 _ 0 ((deep cx u x)[0]) (by simp) (List.getElem?_eq_getElem hp)
                unfold World.cell? at hv
                cases hb : w.heap[(a.add (0 * sz cx u + 0)).block]? with
                | none => rw [hb] at hv; simp at hv
                | some ob =>
                  have := (Array.getElem?_eq_some_iff.1 hb).1
                  rwa [add_block] at this
            · obtain ⟨v, h3, h4⟩ := cell i l j x h1 h2
              rw [h3]; rfl
            · obtain ⟨v, h3, h4⟩ := cell i l j x h1 h2
              rw [h3]; exact h4
          · intro x hx
            simp only [deep, List.mem_singleton] at hx
            subst hx
            refine .list (by simp [hxl]; exact hlenB) (fun l hl2 x hx => ?_) (fun l hl2 => ?_)
            · obtain ⟨y, hy, rfl⟩ := List.mem_map.1 hl2
              obtain ⟨i, hi⟩ := List.getElem?_of_mem hy
              obtain ⟨cs, _, h4, _⟩ := hxs i y hi
              exact h4.2 x hx
            · obtain ⟨y, hy, rfl⟩ := List.mem_map.1 hl2
              rw [cells_deep nm, List.length_map, hxl]
              have h9 := hwt'.1
              rw [hbe] at h9
              refine Nat.le_trans (Nat.mul_le_mul (show len ≤ elems.length + rest.length by omega) hlay) h9
      · simp at hfit
    · rename_i r fs h0 hdesc
      simp at h0; subst h0
      split at hfit
      · rename_i gs hgs
        have hcs : cs.length = P.cellsOf T ∧ ∃ ys, gs.toList.mapM (fun f => DataW.trod enc P w base spare held n f.type ((cs.drop f.offset).take (P.cellsOf f.type))) = some ys ∧ (∀ m ∈ DataW.weightsEach P (gs.toList.map (·.type)) (ys.map (·.1)), m ≤ reachBytes) ∧ bulkA (ys.map (·.1)) ≤ bulkD y.1 := by
          obtain ⟨xs, n', hn, rfl, hl, hlen, hf⟩ := DataW.trod_struct hgs h
          simp at hn; subst hn
          refine ⟨hl, xs, mapM_some_of_get _ _ hlen (fun i x hx => hf i x (by rw [← Array.getElem?_toList]; exact hx)), ?_⟩
          exact ⟨by simpa only [DataW.weights, hgs] using hwt, by simp only [bulkD]; omega⟩
        obtain ⟨hl, ys, hys, hwts, hbk⟩ := hcs
        obtain ⟨x, hx, hxb⟩ := opened_flds ok nm (fun t T ti hT ht cs y h => open_trod ok nm fit n t T ti hT ht cs y h) cs gs.toList 0 (nm.flds r) ys hfit hys hwts
        refine ⟨nm.ofT r x, ?_⟩
        have e : deep cx (.named r) (nm.ofT r x) = deepTup cx (nm.flds r) x := by
          show cx.deep r (nm.ofT r x) = _
          rw [nm.deep, nm.to_of]
        rw [e]
        have hsz : cs.length = (nm.flds r).length := by
          rw [hl, cells_of ok hT, ← ((ok.ty _ _ hT).info.choose_spec.choose_spec.2.2.2.2.2.2.2.1 (.named r) ht).1, sz_flat ok nm]; rfl
        rw [← hsz] at hx
        exact ⟨by simpa using hx, by omega⟩
      · simp at hfit
    · simp at hfit

/-! ### The arguments of a law -/
def ArgsT (D : Nat → Type) : List Ty → Type
  | [] => Unit
  | t :: ts => t.den D × ArgsT D ts
def argPV (cx : Cx D) : (t : Ty) → t.den D → PV D
  | .int k, n => .int k n
  | .bool, b => .bool b
  | .str, s => .str s
  | .slice t, xs => .list t xs
  | .named r, v => .agg (cx.enc r v)
def argsPV (cx : Cx D) : (ts : List Ty) → ArgsT D ts → List (PV D)
  | [], _ => []
  | t :: ts, x => argPV cx t x.1 :: argsPV cx ts x.2
def WfArgs (cx : Cx D) : (ts : List Ty) → ArgsT D ts → Prop
  | [], _ => True
  | t :: ts, x => (∀ iv ∈ deep cx t x.1, WfIV iv) ∧ WfArgs cx ts x.2

/-- How many values and letters the arguments hold. -/
def argsB (cx : Cx D) : (ts : List Ty) → ArgsT D ts → Nat
  | [], _ => 0
  | t :: ts, x => ivBL (deep cx t x.1) + argsB cx ts x.2

def TyAt (cx : Cx D) (T : TypeId) (t : Ty) : Prop := ∃ ti, cx.T T = some ti ∧ ti.ty = some t

theorem names_argPV (ok : CxOk cx P) (t : Ty) (x : t.den D) : names (argPV cx t x) = [] := by
  cases t with
  | named r =>
    simp only [argPV, names]
    have := names_encC (P := P) ok (.named r) x
    simpa [encC] using this
  | _ => simp [argPV, names]
theorem names_argsPV (ok : CxOk cx P) : ∀ (ts : List Ty) (x : ArgsT D ts), names.go (argsPV cx ts x) = []
  | [], _ => rfl
  | t :: ts, x => by simp [argsPV, names.go, names_argPV ok t x.1, names_argsPV ok ts x.2]

theorem open_arg (ok : CxOk cx P) (nm : Naming cx) (fit : Fit nm P) {T : TypeId} {t : Ty} (hT : TyAt cx T t) {v : Value} {d : DataW H} {ps : List MemPlace} {r : Reach} {b0 : Nat} (hval : Value.okWide P w r b0 T v) (h : DataW.Trod enc P w base spare held T v d ps) (hwt : ∀ m ∈ DataW.weights P T d, m ≤ reachBytes)
    (S : Nat → Option Sh) (β : Beta) : ∃ x : t.den D, PRep cx S β (fun b => b < w.heap.size) w (argPV cx t x) v ∧ (∀ iv ∈ deep cx t x, WfIV iv) ∧ ivBL (deep cx t x) ≤ bulkD d := by
  obtain ⟨ti, hti, hty⟩ := hT
  obtain ⟨n, hn⟩ := h
  obtain ⟨x, ⟨hx, hw⟩, hbk⟩ := open_trod ok nm fit n t T ti hti hty _ _ hn hwt
  refine ⟨x, ?_, hw, hbk⟩
  have hfit := fit T ti hti
  obtain ⟨d, hu, hd, _⟩ := (ok.ty T ti hti).desc
  have hx0 := hx
  unfold fitChk at hfit
  rw [hty] at hfit
  split at hfit
  · rename_i h0; simp at h0
  · rename_i k k' h0 hdesc
    simp at h0; subst h0; simp at hfit; subst hfit
    rw [hdesc] at hd; simp only [DescOk] at hd; subst hd
    obtain ⟨m, rfl⟩ := WideShapes.okWide_int hu hval
    simp only [Value.cells, deep] at hx
    cases hx with | cons h1 _ => cases h1; rfl
  · rename_i h0 hdesc
    simp at h0; subst h0
    rw [hdesc] at hd; simp only [DescOk] at hd; subst hd
    obtain ⟨m, rfl⟩ := WideShapes.okWide_bool hu hval
    simp only [Value.cells, deep] at hx
    cases hx with | cons h1 _ => cases h1; rfl
  · rename_i h0 hdesc
    simp at h0; subst h0
    rw [hdesc] at hd; simp only [DescOk] at hd; subst hd
    obtain ⟨m, rfl⟩ := WideShapes.okWide_string hu hval
    simp only [Value.cells, deep] at hx
    cases hx with | cons h1 _ => cases h1; rfl
  · rename_i u e h0 hdesc
    simp at h0; subst h0
    rw [hdesc] at hd; simp only [DescOk] at hd; subst hd
    obtain ⟨a, len, cap, rfl⟩ := WideShapes.okWide_slice hu hval
    simp only [Value.cells, deep] at hx
    cases hx with | cons h1 _ => exact h1
  · rename_i q fs h0 hdesc
    simp at h0; subst h0
    rw [hdesc] at hd
    obtain ⟨gs, rfl, _⟩ := hd
    obtain ⟨cs, rfl, _⟩ := WideShapes.okWide_struct hu hval
    refine ⟨cs, rfl, (PReps_all2 ..).2 ?_⟩
    have hx0 : All2 (Rep (fun b => b < w.heap.size) w) cs.toList (deep cx (.named q) x) := hx0
    have he : All2 (CS cx) (cx.enc q x) (deep cx (.named q) x) := ok.enc q x
    exact All2.comp (R := fun iv p => CS cx p iv) (S := fun iv c => Rep (fun b => b < w.heap.size) w c iv) (fun iv p c h1 h2 => PRep_of_Rep h1 h2) he.flip hx0.flip
  · simp at hfit

theorem open_args (ok : CxOk cx P) (nm : Naming cx) (fit : Fit nm P) (S : Nat → Option Sh) (β : Beta) {r : Reach} {b0 : Nat} : ∀ {Ts : List TypeId} {ts : List Ty} (_hT : All2 (TyAt cx) Ts ts) {vs : List Value} {ds : List (DataW H)} {ps : List MemPlace}
    (_hval : ∀ (j : Nat) t v, Ts[j]? = some t → vs[j]? = some v → Value.okWide P w r b0 t v) (_h : DataW.TrodAll enc P w base spare held Ts vs ds ps) (_hwt : ∀ m ∈ DataW.weightsEach P Ts ds, m ≤ reachBytes),
    ∃ x : ArgsT D ts, PReps cx S β (fun b => b < w.heap.size) w (argsPV cx ts x) vs ∧ WfArgs cx ts x ∧ argsB cx ts x ≤ bulkA ds
  | [], _, .nil, vs, ds, ps, _, h, _ => by
    obtain ⟨rfl, _, _⟩ := ChangeShapes.trodAll_nil h
    exact ⟨(), trivial, trivial, Nat.zero_le _⟩
  | T :: Ts, _, .cons h1 h2, vs, ds, ps, hval, h, hwt => by
    obtain ⟨v, vs', d, ds', p, q, rfl, rfl, rfl, k1, k2⟩ := ChangeShapes.trodAll_cons h
    obtain ⟨x, hx, hw, hxb⟩ := open_arg ok nm fit h1 (hval 0 T v rfl rfl) k1 (fun m hm => hwt m (by simp [DataW.weightsEach, hm])) S β
    obtain ⟨y, hy, hw', hyb⟩ := open_args ok nm fit S β h2 (fun j t v h h' => hval (j + 1) t v h h') k2 (fun m hm => hwt m (by simp [DataW.weightsEach, hm]))
    exact ⟨(x, y), ⟨hx, hy⟩, ⟨hw, hw'⟩, by simp only [argsB, bulkA]; omega⟩

/-- The arguments behind the call read as before. -/
theorem trodAll_below (hl : laidOutB P = true) {W W' : World} (hb : Below W.heap.size W W') : ∀ {Ts : List TypeId}, Ts.all (fun T => P.readableRec T && decide (T < P.types.size)) = true → ∀ {vs : List Value} {ds : List (DataW H)} {ps : List MemPlace},
    DataW.TrodAll enc P W 0 (fun _ => true) true Ts vs ds ps → DataW.TrodAll enc P W' 0 (fun b => decide (b < W.heap.size)) true Ts vs ds ps
  | [], _, vs, ds, ps, h => by
    obtain ⟨rfl, rfl, rfl⟩ := ChangeShapes.trodAll_nil h
    rfl
  | T :: Ts, ht, vs, ds, ps, h => by
    simp only [List.all_cons, Bool.and_eq_true, decide_eq_true_eq] at ht
    obtain ⟨v, vs', d, ds', p, q, rfl, rfl, rfl, k1, k2⟩ := ChangeShapes.trodAll_cons h
    have lt : ∀ x ∈ p, x.block < W.heap.size := by obtain ⟨m, hm⟩ := k1; exact DataW.trod_lt m _ _ _ hm
    exact ⟨p, q, Below.trod hl ht.1.1 ht.1.2 k1 hb lt, trodAll_below hl hb (by simpa using ht.2) k2, rfl⟩

theorem trodAll_len : ∀ {Ts : List TypeId} {vs : List Value} {ds : List (DataW H)} {ps : List MemPlace}, DataW.TrodAll enc P w base spare held Ts vs ds ps → ds.length = Ts.length
  | [], vs, ds, ps, h => by obtain ⟨rfl, rfl, rfl⟩ := ChangeShapes.trodAll_nil h; rfl
  | T :: Ts, vs, ds, ps, h => by
    obtain ⟨v, vs', d, ds', p, q, rfl, rfl, rfl, k1, k2⟩ := ChangeShapes.trodAll_cons h
    simp [trodAll_len k2]

/-- What a law answers. -/
def ansK : RV D → Option Bool
  | ⟨.bool b, _⟩ => some b
  | _ => none

/-- No variables of the package are looked at. -/
theorem GInv.none {F : Nat → Prop} {W : World} (h1 : cx.gv = fun _ => .undef) (h2 : cx.gc = []) : GInv cx F W :=
  ⟨fun g => by rw [h1]; exact ⟨rfl, trivial⟩, fun p hp => by rw [h2] at hp; simp at hp⟩

theorem law_calls (ok : CxOk cx P) (nm : Naming cx) (fit : Fit nm P) {f : FuncId} {fn : Func} {body : Code} (hf : P.funcs[f]? = some fn) (hb : fn.body = some body) (hname : (fn.name == "runtime.NumGoroutine") = false)
    {Ts : List TypeId} {ts : List Ty} (hT : All2 (TyAt cx) Ts ts) {ds : List (DataW H)} (law : ∀ x : ArgsT D ts, WfArgs cx ts x → argsB cx ts x ≤ bulkA ds → ∃ c : Dr D Bool, FnOk P cx f c ∧ c (argsPV cx ts x) [] ansK = some true)
    {W : World} {vs : List Value} {ps : List MemPlace} {r : Reach} {b0 : Nat} (hval : ∀ (j : Nat) t v, Ts[j]? = some t → vs[j]? = some v → Value.okWide P W r b0 t v) (h : DataW.TrodAll enc P W 0 (fun _ => true) true Ts vs ds ps) (hwt : ∀ m ∈ DataW.weightsEach P Ts ds, m ≤ reachBytes) (hg : GInv cx (fun b => b < W.heap.size) W) :
    Calls P f vs.toArray W fun e W' => e = .returned (.bool true) ∧ Below W.heap.size W W' := by
  obtain ⟨x, hx, hw, hbk⟩ := open_args (spare := fun _ => true) (held := true) (base := 0) ok nm fit (fun _ => none) (fun _ => none) hT hval h hwt
  obtain ⟨c, hc, hk⟩ := law x hw hbk
  have owes := hc.1 _ _ _ _ hk (fun _ => none) (fun b => b < W.heap.size) W vs ?_ ?_ ?_ ?_
  · rcases owes with ⟨v, w', hrun, _⟩ | ⟨_, hcalls⟩
    · have hname' : ¬ fn.name = "runtime.NumGoroutine" := by simpa using hname
      simp [callFunc, hf, hname', hb] at hrun
    · refine hcalls.mono ?_
      rintro e W' ⟨v, rfl, rv, β', F', hK, hR⟩
      have hv : v = .bool true := by
        obtain ⟨rvv, ros⟩ := rv
        have hrep := hR.rep
        cases rvv <;> simp [ansK] at hK
        subst hK
        exact hrep
      subst hv
      refine ⟨rfl, hR.step.kept.os, hR.step.kept.tape, hR.step.kept.output, hR.step.kept.size, fun k hk => hR.step.kept.block k hk ?_⟩
      rintro ⟨n, ⟨y, hy⟩, _⟩
      simp at hy
  · exact ⟨fun n cs h => by simp [atL] at h, fun n t xs l h => by simp [atL] at h, fun n m b h => by obtain ⟨⟨y, hy⟩, _⟩ := h; simp at hy, fun n b h => by obtain ⟨⟨y, hy⟩, _⟩ := h; simp at hy, fun b h => h, hg⟩
  · have e : (fun m => shO cx (atL (([] : List (Am.Obj D)).map some) m)) = fun _ => none := by
      funext m; simp [atL, shO]
    rw [e]; exact hx
  · rw [names_argsPV ok]; simp
  · intro m n hn; simp [atL, namesO] at hn

theorem law_lifted {C : Checked} {cx : Cx D} (ok : CxOk cx C.prog) (nm : Naming cx) (fit : Fit nm C.prog) {f : FuncId} {fn : Func} {body : Code} (hf : C.prog.funcs[f]? = some fn) (hb : fn.body = some body) (hname : (fn.name == "runtime.NumGoroutine") = false)
    {Ts : List TypeId} {ts : List Ty} (hps : fn.params.toList = Ts) {B : TypeId} (hres : fn.resultTypes = #[B]) (hB : C.prog.underlying B = some .bool) (hT : All2 (TyAt cx) Ts ts)
    (law : ∀ x : ArgsT D ts, WfArgs cx ts x → ∃ c : Dr D Bool, FnOk C.prog cx f c ∧ c (argsPV cx ts x) [] ansK = some true)
    (hread : Ts.all (fun T => C.prog.readableRec T && decide (T < C.prog.types.size)) = true) (hlaid : laidOutB C.prog = true)
    {s : ChangeSpec} (hvars : s.vars = []) (hs : ∀ (H : Type) (ds : List (DataW H)), ds.length = Ts.length → s.fn H ds = { results := [.lit (.bool true)], args := ds })
    {os : Os} {conds : List PathCond} (own : ownKnob C.prog.godebug = none) (started : os.Started) (noInit : C.prog.inits.idxOf? f = none) {H : Type} {enc : TypeId × Value → H}
    (witness : ∃ (w : World) (tape : Tape) (i : Input), w.os = os ∧ (w.forCall tape i).Shaped C.prog ∧ i.vars = [] ∧ Input.okWide C.prog (w.forCall tape i) .any w.heap.size f i ∧
      s.pre6 enc C.prog fn conds false (w.forCall tape i).memory i.args ∧ ({} : Assume).holds C.prog (lone (Frame.enter C.prog f i.args .normal) [] (w.forCall tape i))) (hg : ∀ F W, GInv cx F W := by intro _ _; exact GInv.none rfl rfl) :
    ReturnsInHanded {} C os f .any (s.pre6 enc C.prog fn conds false) (s.post enc C.prog fn false true false false) := by
  refine returnsInHanded_of_change_sized own started noInit hf witness ?_
  intro W base args ds gs before hval hW hcnd hsz _
  have hW' := hW
  obtain ⟨p, q, hA, hV, rfl, hfz, hnd⟩ := hW
  rw [hvars] at hV
  obtain ⟨rfl, rfl⟩ := ChangeShapes.trodVars_none hV
  rw [hps] at hA
  have hval' : ∀ (j : Nat) t v, Ts[j]? = some t → args.toList[j]? = some v → Value.okWide C.prog W .any base t v := by
    intro j t v h1 h2
    refine hval j t v ?_ (by rw [← Array.getElem?_toList]; exact h2)
    rw [← Array.getElem?_toList, hps]; exact h1
  have hwt : ∀ m ∈ DataW.weightsEach C.prog Ts ds, m ≤ reachBytes := by
    have e : s.plain.varTypes C.prog = [] := by simp [DataSpec.varTypes, ChangeSpec.plain, hvars]
    rw [e, List.append_nil, List.append_nil, hps] at hsz
    intro m hm
    simpa using List.all_eq_true.1 hsz m hm
  have main := law_calls ok nm fit hf hb hname hT (fun x hx _ => law x hx) hval' hA hwt (hg _ _)
  refine main.mono ?_
  rintro e W' ⟨rfl, bel⟩
  have hfn := hs H (ds ++ []) (by simp [trodAll_len hA])
  refine ⟨_, rfl, ds, [], _, [], p, [], hW', ?_, ?_, ?_, bel.frame _, fun h => by cases h⟩
  · rw [hfn, hres]
    exact ChangeShapes.trodAll_mk1 (shut_bool hB _)
  · rw [hfn, hps, List.append_nil]
    exact trodAll_below hlaid bel hread hA
  · rw [hfn, hvars]; rfl
end
end Go.Am

/-! From some fuel on. -/
namespace Go.Am

/-- From some fuel on. -/
def Ev (p : Nat → Prop) : Prop := ∃ k0, ∀ k, k0 ≤ k → p k

theorem Ev.all {p : Nat → Prop} (h : ∀ k, p k) : Ev p := ⟨0, fun k _ => h k⟩
theorem Ev.imp {p q : Nat → Prop} (h : Ev p) (f : ∀ k, p k → q k) : Ev q := by
  obtain ⟨a, ha⟩ := h
  exact ⟨a, fun k hk => f k (ha k hk)⟩
theorem Ev.and {p q : Nat → Prop} (h : Ev p) (h' : Ev q) : Ev fun k => p k ∧ q k := by
  obtain ⟨a, ha⟩ := h
  obtain ⟨b, hb⟩ := h'
  exact ⟨max a b, fun k hk => ⟨ha k (by omega), hb k (by omega)⟩⟩
theorem Ev.imp2 {p q r : Nat → Prop} (h : Ev p) (h' : Ev q) (f : ∀ k, p k → q k → r k) : Ev r := (h.and h').imp fun k hk => f k hk.1 hk.2
theorem Ev.imp3 {p q r s : Nat → Prop} (h : Ev p) (h' : Ev q) (h'' : Ev r) (f : ∀ k, p k → q k → r k → s k) : Ev s := ((h.and h').and h'').imp fun k hk => f k hk.1.1 hk.1.2 hk.2
theorem Ev.imp4 {p q r s t : Nat → Prop} (h : Ev p) (h' : Ev q) (h'' : Ev r) (h3 : Ev s) (f : ∀ k, p k → q k → r k → s k → t k) : Ev t := ((h.and h').and (h''.and h3)).imp fun k hk => f k hk.1.1 hk.1.2 hk.2.1 hk.2.2
/-- One round more. -/
theorem Ev.suc {p : Nat → Prop} (h : Ev fun k => p (k + 1)) : Ev p := by
  obtain ⟨a, ha⟩ := h
  refine ⟨a + 1, fun k hk => ?_⟩
  obtain ⟨j, rfl⟩ : ∃ j, k = j + 1 := ⟨k - 1, by omega⟩
  exact ha j (by omega)
theorem Ev.plus {p : Nat → Prop} (n : Nat) (h : Ev fun k => p (k + n)) : Ev p := by
  obtain ⟨m, hm⟩ := h
  exact ⟨m + n, fun k hk => by
    have : p (k - n + n) := hm (k - n) (by omega)
    rwa [Nat.sub_add_cancel (by omega)] at this⟩
theorem Ev.some {p : Nat → Prop} (h : Ev p) : ∃ k, p k := by
  obtain ⟨a, ha⟩ := h
  exact ⟨a, ha a (Nat.le_refl _)⟩
/-- Down from the end. -/
theorem Ev.down {p : Nat → Nat → Prop} (n : Nat) (h0 : Ev (p n)) (hs : ∀ i, i < n → Ev (p (i + 1)) → Ev (p i)) : ∀ i, i ≤ n → Ev (p i) := by
  intro i hi
  obtain ⟨m, rfl⟩ : ∃ m, n = i + m := ⟨n - i, by omega⟩
  clear hi
  induction m generalizing i with
  | zero => exact h0
  | succ m ih => exact hs i (by omega) (ih (i + 1) (by rw [show i + 1 + m = i + (m + 1) by omega]; exact h0) (fun j hj => hs j (by omega)))

theorem inb_nat (i n : Nat) : inb (i : Int) n = decide (i < n) := by
  unfold inb
  by_cases h : i < n
  · simp [h, Int.natCast_nonneg]
  · simp [h]
theorem upto_nat (i n : Nat) : upto (i : Int) n = decide (i ≤ n) := by
  unfold upto
  by_cases h : i ≤ n
  · simp [h, Int.natCast_nonneg]
  · simp [h]
theorem inb_int {i : Int} {n : Nat} (h : 0 ≤ i) (h' : i < n) : inb i n = true := by simp [inb, h, h']
theorem upto_int {i : Int} {n : Nat} (h : 0 ≤ i) (h' : i ≤ n) : upto i n = true := by simp [upto, h, h']
theorem lt_nat (i n : Nat) : decide ((i : Int) < (n : Int)) = decide (i < n) := by
  by_cases h : i < n
  · simp [h]
  · simp [h]
theorem wrap64 {n : Int} (h : -9223372036854775808 ≤ n) (h' : n < 9223372036854775808) : IntKind.i64.wrap n = n := by
  simp [IntKind.wrap, IntKind.signed, IntKind.bits]
  split <;> omega
theorem wrapNat {n : Nat} (h' : n < 9223372036854775808) : IntKind.i64.wrap (n : Int) = n := wrap64 (by omega) (by omega)
theorem wrapSuc {n : Nat} (h' : n + 1 < 9223372036854775808) : IntKind.i64.wrap ((n : Int) + 1) = ((n + 1 : Nat) : Int) := by
  rw [wrap64 (by omega) (by omega)]; simp
theorem getD_get {α : Type} {l : List α} {i : Nat} {d : α} (h : i < l.length) : l.getD i d = l[i] := by
  simp [List.getD, List.getElem?_eq_getElem h]
theorem room_ok {b n : Nat} (h : n * b ≤ 140737488355328) : room b n = true := by
  unfold room; simp; exact_mod_cast h
theorem bne_len {α β : Type} (a : List α) (b : List β) : ((a.length : Int) != (b.length : Int)) = !decide (a.length = b.length) := by
  by_cases h : a.length = b.length
  · simp [h]
  · have : ¬ ((a.length : Int) = (b.length : Int)) := by omega
    simp [h, this]
theorem beq_dec {α : Type} [DecidableEq α] (a b : α) : (a == b) = decide (a = b) := by
  by_cases h : a = b <;> simp [h]
theorem bne_dec {α : Type} [DecidableEq α] (a b : α) : (a != b) = !decide (a = b) := by
  by_cases h : a = b <;> simp [h]
theorem drop_eq_iff {α : Type} {a b : List α} {i : Nat} (h : i < a.length) (h' : i < b.length) : (a.drop i = b.drop i) = (a[i] = b[i] ∧ a.drop (i + 1) = b.drop (i + 1)) := by
  rw [List.drop_eq_getElem_cons h, List.drop_eq_getElem_cons h', List.cons.injEq]
end Go.Am

/-! What a step of a plain function needs, as rules for simp with arithmetic as its discharger. -/
namespace Go.Am

theorem ifT {α : Type} {p : Prop} [Decidable p] {a b : α} (h : p) : (bif decide p then a else b) = a := by simp [h]
theorem ifF {α : Type} {p : Prop} [Decidable p] {a b : α} (h : ¬ p) : (bif decide p then a else b) = b := by simp [h]
theorem deT {p : Prop} [Decidable p] (h : p) : decide p = true := decide_eq_true h
theorem deF {p : Prop} [Decidable p] (h : ¬ p) : decide p = false := decide_eq_false h
theorem beT {a b : Int} (h : a = b) : (a == b) = true := by simp [h]
theorem beF {a b : Int} (h : ¬ a = b) : (a == b) = false := by simp [h]
theorem bnT {a b : Int} (h : ¬ a = b) : (a != b) = true := by simp [h]
theorem bnF {a b : Int} (h : a = b) : (a != b) = false := by simp [h]
theorem inT {i : Int} {n : Nat} (h : 0 ≤ i ∧ i < n) : inb i n = true := inb_int h.1 h.2
theorem upT {i : Int} {n : Nat} (h : 0 ≤ i ∧ i ≤ n) : upto i n = true := upto_int h.1 h.2
theorem roT {b n : Nat} (h : n * b ≤ 140737488355328) : room b n = true := room_ok h
theorem wr {n : Int} (h : -9223372036854775808 ≤ n ∧ n < 9223372036854775808) : IntKind.i64.wrap n = n := wrap64 h.1 h.2
theorem wr8 {n : Int} (h : 0 ≤ n ∧ n < 256) : IntKind.u8.wrap n = n := by
  simp [IntKind.wrap, IntKind.signed, IntKind.bits]; omega
theorem wr32 {n : Int} (h : 0 ≤ n ∧ n < 4294967296) : IntKind.u32.wrap n = n := by
  simp [IntKind.wrap, IntKind.signed, IntKind.bits]; omega
theorem wrU {n : Int} (h : 0 ≤ n ∧ n < 18446744073709551616) : IntKind.u64.wrap n = n := by
  simp [IntKind.wrap, IntKind.signed, IntKind.bits]; omega

/-- Two fuels: one of the recursion, one of the loop. -/
def Ev2 {α : Type} (g : Nat → α) (h : Nat → α) (k0 : Nat) : Prop := ∀ j, k0 ≤ j → ∃ k, k0 ≤ k ∧ g j = h k
theorem Ev2.self {α : Type} (h : Nat → α) (k0 : Nat) : Ev2 h h k0 := fun j hj => ⟨j, hj, rfl⟩
theorem Ev2.const {α : Type} (h : Nat → α) {k0 k : Nat} (l : k0 ≤ k) : Ev2 (fun _ => h k) h k0 := fun _ _ => ⟨k, l, rfl⟩
end Go.Am

/-! The row of a law of arguments of so much bulk. -/
namespace Go.Am
open Go.RowKit
theorem law_lifted_upto {D : Nat → Type} {C : Checked} {cx : Cx D} (ok : CxOk cx C.prog) (nm : Naming cx) (fit : Fit nm C.prog) {f : FuncId} {fn : Func} {body : Code} (hf : C.prog.funcs[f]? = some fn) (hb : fn.body = some body) (hname : (fn.name == "runtime.NumGoroutine") = false)
    {Ts : List TypeId} {ts : List Ty} (hps : fn.params.toList = Ts) {B : TypeId} (hres : fn.resultTypes = #[B]) (hB : C.prog.underlying B = some .bool) (hT : All2 (TyAt cx) Ts ts) {N : Nat}
    (law : ∀ x : ArgsT D ts, WfArgs cx ts x → argsB cx ts x ≤ N → ∃ c : Dr D Bool, FnOk C.prog cx f c ∧ c (argsPV cx ts x) [] ansK = some true)
    (hread : Ts.all (fun T => C.prog.readableRec T && decide (T < C.prog.types.size)) = true) (hlaid : laidOutB C.prog = true)
    {s : ChangeSpec} (hvars : s.vars = []) (hs : ∀ (H : Type) (ds : List (DataW H)), ds.length = Ts.length → s.fn H ds = { results := [.lit (.bool true)], args := ds })
    {S : OpenSpec} {k : (H : Type) → List (DataW H) → Bool} (hS : S = { OpenSpec.ofChange s with cond := some k }) (hk : ∀ (H : Type) (ds : List (DataW H)), k H ds = true → bulkA ds ≤ N)
    {os : Os} {conds : List PathCond} (own : ownKnob C.prog.godebug = none) (started : os.Started) (noInit : C.prog.inits.idxOf? f = none) {H : Type} {enc : TypeId × Value → H} {F : Stop.Interp}
    (witness : ∃ (w : World) (tape : Tape) (i : Input), w.os = os ∧ (w.forCall tape i).Shaped C.prog ∧ i.vars = [] ∧ Input.okWide C.prog (w.forCall tape i) .any w.heap.size f i ∧
      S.pre6 enc C.prog fn conds false (w.forCall tape i).memory i.args ∧ ({} : Assume).holds C.prog (lone (Frame.enter C.prog f i.args .normal) [] (w.forCall tape i))) (hg : ∀ F W, GInv cx F W := by intro _ _; exact GInv.none rfl rfl) :
    ReturnsInHanded {} C os f .any (S.pre6 enc C.prog fn conds false) ((S.at F).post enc C.prog fn false true false false) := by
  subst hS
  refine returnsInHanded_of_calls own started noInit witness ?_
  intro w tape i _ _ _ hok hpre hholds
  obtain ⟨_, _, _, fn', hfn', _, _, _, _, hval⟩ := hok
  have e : fn' = fn := Option.some.inj (hfn'.symm.trans hf)
  subst e
  obtain ⟨ds, gs, before, hw, hc, hkk⟩ := (OpenSpec.pre_some (s := { OpenSpec.ofChange s with cond := some k }) rfl conds false _ _).1 hpre.1
  have hsz := hpre.2.weights hw
  have hW := DataW.Whole.of_heap (w' := w.forCall tape i) (by rfl) hw
  have hW' := hW
  obtain ⟨p, q, hA, hV, rfl, hfz, hnd⟩ := hW
  have hvars' : ({ OpenSpec.ofChange s with cond := some k } : OpenSpec).vars = [] := hvars
  rw [hvars'] at hV
  obtain ⟨rfl, rfl⟩ := ChangeShapes.trodVars_none hV
  rw [hps] at hA
  have hval' : ∀ (j : Nat) t v, Ts[j]? = some t → i.args.toList[j]? = some v → Value.okWide C.prog (w.forCall tape i) .any w.heap.size t v := by
    intro j t v h1 h2
    refine hval j t v ?_ (by rw [← Array.getElem?_toList]; exact h2)
    rw [← Array.getElem?_toList, hps]; exact h1
  have hwt : ∀ m ∈ DataW.weightsEach C.prog Ts ds, m ≤ reachBytes := by
    have e : s.plain.varTypes C.prog = [] := by simp [DataSpec.varTypes, ChangeSpec.plain, hvars]
    have e' : ({ OpenSpec.ofChange s with cond := some k } : OpenSpec).bare.plain.varTypes C.prog = [] := e
    rw [e', List.append_nil, List.append_nil, hps] at hsz
    intro m hm
    simpa using List.all_eq_true.1 hsz m hm
  have hbk := hk H (ds ++ []) hkk
  rw [List.append_nil] at hbk
  have main := law_calls ok nm fit hf hb hname hT (fun x hx hx' => law x hx (Nat.le_trans hx' hbk)) hval' hA hwt (hg _ _)
  refine main.mono ?_
  rintro e W' ⟨rfl, bel⟩
  have hfn := hs H (ds ++ []) (by simp [trodAll_len hA])
  refine ChangeSpec.post_blind (s := s) ?_
  refine ⟨ds, [], _, [], p, [], hW', ?_, ?_, ?_, bel.frame _, fun h => by cases h⟩
  · rw [hfn, hres]
    exact ChangeShapes.trodAll_mk1 (shut_bool hB _)
  · rw [hfn, hps, List.append_nil]
    exact trodAll_below hlaid bel hread hA
  · rw [hfn, hvars]; rfl
end Go.Am

/-! The row of a law that looks at variables of the package, with or without a bound on the arguments' bulk. -/
namespace Go.Am
open Go.RowKit
theorem law_row {D : Nat → Type} {C : Checked} {cx : Cx D} (ok : CxOk cx C.prog) (nm : Naming cx) (fit : Fit nm C.prog) {f : FuncId} {fn : Func} {body : Code} (hf : C.prog.funcs[f]? = some fn) (hb : fn.body = some body) (hname : (fn.name == "runtime.NumGoroutine") = false)
    {Ts : List TypeId} {ts : List Ty} (hps : fn.params.toList = Ts) {B : TypeId} (hres : fn.resultTypes = #[B]) (hB : C.prog.underlying B = some .bool) (hT : All2 (TyAt cx) Ts ts)
    {laid : List (String × DataW Unit)} (hg : ∀ W, laidMetH C.prog laid W → GInv cx (fun b => b < W.heap.size) W) {N : Option Nat}
    (law : ∀ x : ArgsT D ts, WfArgs cx ts x → (∀ n, N = some n → argsB cx ts x ≤ n) → ∃ c : Dr D Bool, FnOk C.prog cx f c ∧ c (argsPV cx ts x) [] ansK = some true)
    (hread : Ts.all (fun T => C.prog.readableRec T && decide (T < C.prog.types.size)) = true) (hlaid : laidOutB C.prog = true)
    {s : ChangeSpec} (hvars : s.vars = []) (hs : ∀ (H : Type) (ds : List (DataW H)), ds.length = Ts.length → s.fn H ds = { results := [.lit (.bool true)], args := ds })
    {S : OpenSpec} {k : Option ((H : Type) → List (DataW H) → Bool)} (hS : S = { OpenSpec.ofChange s with cond := k }) (hk : ∀ n, N = some n → ∀ (H : Type) (ds : List (DataW H)), (∀ c, k = some c → c H ds = true) → bulkA ds ≤ n)
    {os : Os} {conds : List PathCond} (own : ownKnob C.prog.godebug = none) (started : os.Started) (noInit : C.prog.inits.idxOf? f = none) {H : Type} {enc : TypeId × Value → H} {F : Stop.Interp}
    (witness : ∃ (w : World) (tape : Tape) (i : Input), w.os = os ∧ (w.forCall tape i).Shaped C.prog ∧ i.vars = [] ∧ Input.okWide C.prog (w.forCall tape i) .any w.heap.size f i ∧
      S.preRow enc C.prog fn conds false laid (w.forCall tape i).memory i.args ∧ ({} : Assume).holds C.prog (lone (Frame.enter C.prog f i.args .normal) [] (w.forCall tape i))) :
    ReturnsInHanded {} C os f .any (S.preRow enc C.prog fn conds false laid) ((S.at F).post enc C.prog fn false true false false) := by
  subst hS
  refine returnsInHanded_of_row own started noInit hf witness ?_
  intro W base args ds gs before hval hW _ hcond hsz hL _ _
  have hW' := hW
  obtain ⟨p, q, hA, hV, rfl, hfz, hnd⟩ := hW
  have hvars' : ({ OpenSpec.ofChange s with cond := k } : OpenSpec).vars = [] := hvars
  rw [hvars'] at hV
  obtain ⟨rfl, rfl⟩ := ChangeShapes.trodVars_none hV
  rw [hps] at hA
  have hval' : ∀ (j : Nat) t v, Ts[j]? = some t → args.toList[j]? = some v → Value.okWide C.prog W .any base t v := by
    intro j t v h1 h2
    refine hval j t v ?_ (by rw [← Array.getElem?_toList]; exact h2)
    rw [← Array.getElem?_toList, hps]; exact h1
  have hwt : ∀ m ∈ DataW.weightsEach C.prog Ts ds, m ≤ reachBytes := by
    have e : s.plain.varTypes C.prog = [] := by simp [DataSpec.varTypes, ChangeSpec.plain, hvars]
    have e' : ({ OpenSpec.ofChange s with cond := k } : OpenSpec).bare.plain.varTypes C.prog = [] := e
    rw [e', List.append_nil, List.append_nil, hps] at hsz
    intro m hm
    simpa using List.all_eq_true.1 hsz m hm
  have hbk : ∀ n, N = some n → bulkA ds ≤ n := fun n hn => by
    have := hk n hn H (ds ++ []) hcond
    rwa [List.append_nil] at this
  have main := law_calls ok nm fit hf hb hname hT (fun x hx hx' => law x hx fun n hn => Nat.le_trans hx' (hbk n hn)) hval' hA hwt (hg _ hL)
  refine main.mono ?_
  rintro e W' ⟨rfl, bel⟩
  have hfn := hs H (ds ++ []) (by simp [trodAll_len hA])
  refine ⟨_, rfl, ?_⟩
  show s.post enc C.prog fn false true false false W args _ W'
  refine ⟨ds, [], _, [], p, [], hW', ?_, ?_, ?_, bel.frame _, fun h => by cases h⟩
  · rw [hfn, hres]
    exact ChangeShapes.trodAll_mk1 (shut_bool hB _)
  · rw [hfn, hps, List.append_nil]
    exact trodAll_below hlaid bel hread hA
  · rw [hfn, hvars]; rfl
/-- 'There is an input that fits', at a world that is written out, whose variables may point. -/
theorem witness_row_ref {H : Type} {enc : TypeId × Value → H} {C : Checked} {os : Os} {f : FuncId} {fn : Func} {s : OpenSpec} {conds : List PathCond} {apart : Bool} {laid : List (String × DataW Unit)} (modest : Bool) (w0 : World) (args : Array Value) (hos : w0.os = os)
    (hv : (w0.forCall (fun _ _ => 0) ⟨#[], args, []⟩).variablesRefB C.prog = true)
    (hr : ((w0.forCall (fun _ _ => 0) ⟨#[], args, []⟩).heap.toList.drop C.prog.globals.size).take ((begin C.prog (fun _ _ => 0) default).world.heap.size - C.prog.globals.size) =
      (begin C.prog (fun _ _ => 0) default).world.heap.toList.drop C.prog.globals.size)
    (hok : Input.okWideB C.prog (w0.forCall (fun _ _ => 0) ⟨#[], args, []⟩) f ⟨#[], args, []⟩ = true)
    (hrow : s.preRow enc C.prog fn conds apart laid (w0.forCall (fun _ _ => 0) ⟨#[], args, []⟩).memory args) :
    ∃ (w : World) (tape : Tape) (i : Input), w.os = os ∧ (w.forCall tape i).Shaped C.prog ∧ i.vars = [] ∧ Input.okWide C.prog (w.forCall tape i) .any w.heap.size f i ∧
      s.preRow enc C.prog fn conds apart laid (w.forCall tape i).memory i.args ∧ ({ modest := modest } : Assume).holds C.prog (lone (Frame.enter C.prog f i.args .normal) [] (w.forCall tape i)) := by
  obtain ⟨w, tape, i, h1, h2, h3, h4, h5, h6, _⟩ := OpenSpec.witness_stopped_atRef (enc := enc) (C := C) (fn := fn) (s := s) (conds := conds) (apart := apart) (laid := laid) modest w0 args hos hv hr hok hrow (fun _ _ _ => 0)
  exact ⟨w, tape, i, h1, h2, h3, h4, h5, h6⟩
end Go.Am

/-! Contracts by hand: a function that writes into one box, or nothing. -/
namespace Go.Am
variable {D : Nat → Type} {R : Type} {cx : Cx D} {β : Beta} {F : Nat → Prop} {w W' : World} {P : Program}

theorem atL_one (ob : Obj D) (m : Nat) : atL [some ob] m = if m = 0 then some ob else none := by
  cases m with
  | zero => rfl
  | succ m => rfl

/-- Nothing is changed. -/
theorem ret_same {os : List (Obj D)} (hp : HRep cx (atL (os.map some)) β F w) {p : PV D} {v : Value} (hn : names p = []) (hv : PRep cx (fun m => shO cx (atL (os.map some) m)) β F w p v) (hob : ∀ m, ∀ n ∈ namesO (atL (os.map some) m), n < os.length) :
    Ret cx os β F w v w ⟨p, os.map some⟩ β F where
  len := by simp
  vs n h := by rw [hn] at h; simp at h
  obs m n h := by have := hob m n h; simpa using this
  hp := hp
  rep := hv
  step := by
    have e : (os.map some).length = os.length := by simp
    show Step _ _ _ _ _ _ (below (os.map some).length) _ _ _
    rw [e]
    exact .refl _ _ _ _ _

/-- One box has other contents. -/
theorem ret_box {cs cs' : List (PV D)} {b : Nat} {c' : Array Value} {e : TypeId} {fr : Nat × Nat} (hp : HRep cx (atL [some (.box cs)]) β F w) (hβ : β 0 = some (b, 0, 0)) (hother : ∀ x, x ≠ b → x < w.heap.size → W'.heap[x]? = w.heap[x]?)
    (hsz : w.heap.size ≤ W'.heap.size) (hat : W'.heap[b]? = some (.cells c' e fr)) (hfree : ∀ j, j < c'.size → ¬ (fr.1 ≤ j ∧ j < fr.2)) (hreps : ∀ S, PReps cx S β F W' cs' c'.toList) (hos : W'.os = w.os) (htape : W'.tape = w.tape) (hout : W'.output = w.output)
    (hn : names.go cs' = []) {p : PV D} {v : Value} (hpn : names p = []) (hv : ∀ S, PRep cx S β F W' p v) : Ret cx [.box cs] β F w v W' ⟨p, [some (.box cs')]⟩ β F := by
  have hO : atL [some (.box cs')] = upd (atL [some (.box cs)]) 0 (some (.box cs')) := by
    funext m
    rw [atL_one]
    by_cases hm : m = 0
    · subst hm; rw [upd_same]; rfl
    · rw [if_neg hm, upd_ne _ _ _ _ hm, atL_one, if_neg hm]
  have hwr0 : Wr (atL [some (.box cs)]) β 0 b := ⟨⟨_, hβ⟩, by simp [atL]⟩
  have hwr : ∀ n x, Wr (atL [some (Obj.box cs)]) β n x → n = 0 ∧ x = b := by
    rintro n x ⟨⟨y, hy⟩, h2⟩
    by_cases hm : n = 0
    · subst hm; rw [hβ] at hy; simp at hy; exact ⟨rfl, hy.1.symm⟩
    · rw [atL_one, if_neg hm] at h2; exact h2.elim
  have hF : ∀ x, F x → W'.heap[x]? = w.heap[x]? := fun x hx => hother x (by rintro rfl; exact hp.away 0 _ hwr0 hx) (hp.fin x hx)
  have hp' : HRep cx (atL [some (.box cs')]) β F W' := by
    rw [hO]
    refine hp.set 0 (.box cs) (.box cs') rfl rfl (fun x hx => ?_) hF (fun n x hn hx => absurd (hwr n x hx).1 hn) hsz ⟨b, c', e, fr, hβ, hat, hfree, hreps _⟩
    obtain ⟨⟨y, hy⟩, h2⟩ := hx
    rw [hβ] at hy; simp at hy
    rw [← hy.1]; exact hwr0
  refine ⟨by simp, fun n h => by rw [hpn] at h; simp at h, fun m n h => ?_, hp', hv _, ⟨fun n h => h, fun _ _ => rfl, ⟨hos, htape, hout, hsz, fun x hx hnw => hother x (by rintro rfl; exact hnw ⟨0, hwr0⟩) hx⟩, fun n x hx => ?_, fun _ h => h, fun _ h => .inl h, fun n hn => .inr ?_⟩⟩
  · rw [show atL (RV.mk p [some (Obj.box cs')]).os m = atL [some (.box cs')] m from rfl, atL_one] at h
    split at h
    · simp [namesO, hn] at h
    · simp [namesO] at h
  · refine .inl ⟨0, ?_⟩
    have : Wr (atL [some (.box cs')]) β n x := hx
    obtain ⟨⟨y, hy⟩, h2⟩ := this
    by_cases hm : n = 0
    · subst hm; rw [hβ] at hy; simp at hy; rw [← hy.1]; exact hwr0
    · rw [atL_one, if_neg hm] at h2; exact h2.elim
  · have h0 : n = 0 := by have := below_iff.1 hn; simp at this; exact this
    subst h0
    trivial

/-- A call of a function with a body. -/
theorem callOut_of {f : FuncId} {fn : Func} {body : Code} (hf : P.funcs[f]? = some fn) (hb : fn.body = some body) (hname : (fn.name == "runtime.NumGoroutine") = false) {vals : Array Value} {RS : Value → World → Prop}
    (h : Calls P f vals w fun e w' => ∃ v, e = .returned v ∧ RS v w') : CallOut P f vals w RS := by
  right
  have hname' : ¬ fn.name = "runtime.NumGoroutine" := by simpa using hname
  exact ⟨by simp [callFunc, hf, hname', hb], h⟩

theorem setLs_two (c : Array Value) (h : c.size = 2) (a b : Value) : setLs c 0 [a, b] = #[a, b] := by
  apply Array.ext'
  rw [setLs_list _ _ _ (by simp [h])]
  have : c.toList.length = 2 := by simpa using h
  match hc : c.toList, this with
  | [x, y], _ => simp
end Go.Am

/-! What plain laws share. -/
namespace Go.Am

/-- Two fuels, both large. -/
def EvB (p : Nat → Nat → Prop) : Prop := ∃ k0, ∀ q, k0 ≤ q → ∀ j, k0 ≤ j → p q j
theorem EvB.suc {p : Nat → Nat → Prop} (h : EvB fun q j => p q (j + 1)) : EvB p := by
  obtain ⟨a, ha⟩ := h
  refine ⟨a + 1, fun q hq j hj => ?_⟩
  obtain ⟨j, rfl⟩ : ∃ i, j = i + 1 := ⟨j - 1, by omega⟩
  exact ha q (by omega) j (by omega)
theorem EvB.all {p : Nat → Nat → Prop} (h : ∀ q j, p q j) : EvB p := ⟨0, fun q _ j _ => h q j⟩
theorem EvB.imp {p p' : Nat → Nat → Prop} (h : EvB p) (f : ∀ q j, p q j → p' q j) : EvB p' := by
  obtain ⟨a, ha⟩ := h
  exact ⟨a, fun q hq j hj => f q j (ha q hq j hj)⟩
theorem EvB.and {p p' : Nat → Nat → Prop} (h : EvB p) (h' : EvB p') : EvB fun q j => p q j ∧ p' q j := by
  obtain ⟨a, ha⟩ := h
  obtain ⟨b, hb⟩ := h'
  exact ⟨max a b, fun q hq j hj => ⟨ha q (by omega) j (by omega), hb q (by omega) j (by omega)⟩⟩
theorem EvB.left {p : Nat → Prop} (h : Ev p) : EvB fun q _ => p q := by
  obtain ⟨a, ha⟩ := h
  exact ⟨a, fun q hq j _ => ha q hq⟩
theorem EvB.right {p : Nat → Prop} (h : Ev p) : EvB fun _ j => p j := by
  obtain ⟨a, ha⟩ := h
  exact ⟨a, fun q _ j hj => ha j hj⟩
theorem EvB.diag {p : Nat → Nat → Prop} (h : EvB p) : Ev fun k => p k k := by
  obtain ⟨a, ha⟩ := h
  exact ⟨a, fun k hk => ha k hk k hk⟩
theorem EvB.down {p : Nat → Nat → Nat → Prop} (n : Nat) (h0 : EvB (p n)) (hs : ∀ i, i < n → EvB (p (i + 1)) → EvB (p i)) : ∀ i, i ≤ n → EvB (p i) := by
  intro i hi
  obtain ⟨m, rfl⟩ : ∃ m, n = i + m := ⟨n - i, by omega⟩
  clear hi
  induction m generalizing i with
  | zero => exact h0
  | succ m ih => exact hs i (by omega) (ih (i + 1) (by rw [show i + 1 + m = i + (m + 1) by omega]; exact h0) (fun j hj => hs j (by omega)))


theorem Ev.up {p : Nat → Prop} (h : Ev p) : Ev fun k => p (k + 1) := by
  obtain ⟨a, ha⟩ := h
  exact ⟨a, fun k hk => ha (k + 1) (by omega)⟩
theorem reachV : reachBytes = 140737488351232 := rfl
def okBy (b : List Int) : Prop := ∀ n ∈ b, 0 ≤ n ∧ n < 256
theorem okBy.drop {b : List Int} (h : okBy b) (i : Nat) : okBy (b.drop i) := fun n hn => h n (List.mem_of_mem_drop hn)
theorem okBy.take {b : List Int} (h : okBy b) (i : Nat) : okBy (b.take i) := fun n hn => h n (List.mem_of_mem_take hn)
theorem okBy.get {b : List Int} (h : okBy b) {i : Nat} (hi : i < b.length) : 0 ≤ b[i] ∧ b[i] < 256 := h _ (List.getElem_mem hi)
theorem okBy.append {a b : List Int} (h : okBy a) (h' : okBy b) : okBy (a ++ b) := fun n hn => by
  rcases List.mem_append.1 hn with h1 | h1
  · exact h n h1
  · exact h' n h1
theorem wrapAdd {a b : Nat} (h : a + b < 9223372036854775808) : IntKind.i64.wrap ((a : Int) + (b : Int)) = ((a + b : Nat) : Int) := by
  rw [wrap64 (by omega) (by omega)]; simp
theorem wrapSub {a b : Nat} (h : b ≤ a) (h' : a < 9223372036854775808) : IntKind.i64.wrap ((a : Int) - (b : Int)) = ((a - b : Nat) : Int) := by
  rw [wrap64 (by omega) (by omega)]; omega
theorem wrapU8 (x : Int) : IntKind.u8.wrap x = x % 256 := by
  simp [IntKind.wrap, IntKind.signed, IntKind.bits]
theorem mk_ok {n : Nat} (hn : n ≤ 140737488355328) : ((decide ((0 : Int) ≤ (n : Int))) && (decide ((n : Int) ≤ (n : Int))) && (decide ((n : Int) * ((1 : Nat) : Int) ≤ 140737488355328))) = true := by
  simp; omega
theorem wrapU64 {x : Int} (h : 0 ≤ x) (h' : x < 18446744073709551616) : IntKind.u64.wrap x = x := by
  simp [IntKind.wrap, IntKind.signed, IntKind.bits]; omega
theorem shr8 (w : Int) : shrI .u64 w 8 = w / 256 := by
  have : (min (8 : Int).toNat IntKind.u64.bits) = 8 := rfl
  unfold shrI
  rw [this, Int.fdiv_eq_ediv_of_nonneg _ (by decide)]
  rfl
def valF (l : List Int) (v : Int) : Int := l.foldl (fun v c => v * 256 + c) v
theorem valF_cons (c : Int) (l : List Int) (v : Int) : valF (c :: l) v = valF l (v * 256 + c) := rfl
theorem pow_pos256 (n : Nat) : (0 : Int) < 256 ^ n := Int.pow_pos (by decide)
theorem valF_bound : ∀ {l : List Int}, okBy l → ∀ (v : Int), v * 256 ^ l.length ≤ valF l v ∧ valF l v < (v + 1) * 256 ^ l.length
  | [], _, v => by simp [valF]; omega
  | c :: l, h, v => by
    have hc := h c (by simp)
    obtain ⟨h1, h2⟩ := valF_bound (l := l) (fun n hn => h n (by simp [hn])) (v * 256 + c)
    have hp := pow_pos256 l.length
    rw [valF_cons, List.length_cons, Int.pow_succ, Int.mul_comm (256 ^ l.length) 256, ← Int.mul_assoc, ← Int.mul_assoc]
    constructor
    · refine Int.le_trans ?_ h1
      exact Int.mul_le_mul_of_nonneg_right (by omega) (Int.le_of_lt hp)
    · refine Int.lt_of_lt_of_le h2 ?_
      exact Int.mul_le_mul_of_nonneg_right (by omega) (Int.le_of_lt hp)

theorem ofInt_nat {n : Nat} (h : n < 18446744073709551616) : (BitVec.ofInt 64 (n : Int)).toNat = n := by
  rw [BitVec.toNat_ofInt]
  have e : (2 ^ 64 : Nat) = 18446744073709551616 := by decide
  rw [e, Int.emod_eq_of_lt (by omega) (by omega)]
  omega
theorem or_byteU {a c : Int} (h : 0 ≤ a) (h' : a < 72057594037927936) (hc : 0 ≤ c) (hc' : c < 256) : orI .u64 (shlI .u64 a 8) (IntKind.u64.wrap c) = a * 256 + c := by
  obtain ⟨n, rfl⟩ : ∃ n : Nat, a = n := ⟨a.toNat, by omega⟩
  obtain ⟨m, rfl⟩ : ∃ n : Nat, c = n := ⟨c.toNat, by omega⟩
  have s : shlI .u64 (n : Int) 8 = ((256 * n : Nat) : Int) := by
    have : (min (8 : Int).toNat IntKind.u64.bits) = 8 := rfl
    unfold shlI
    rw [this]
    have e : (n : Int) * 2 ^ 8 = ((256 * n : Nat) : Int) := by
      have : (2 : Int) ^ 8 = 256 := by decide
      rw [this]; omega
    rw [e, wrapU64 (by omega) (by omega)]
  rw [s, wrapU64 (by omega) (by omega)]
  have e1 : (BitVec.ofInt IntKind.u64.bits ((256 * n : Nat) : Int)).toNat = 256 * n := ofInt_nat (by omega)
  have e2 : (BitVec.ofInt IntKind.u64.bits (m : Int)).toNat = m := ofInt_nat (by omega)
  unfold orI
  rw [BitVec.toNat_or, e1, e2]
  have e3 : 256 * n = 2 ^ 8 * n := rfl
  rw [e3, ← Nat.two_pow_add_eq_or_of_lt (i := 8) (by omega) n, wrapU64 (by omega) (by omega)]
  omega
/-- So many bytes of a number. -/
def beB : Nat → Int → List Int
  | 0, _ => []
  | n + 1, w => beB n (w / 256) ++ [w % 256]
theorem beB_len : ∀ (n : Nat) (w : Int), (beB n w).length = n
  | 0, _ => rfl
  | n + 1, w => by rw [beB, List.length_append, beB_len n]; rfl
theorem beB_ok : ∀ (n : Nat) (w : Int), okBy (beB n w)
  | 0, _ => by intro x hx; simp [beB] at hx
  | n + 1, w => by
    intro x hx
    rw [beB] at hx
    rcases List.mem_append.1 hx with hx | hx
    · exact beB_ok n _ x hx
    · simp at hx; omega
theorem set_drop {out : List Int} {n : Nat} (h : n < out.length) (x : Int) : (out.set n x).drop n = x :: out.drop (n + 1) := by
  rw [List.drop_eq_getElem_cons (by simpa using h)]
  simp [List.drop_set]

theorem shr8i (w : Int) : shrI .i64 w 8 = w / 256 := by
  have : (min (8 : Int).toNat IntKind.i64.bits) = 8 := rfl
  unfold shrI
  rw [this, Int.fdiv_eq_ediv_of_nonneg _ (by decide)]
  rfl
theorem valF_append (l m : List Int) (v : Int) : valF (l ++ m) v = valF m (valF l v) := by simp [valF]
theorem valF_beB : ∀ (n : Nat) (w : Int), 0 ≤ w → w < 256 ^ n → valF (beB n w) 0 = w
  | 0, w, h, h' => by simp at h'; simp [beB, valF]; omega
  | n + 1, w, h, h' => by
    have e : (256 : Int) ^ (n + 1) = 256 ^ n * 256 := Int.pow_succ ..
    have h2 : w / 256 < 256 ^ n := by
      have hp := pow_pos256 n
      exact Int.ediv_lt_of_lt_mul (by decide) (by rw [← e]; exact h')
    rw [beB, valF_append, valF_beB n (w / 256) (by omega) h2]
    simp [valF]; omega
theorem beB_valF : ∀ (n : Nat) (l : List Int), okBy l → l.length = n → beB n (valF l 0) = l
  | 0, l, _, h => by cases l with
    | nil => rfl
    | cons x l => simp at h
  | n + 1, l, ho, h => by
    obtain ⟨m, x, rfl⟩ : ∃ m x, l = m ++ [x] := ⟨l.dropLast, l.getLast (by rintro rfl; simp at h), (List.dropLast_concat_getLast _).symm⟩
    have hx := ho x (by simp)
    have hm : okBy m := fun n hn => ho n (by simp [hn])
    have hl : m.length = n := by simpa using h
    rw [valF_append]
    have e : valF [x] (valF m 0) = valF m 0 * 256 + x := rfl
    rw [e, beB]
    have h1 : (valF m 0 * 256 + x) / 256 = valF m 0 := by omega
    have h2 : (valF m 0 * 256 + x) % 256 = x := by omega
    rw [h1, h2, beB_valF n m hm hl]

/-! ### Strings -/
theorem okBy_bytesOf (a : ByteArray) : okBy (bytesOf a) := by
  intro n hn
  simp only [bytesOf, List.mem_map] at hn
  obtain ⟨c, _, rfl⟩ := hn
  have := c.toNat_lt
  omega
theorem bytesOf_len (a : ByteArray) : (bytesOf a).length = a.size := by simp [bytesOf]
theorem strOf_bytesOf (a : ByteArray) : strOf (bytesOf a) = a := by
  obtain ⟨⟨l⟩⟩ := a
  simp [strOf, bytesOf, Function.comp_def]
theorem bytesOf_strOf {l : List Int} (h : okBy l) : bytesOf (strOf l) = l := by
  simp only [strOf, bytesOf, List.map_map]
  conv => rhs; rw [← List.map_id l]
  refine List.map_congr_left fun n hn => ?_
  obtain ⟨h1, h2⟩ := h n hn
  simp only [Function.comp_apply, id_eq]
  rw [UInt8.toNat_ofNat_of_lt' (show n.toNat < UInt8.size by have : UInt8.size = 256 := rfl; omega)]
  omega
theorem strOf_size (l : List Int) : (strOf l).size = l.length := by
  show (List.map _ l).toArray.size = _
  simp
theorem str_inj {a b : ByteArray} (h : bytesOf a = bytesOf b) : a = b := by rw [← strOf_bytesOf a, ← strOf_bytesOf b, h]
theorem str_beq (a b : ByteArray) : (a.toList == b.toList) = decide (bytesOf a = bytesOf b) := by
  by_cases h : bytesOf a = bytesOf b
  · have := str_inj h
    subst this
    simp
  · have : ¬ a.toList = b.toList := fun e => h (by
      rw [Go.ByteArray.toList_eq, Go.ByteArray.toList_eq] at e
      simp only [bytesOf, e])
    simp [this, h]
theorem str_get (a : ByteArray) (i : Nat) : ((a.data.toList.getD i 0).toNat : Int) = (bytesOf a).getD i 0 := by
  simp only [bytesOf, List.getD_eq_getElem?_getD, List.getElem?_map]
  cases a.data.toList[i]? <;> rfl
end Go.Am
