/- Proved: the abstract machine's code, loops and regions in any order do what the program's do. Conditions: none. -/
import Derived.Test.YtehmahdngjdhpaaDoorMach2
import Derived.Orders
import Derived.Scope

set_option maxRecDepth 100000
/-! Cuts. -/
namespace Go.Am
variable {D : Nat → Type} {R : Type} {cx : Cx D} {N : Nat} {s s1 : St D} {β β' β1 : Beta} {F F' F1 : Nat → Prop} {a : Act} {w w' : World} {P : Program}

theorem All2.set {α β : Type} {Rl : α → β → Prop} {l : List α} {m : List β} (h : All2 Rl l m) (i : Nat) {x : α} (hx : ∀ y, m[i]? = some y → Rl x y) : All2 Rl (l.set i x) m := by
  refine .of_get _ _ (by simpa using h.length) fun j a b ha hb => ?_
  rw [List.getElem?_set] at ha
  split at ha
  · rename_i hij
    subst hij
    split at ha
    · simp at ha; subst ha; exact hx b hb
    · simp at ha
  · obtain ⟨b', hb', hr⟩ := h.get j a ha
    rw [hb] at hb'; simp at hb'; subst hb'; exact hr

theorem names_set {l : List (PV D)} {i n : Nat} {x : PV D} (h : n ∈ names.go (l.set i x)) : n ∈ names x ∨ n ∈ names.go l := by
  obtain ⟨p, hp, hn⟩ := mem_names_go.1 h
  rcases List.mem_or_eq_of_mem_set hp with hp | rfl
  · exact .inr (mem_names_go.2 ⟨p, hp, hn⟩)
  · exact .inl hn

/-- A place's value is called otherwise. -/
theorem setL_sound (hs : SRep cx N s β F a w) (h1 : SRep cx N s1 β1 F1 a w) (ht : s1.t = s.t) (hb : ∀ o cs, s1.o o = some (.box cs) → s.o o = some (.box cs) ∧ β1 o = β o) (l : Loc) {p : PV D}
    (hp : ∀ v, PRep cx (fun m => shO cx (s.o m)) β F w (getL s l) v → PRep cx (fun m => shO cx (s1.o m)) β1 F1 w p v) (hu : ∀ n ∈ names p, s1.u n = true) :
    SRep cx N (setL s1 p l) β1 F1 a w ∧ Step s1.o s1.u β1 F1 w (setL s1 p l).o (setL s1 p l).u β1 F1 w := by
  cases l with
  | tmp t =>
    refine ⟨⟨h1.tn, fun i => ?_, h1.hp, fun i n hn => ?_, h1.ub, h1.uo⟩, .refl _ _ _ _ _⟩
    · simp only [setL, St.put]
      by_cases hi : i = t
      · subst hi; rw [upd_same]; exact hp _ (hs.tm i)
      · rw [upd_ne _ _ _ _ hi]; exact h1.tm i
    · simp only [setL, St.put] at hn
      by_cases hi : i = t
      · subst hi; rw [upd_same] at hn; exact hu n hn
      · rw [upd_ne _ _ _ _ hi] at hn; exact h1.us i n hn
  | part t i =>
    simp only [setL]
    split
    · rename_i l hl
      have hl' : s.t t = .agg l := by rw [← ht]; exact hl
      refine ⟨⟨h1.tn, fun j => ?_, h1.hp, fun j n hn => ?_, h1.ub, h1.uo⟩, .refl _ _ _ _ _⟩
      · simp only [St.put]
        by_cases hj : j = t
        · subst hj
          rw [upd_same]
          have k1 := h1.tm j
          have k2 := hs.tm j
          rw [hl] at k1
          rw [hl'] at k2
          obtain ⟨cs, e1, r1⟩ := k1
          obtain ⟨cs', e2, r2⟩ := k2
          rw [e1] at e2
          simp only [Value.agg.injEq] at e2
          subst e2
          refine ⟨cs, e1, (PReps_all2 ..).2 (((PReps_all2 ..).1 r1).set i fun y hy => ?_)⟩
          refine hp y ?_
          simp only [getL, hl']
          obtain ⟨q, hq, hr⟩ := ((PReps_all2 ..).1 r2).get' i y hy
          rw [List.getD_eq_getElem?_getD, hq]
          exact hr
        · rw [upd_ne _ _ _ _ hj]; exact h1.tm j
      · simp only [St.put] at hn
        by_cases hj : j = t
        · subst hj
          rw [upd_same] at hn
          rcases names_set (by simpa [names] using hn) with k | k
          · exact hu n k
          · exact h1.us j n (by rw [hl]; simpa [names] using k)
        · rw [upd_ne _ _ _ _ hj] at hn; exact h1.us j n hn
    · exact ⟨h1, .refl _ _ _ _ _⟩
  | cell o off =>
    simp only [setL]
    split
    · rename_i cs ho
      obtain ⟨hso, hbo⟩ := hb o cs ho
      obtain ⟨b, c, e, fr, hβ, hB⟩ := h1.hp.box o cs ho
      obtain ⟨b', c', e', fr', hβ', hB'⟩ := hs.hp.box o cs hso
      rw [hbo, hβ'] at hβ
      simp at hβ
      subst hβ
      have hat := hB.at_
      rw [hB'.at_] at hat
      simp only [Option.some.injEq, Go.Obj.cells.injEq] at hat
      obtain ⟨rfl, rfl, rfl⟩ := hat
      refine h1.boxSet ho (hbo.trans hβ') (Wrote.none hB'.at_) rfl hB'.free (((PReps_all2 ..).1 hB.reps).set off fun y hy => hp y ?_) (fun n hn => ?_)
      · simp only [getL, hso]
        obtain ⟨q, hq, hr⟩ := ((PReps_all2 ..).1 hB'.reps).get' off y hy
        rw [List.getD_eq_getElem?_getD, hq]
        exact hr
      · rcases names_set hn with k | k
        · exact hu n k
        · exact h1.ub o n (by rw [ho]; exact k)
    · exact ⟨h1, .refl _ _ _ _ _⟩


/-- A row under another name, or a part of it. -/
theorem SRep.renamed (hs : SRep cx N s β F a w) {o nm : Nat} {t : Ty} {xs ys : List (t.den D)} (ho : s.o o = some (.row t xs true)) (hn : s.u nm = false) {p : Option (Nat × Nat × Nat)}
    (hp : (p = none ∧ ys = []) ∨ ∃ b off cap c e fr x, p = some (b, off, cap) ∧ β o = some (b, x) ∧ RowAt cx F w t ys true b off cap c e fr) :
    SRep cx N ((s.delO o).born nm (.row t ys true)) (upd β nm p) F a w ∧ Step s.o s.u β F w ((s.delO o).born nm (.row t ys true)).o ((s.delO o).born nm (.row t ys true)).u (upd β nm p) F w := by
  obtain ⟨d1, d2⟩ := hs.del o
  have hn' : (s.delO o).u nm = false := hn
  have hwr : ∀ b x, p = some (b, x) → Wr s.o β o b := by
    rintro b x hb
    rcases hp with ⟨h1, _⟩ | ⟨b', off, cap, c, e, fr, y, h1, h2, h3⟩
    · rw [h1] at hb; simp at hb
    · rw [h1] at hb; simp at hb; obtain ⟨rfl, _⟩ := hb
      exact ⟨⟨_, h2⟩, by simp [ho]⟩
  have hne : o ≠ nm := by rintro rfl; have := hs.uo o (by simp [ho]); simp [hn] at this
  refine ⟨d1.born nm (.row t ys true) p hn' ?_ (by simp [namesO]) (fun b x hb => ⟨hs.hp.away o b (hwr b x hb), fun k hk => ?_⟩), ?_⟩
  · rcases hp with h | ⟨b, off, cap, c, e, fr, x, h1, h2, h3⟩
    · exact .inl h
    · exact .inr ⟨b, off, cap, c, e, fr, h1, h3⟩
  · obtain ⟨h5, h6⟩ := Wr.del hk
    exact h5 (hs.hp.apart k o b h6 (hwr b x hb))
  · refine ⟨fun k hk => ?_, fun k hk => ?_, .refl _ _, fun k x hx => ?_, fun _ h => h, fun _ h => .inl h, fun k hk => ?_⟩
    · simp [St.born, upd_eq, St.delO, hk]
    · exact upd_ne _ _ _ _ (by rintro rfl; simp [hn] at hk)
    · by_cases hkn : k = nm
      · subst hkn
        obtain ⟨⟨q, hq⟩, _⟩ := hx
        rw [upd_same] at hq
        exact .inl ⟨o, hwr x q hq⟩
      · have : Wr (s.delO o).o β k x := by simpa [Wr, St.born, upd_ne _ _ _ _ hkn] using hx
        exact .inl ⟨k, this.del.2⟩
    · have h5 : k ≠ nm := by rintro rfl; simp [hn] at hk
      by_cases h6 : k = o
      · subst h6; left; simp [St.born, St.delO, upd_ne _ _ _ _ h5, upd_same]
      · right; simp only [St.born, St.delO, upd_ne _ _ _ _ h5, upd_ne _ _ _ _ h6]; exact sameO_refl _

theorem getL_val (hs : SRep cx N s β F a w) (l : Loc) (h : ∀ (_hp : getL s l = .undef), False) : ∃ v, PRep cx (fun m => shO cx (s.o m)) β F w (getL s l) v := by
  cases l with
  | tmp t => exact ⟨_, hs.tm t⟩
  | part t i =>
    simp only [getL] at h ⊢
    split
    · rename_i l hl
      have k := hs.tm t
      rw [hl] at k
      obtain ⟨cs, _, r⟩ := k
      cases hi : l[i]? with
      | none => rw [hl] at h; simp [hi] at h
      | some q =>
        obtain ⟨v, _, hr⟩ := ((PReps_all2 ..).1 r).get i q hi
        exact ⟨v, by rw [List.getD_eq_getElem?_getD, hi]; exact hr⟩
    · exact ⟨.nilFunc, trivial⟩
  | cell o off =>
    simp only [getL] at h ⊢
    split
    · rename_i cs ho
      obtain ⟨b, c, e, fr, hβ, hB⟩ := hs.hp.box o cs ho
      cases hi : cs[off]? with
      | none => rw [ho] at h; simp [hi] at h
      | some q =>
        obtain ⟨v, _, hr⟩ := ((PReps_all2 ..).1 hB.reps).get off q hi
        exact ⟨v, by rw [List.getD_eq_getElem?_getD, hi]; exact hr⟩
    · exact ⟨.nilFunc, trivial⟩

theorem RowAt.sub (_ok : CxOk cx P) {t : Ty} {xs : List (t.den D)} {l : Bool} {b off cap : Nat} {c : Array Value} {e : TypeId} {fr : Nat × Nat} (hR : RowAt cx F w t xs l b off cap c e fr) {lo n : Nat} (hle : lo + n ≤ xs.length) :
    RowAt cx F w t ((xs.drop lo).take n) l b (off + lo * sz cx t) (cap - lo) c e fr where
  at_ := hR.at_
  lecap := by have := hR.lecap; simp; omega
  size := by
    have h1 := hR.size
    have h2 := hR.lecap
    have : lo * sz cx t + (cap - lo) * sz cx t = cap * sz cx t := by rw [← Nat.add_mul]; congr 1; omega
    omega
  free := hR.free
  cell i x j y hx hy := by
    rw [List.getElem?_take] at hx
    split at hx
    · rw [List.getElem?_drop] at hx
      obtain ⟨u, hu, hr⟩ := hR.cell _ x j y hx hy
      refine ⟨u, ?_, hr⟩
      rw [← hu]; congr 1; rw [Nat.add_mul]; omega
    · simp at hx
  still := hR.still

theorem shO_mapO {f : Nat → Nat} (x : Option (Obj D)) : shO cx (mapO f x) = shO cx x := by
  cases x with
  | none => rfl
  | some ob => cases ob <;> rfl
theorem renF_of {o nm n : Nat} (h : n ≠ o) : (bif Nat.beq n o then nm else n) = n := by
  have : Nat.beq n o = false := by
    cases hb : Nat.beq n o with
    | true => exact absurd (Nat.eq_of_beq_eq_true hb) h
    | false => rfl
  rw [this]; rfl
theorem renF_same {o nm : Nat} : (bif Nat.beq o o then nm else o) = nm := by
  have : Nat.beq o o = true := Nat.beq_refl o
  rw [this]; rfl
theorem renA_new {o nm : Nat} : (renA o nm s).o nm = mapO (fun k => bif Nat.beq k o then nm else k) (s.o o) := by
  show (bif Nat.beq nm nm then _ else _) = _
  have : Nat.beq nm nm = true := Nat.beq_refl nm
  rw [this]; rfl
theorem renA_old {o nm : Nat} (h : o ≠ nm) : (renA o nm s).o o = none := by
  have h1 : Nat.beq o nm = false := by
    cases hb : Nat.beq o nm with
    | true => exact absurd (Nat.eq_of_beq_eq_true hb) h
    | false => rfl
  have h2 : Nat.beq o o = true := Nat.beq_refl o
  simp [renA, h1]
theorem renA_other {o nm n : Nat} (h : n ≠ o) (h' : n ≠ nm) : (renA o nm s).o n = mapO (fun k => bif Nat.beq k o then nm else k) (s.o n) := by
  have h1 : Nat.beq n nm = false := by
    cases hb : Nat.beq n nm with
    | true => exact absurd (Nat.eq_of_beq_eq_true hb) h'
    | false => rfl
  have h2 : Nat.beq n o = false := by
    cases hb : Nat.beq n o with
    | true => exact absurd (Nat.eq_of_beq_eq_true hb) h
    | false => rfl
  simp [renA, h1, h2]

theorem SRep.renA (hs : SRep cx N s β F a w) {o nm : Nat} (ho : s.o o ≠ none) (hn : s.u nm = false) :
    SRep cx N (renA o nm s) (upd β nm (β o)) F a w ∧ Step s.o s.u β F w (renA o nm s).o (renA o nm s).u (upd β nm (β o)) F w := by
  have hne : o ≠ nm := by rintro rfl; have := hs.uo o ho; simp [hn] at this
  have hun : ∀ {n}, s.u n = true → n ≠ nm := by rintro n h rfl; simp [hn] at h
  have A : ∀ n, s.u n = true → shO cx ((Am.renA o nm s).o (bif Nat.beq n o then nm else n)) = shO cx (s.o n) ∧ upd β nm (β o) (bif Nat.beq n o then nm else n) = β n := by
    intro n hu
    by_cases h : n = o
    · subst h; rw [renF_same, renA_new, upd_same]; exact ⟨shO_mapO _, rfl⟩
    · rw [renF_of h, renA_other h (hun hu), upd_ne _ _ _ _ (hun hu)]; exact ⟨shO_mapO _, rfl⟩
  have obj : ∀ n ob, s.o n = some ob → ∀ p, β n = p → ORep cx (fun m => shO cx ((Am.renA o nm s).o m)) (upd β nm (β o)) F w p (renO (fun k => bif Nat.beq k o then nm else k) ob) := by
    intro n ob hob p hp
    subst hp
    exact (hs.hp.obj hob).ren fun m hm => A m (hs.ub n m (by rw [hob]; exact hm))
  have look : ∀ n ob', (Am.renA o nm s).o n = some ob' → n ≠ o ∧ ∃ m ob, s.o m = some ob ∧ ob' = renO (fun k => bif Nat.beq k o then nm else k) ob ∧ upd β nm (β o) n = β m ∧ (n = nm ∧ m = o ∨ n ≠ nm ∧ m = n) := by
    intro n ob' h
    by_cases h1 : n = o
    · subst h1; rw [renA_old hne] at h; simp at h
    · by_cases h2 : n = nm
      · subst h2
        rw [renA_new] at h
        cases hob : s.o o with
        | none => exact absurd hob ho
        | some ob => rw [hob] at h; simp [mapO] at h; exact ⟨h1, o, ob, hob, h.symm, upd_same .., .inl ⟨rfl, rfl⟩⟩
      · rw [renA_other h1 h2] at h
        cases hob : s.o n with
        | none => rw [hob] at h; simp [mapO] at h
        | some ob => rw [hob] at h; simp [mapO] at h; exact ⟨h1, n, ob, hob, h.symm, upd_ne _ _ _ _ h2, .inr ⟨h2, rfl⟩⟩
  have wr : ∀ n b, Wr (Am.renA o nm s).o (upd β nm (β o)) n b → n ≠ o ∧ ∃ m, Wr s.o β m b ∧ (n = nm ∧ m = o ∨ n ≠ nm ∧ m = n) := by
    rintro n b ⟨⟨x, hx⟩, hm⟩
    cases h : (Am.renA o nm s).o n with
    | none => rw [h] at hm; exact hm.elim
    | some ob' =>
      obtain ⟨h1, m, ob, e1, e2, e3, e4⟩ := look n ob' h
      refine ⟨h1, m, ⟨⟨x, by rw [← e3]; exact hx⟩, ?_⟩, e4⟩
      rw [h, e2] at hm
      rw [e1]
      cases ob with
      | box cs => trivial
      | row t xs l => exact hm
  refine ⟨⟨hs.tn, fun i => ?_, ⟨?_, ?_, ?_, ?_, hs.hp.fin, hs.hp.gl⟩, ?_, ?_, ?_⟩, ?_⟩
  · exact PRep.ren _ _ (fun n hm => A n (hs.us i n hm)) (hs.tm i)
  · intro n cs h
    obtain ⟨h1, m, ob, e1, e2, e3, e4⟩ := look n _ h
    cases ob with
    | row t xs l => simp [renO] at e2
    | box ds =>
      have := obj m _ e1 _ rfl
      rw [← e2] at this
      rw [e3]
      exact this
  · intro n t xs l h
    obtain ⟨h1, m, ob, e1, e2, e3, e4⟩ := look n _ h
    cases ob with
    | box ds => simp [renO] at e2
    | row t' xs' l' =>
      have := obj m _ e1 _ rfl
      rw [← e2] at this
      rw [e3]
      exact this
  · intro n m b hn hm
    obtain ⟨h1, n', k1, e1⟩ := wr n b hn
    obtain ⟨h2, m', k2, e2⟩ := wr m b hm
    have := hs.hp.apart _ _ b k1 k2
    subst this
    rcases e1 with ⟨rfl, rfl⟩ | ⟨_, rfl⟩ <;> rcases e2 with ⟨rfl, e⟩ | ⟨_, e⟩
    · rfl
    · exact absurd e.symm h2
    · exact absurd e h1
    · exact e
  · intro n b hn
    obtain ⟨_, m, k1, _⟩ := wr n b hn
    exact hs.hp.away m b k1
  · intro i n hn
    have hn : n ∈ names (ren (fun k => bif Nat.beq k o then nm else k) (s.t i)) := hn
    rw [names_ren] at hn
    obtain ⟨k, hk, rfl⟩ := List.mem_map.1 hn
    have := hs.us i k hk
    show upd s.u nm true _ = true
    by_cases h : k = o
    · subst h; rw [renF_same, upd_same]
    · rw [renF_of h, upd_ne _ _ _ _ (hun this)]; exact this
  · intro n k hk
    show upd s.u nm true _ = true
    cases h : (Am.renA o nm s).o n with
    | none => rw [h] at hk; simp [namesO] at hk
    | some ob' =>
      obtain ⟨h1, m, ob, e1, e2, e3, e4⟩ := look n _ h
      rw [h, e2] at hk
      cases ob with
      | row t xs l => simp [renO, namesO] at hk
      | box cs =>
        simp only [renO, namesO, names_renGo] at hk
        obtain ⟨j, hj, rfl⟩ := List.mem_map.1 hk
        have := hs.ub m j (by rw [e1]; exact hj)
        by_cases h : j = o
        · subst h; rw [renF_same, upd_same]
        · rw [renF_of h, upd_ne _ _ _ _ (hun this)]; exact this
  · intro n h
    show upd s.u nm true _ = true
    by_cases h2 : n = nm
    · subst h2; exact upd_same ..
    · rw [upd_ne _ _ _ _ h2]
      cases h3 : (Am.renA o nm s).o n with
      | none => exact absurd h3 h
      | some ob' =>
        obtain ⟨h1, m, ob, e1, e2, e3, e4⟩ := look n _ h3
        rcases e4 with ⟨e4, _⟩ | ⟨_, rfl⟩
        · exact absurd e4 h2
        · exact hs.uo m (by simp [e1])
  · refine ⟨fun k hk => ?_, fun k hk => upd_ne _ _ _ _ (hun hk), .refl _ _, fun k x hx => ?_, fun _ h => h, fun _ h => .inl h, fun k hk => ?_⟩
    · show upd s.u nm true _ = true
      rw [upd_ne _ _ _ _ (hun hk)]; exact hk
    · obtain ⟨_, m, h1, _⟩ := wr k x hx
      exact .inl ⟨m, h1⟩
    · by_cases h : k = o
      · subst h; exact .inl (renA_old hne)
      · right
        rw [renA_other h (hun hk)]
        cases hob : s.o k with
        | none => trivial
        | some ob => cases ob <;> simp [mapO, renO, sameO]

theorem coerce1_sound (ok : CxOk cx P) (hs : SRep cx N s β F a w) {l : Loc} {m : Mode} {K : St D → Option R} {r : R} (h : coerce1 l m s K = some r) :
    ∃ s' β' F', K s' = some r ∧ SRep cx N s' β' F' a w ∧ Step s.o s.u β F w s'.o s'.u β' F' w := by
  cases m with
  | own nm t =>
    simp only [coerce1] at h
    -- a new name for what is there
    have fin : ∀ (o : Nat) (xs ys : List (t.den D)), s.o o = some (.row t xs true) → s.u nm = false → ∀ p, ((p = none ∧ ys = []) ∨ ∃ b off cap c e fr x, p = some (b, off, cap) ∧ β o = some (b, x) ∧ RowAt cx F w t ys true b off cap c e fr) →
        (∀ v, PRep cx (fun m => shO cx (s.o m)) β F w (getL s l) v → rowV p ys.length v) → K (setL ((s.delO o).born nm (.row t ys true)) (.own nm) l) = some r → ∃ s' β' F', K s' = some r ∧ SRep cx N s' β' F' a w ∧ Step s.o s.u β F w s'.o s'.u β' F' w := by
      intro o xs ys ho hn p hp hv hK
      obtain ⟨k1, k2⟩ := hs.renamed ho hn hp
      have hne : o ≠ nm := by rintro rfl; have := hs.uo o (by simp [ho]); simp [hn] at this
      obtain ⟨m1, m2⟩ := setL_sound (p := .own nm) hs k1 rfl (fun o' cs ho' => by
        by_cases h1 : o' = nm
        · subst h1; simp [St.born, upd_same] at ho'
        · by_cases h2 : o' = o
          · subst h2; simp [St.born, St.delO, upd_ne _ _ _ _ h1, upd_same] at ho'
          · exact ⟨by simpa [St.born, St.delO, upd_ne _ _ _ _ h1, upd_ne _ _ _ _ h2] using ho', upd_ne _ _ _ _ h1⟩) l (fun v hpv => by
        have := hv v hpv
        simp only [PRep, St.born, upd_same, shO]
        exact this) (by simp [names, St.born, upd_same])
      exact ⟨_, _, _, hK, m1, k2.trans m2⟩
    split at h
    · rename_i hg
      obtain ⟨hn, hK⟩ := chk_some h
      have hn : s.u nm = false := by simpa using hn
      have k1 := hs.born nm (.row t [] true) none hn (.inl ⟨rfl, rfl⟩) (by simp [namesO]) (by simp)
      have k2 := stepBorn s β F w w nm (.row t [] true) none hn (.refl _ _) (by simp)
      obtain ⟨m1, m2⟩ := setL_sound (p := .own nm) hs k1 rfl (fun o' cs ho' => by
        by_cases h1 : o' = nm
        · subst h1; simp [St.born, upd_same] at ho'
        · exact ⟨by simpa [St.born, upd_ne _ _ _ _ h1] using ho', upd_ne _ _ _ _ h1⟩) l (fun v hpv => by
        rw [hg] at hpv
        simp only [PRep, St.born, upd_same, shO, rowV]
        exact ⟨none, hpv⟩) (by simp [names, St.born, upd_same])
      exact ⟨_, _, _, hK, m1, k2.trans m2⟩
    · rename_i o hg
      split at h
      · rename_i t' xs ho
        split at h
        · rename_i ys hc
          obtain ⟨rfl, rfl⟩ := cast?_some hc
          cases hb : Nat.beq o nm with
          | true =>
            simp only [hb, cond_true] at h
            exact ⟨s, β, F, h, hs, .refl _ _ _ _ _⟩
          | false =>
            simp only [hb, cond_false] at h
            obtain ⟨hn, hK⟩ := chk_some h
            have hn : s.u nm = false := by simpa using hn
            obtain ⟨k1, k2⟩ := hs.renA (o := o) (by simp [ho]) hn
            exact ⟨_, _, _, hK, k1, k2⟩
        · simp at h
      · simp at h
    · rename_i o lo n hg
      split at h
      · rename_i t' xs ho
        split at h
        · rename_i ys hc
          obtain ⟨rfl, rfl⟩ := cast?_some hc
          obtain ⟨hn, hK⟩ := chk_some h
          have hn : s.u nm = false := by simpa using hn
          obtain ⟨v0, hv0⟩ := getL_val hs l (by rw [hg]; simp)
          rw [hg] at hv0
          simp only [PRep, ho, shO] at hv0
          obtain ⟨hle, _⟩ := hv0
          have hyl : ((xs.drop lo).take n).length = n := by simp; omega
          rcases hs.hp.row o t' xs true ho with ⟨h5, h6⟩ | ⟨b, off, cap, c, e, fr, hβ, hR⟩
          · subst h6
            simp at hle
            obtain ⟨rfl, rfl⟩ := hle
            refine fin o [] _ ho hn none (.inl ⟨rfl, by simp⟩) (fun v hv => ?_) hK
            rw [hg] at hv
            simp only [PRep, ho, shO, h5] at hv
            exact hv.2
          · have hcap := hR.lecap
            by_cases hlc : lo = cap
            · have hn0 : n = 0 := by omega
              subst hn0
              refine fin o xs _ ho hn none (.inl ⟨rfl, by simp⟩) (fun v hv => ?_) hK
              rw [hg] at hv
              simp only [PRep, ho, shO, hβ] at hv
              obtain ⟨_, off', hv, _⟩ := hv
              rw [hlc, Nat.sub_self] at hv
              exact ⟨_, hv⟩
            · refine fin o xs _ ho hn (some (b, off + lo * sz cx t', cap - lo)) (.inr ⟨b, off + lo * sz cx t', cap - lo, c, e, fr, (off, cap), rfl, hβ, hR.sub ok hle⟩) (fun v hv => ?_) hK
              rw [hg] at hv
              simp only [PRep, ho, shO, hβ] at hv
              obtain ⟨_, off', hv, h9 | ⟨h9, _⟩⟩ := hv
              · rw [hyl]; subst h9; exact hv
              · exact absurd h9 hlc
        · simp at h
      · simp at h
    · simp at h
  | imm t =>
    simp only [coerce1] at h
    split at h
    · rename_i hg
      have hg' : getL s l = .nil := by
        cases hp : getL s l <;> rw [hp] at hg <;> simp only [settle] at hg <;> first | rfl | (exact absurd hg (by simp)) | (split at hg <;> exact absurd hg (by simp))
      obtain ⟨m1, m2⟩ := setL_sound (p := .list t []) hs hs rfl (fun o cs h => ⟨h, rfl⟩) l (fun v hv => by
        rw [hg'] at hv
        have hv : v = .slice none 0 0 := hv
        subst hv
        exact .nil) (by simp [names])
      exact ⟨_, _, _, h, m1, m2⟩
    · rename_i t' xs hg
      split at h
      · rename_i ys hc
        obtain ⟨rfl, rfl⟩ := cast?_some hc
        obtain ⟨F1, h1, h2, h3⟩ := hs.frzAll [getL s l]
        have hsh : ∀ n, shO cx ((frz s (getL s l)).o n) = shO cx (s.o n) := fun n => frzAll_sh (cx := cx) [getL s l] s n
        obtain ⟨m1, m2⟩ := setL_sound (p := .list t' xs) hs h1 (by
          simp only [frzAll]
          have : ∀ o, (frzN s o).t = s.t := fun o => by unfold frzN; split <;> rfl
          cases getL s l <;> simp [frz, this]) (fun o cs ho => ⟨by
          have hf : ∀ o', (frzN s o').o o = some (.box cs) → s.o o = some (.box cs) := fun o' hx => by
            unfold frzN at hx
            split at hx
            · by_cases h4 : o = o'
              · subst h4; simp [St.setO, upd_same] at hx
              · simpa [St.setO, upd_ne _ _ _ _ h4] using hx
            · exact hx
          simp only [frzAll] at ho
          cases hq : getL s l <;> rw [hq] at ho <;> first | exact hf _ ho | exact ho, rfl⟩) l (fun v hv => by
          have := hs.settled hv h2.f0 (S' := fun m => shO cx ((frz s (getL s l)).o m)) (β' := β) (fun n _ => .inl ⟨hsh n, rfl⟩) (h3 _ (by simp))
          rw [hg] at this
          exact this) (by simp [names])
        exact ⟨_, _, _, h, m1, h2.trans m2⟩
      · simp at h
    · simp at h
  | drop =>
    simp only [coerce1] at h
    split at h
    · rename_i o off
      obtain ⟨h1, h2⟩ := hs.del o
      exact ⟨_, _, _, h, h1, h2⟩
    · simp at h
  | still =>
    simp only [coerce1] at h
    split at h
    · rename_i o off
      obtain ⟨F1, h1, h2, h3⟩ := hs.frzAll [.own o]
      exact ⟨_, _, _, h, h1, h2⟩
    · simp at h
  | opt t =>
    simp only [coerce1] at h
    split at h
    · rename_i hg
      obtain ⟨m1, m2⟩ := setL_sound (p := .opt t [] true) hs hs rfl (fun o cs h => ⟨h, rfl⟩) l (fun v hv => by
        rw [hg] at hv
        have hv : v = .slice none 0 0 := hv
        subst hv
        exact ⟨fun _ => rfl, .nil⟩) (by simp [names])
      exact ⟨_, _, _, h, m1, m2⟩
    · split at h
      · exact ⟨s, β, F, h, hs, .refl _ _ _ _ _⟩
      · simp at h
    · rename_i o hg
      split at h
      · rename_i t' xs l' ho
        split at h
        · rename_i ys hc
          obtain ⟨rfl, rfl⟩ := cast?_some hc
          obtain ⟨F1, h1, h2, h3⟩ := hs.frzAll [.own o]
          have hsh : ∀ n, shO cx ((frz s (.own o)).o n) = shO cx (s.o n) := fun n => frzAll_sh (cx := cx) [.own o] s n
          obtain ⟨m1, m2⟩ := setL_sound (p := .opt t' xs false) hs h1 (by
            simp only [frzAll]
            have : ∀ o, (frzN s o).t = s.t := fun o => by unfold frzN; split <;> rfl
            simp [frz, this]) (fun o' cs ho' => ⟨by
            have hf : (frzN s o).o o' = some (.box cs) → s.o o' = some (.box cs) := fun hx => by
              unfold frzN at hx
              split at hx
              · by_cases h4 : o' = o
                · subst h4; simp [St.setO, upd_same] at hx
                · simpa [St.setO, upd_ne _ _ _ _ h4] using hx
              · exact hx
            simp only [frzAll] at ho'
            exact hf ho', rfl⟩) l (fun v hv => by
            rw [hg] at hv
            have := hs.settled hv h2.f0 (S' := fun m => shO cx ((frz s (.own o)).o m)) (β' := β) (fun n _ => .inl ⟨hsh n, rfl⟩) (h3 _ (by simp))
            simp only [settle, ho] at this
            exact ⟨fun h => by simp at h, this⟩) (by simp [names])
          exact ⟨_, _, _, h, m1, h2.trans m2⟩
        · simp at h
      · simp at h
    · simp at h

theorem coerce_sound (ok : CxOk cx P) : ∀ (cs : List (Loc × Mode)) {s : St D} {β : Beta} {F : Nat → Prop} {K : St D → Option R} {r : R}, SRep cx N s β F a w → coerce cs s K = some r → ∃ s' β' F', K s' = some r ∧ SRep cx N s' β' F' a w ∧ Step s.o s.u β F w s'.o s'.u β' F' w
  | [], s, β, F, K, r, hs, h => ⟨s, β, F, h, hs, .refl _ _ _ _ _⟩
  | (l, m) :: cs, s, β, F, K, r, hs, h => by
    simp only [coerce] at h
    obtain ⟨s1, β1, F1, h1, h2, h3⟩ := coerce1_sound ok hs h
    obtain ⟨s2, β2, F2, k1, k2, k3⟩ := coerce_sound ok cs h2 h1
    exact ⟨s2, β2, F2, k1, k2, h3.trans k3⟩

end Go.Am

/-! An operation goes on in one way at most; what it leaves alone. -/
namespace Go.Am
variable {D : Nat → Type} {R : Type} {cx : Cx D} {orc : Orc D R} {keep : FuncId → List Bool} {N : Nat} {s : St D}

/-- It goes on with one value, or not at all. -/
def Nat1 {α : Type} (f : (α → Option R) → Option R) : Prop := (∀ K, f K = none) ∨ ∃ v, ∀ K, f K = K v
/-- It goes on with one value and one state, or not at all. -/
def Nat2 (G : St D → Prop) (f : (PV D → St D → Option R) → Option R) : Prop := (∀ K, f K = none) ∨ ∃ v s', G s' ∧ ∀ K, f K = K v s'

theorem Nat1.none {α : Type} : Nat1 (R := R) (α := α) fun _ => none := .inl fun _ => rfl
theorem Nat1.ret {α : Type} (v : α) : Nat1 (R := R) fun K => K v := .inr ⟨v, fun _ => rfl⟩
theorem Nat1.chk {α : Type} {f : (α → Option R) → Option R} (b : Bool) (h : Nat1 f) : Nat1 fun K => chk b (f K) := by
  cases b with
  | true => exact h
  | false => exact .none
theorem Nat1.cond {α : Type} {f g : (α → Option R) → Option R} (b : Bool) (h : Nat1 f) (k : Nat1 g) : Nat1 fun K => bif b then f K else g K := by
  cases b with
  | true => exact h
  | false => exact k
theorem Nat2.none {G : St D → Prop} : Nat2 (R := R) G fun _ => none := .inl fun _ => rfl
theorem Nat2.ret {G : St D → Prop} (v : PV D) {s' : St D} (h : G s') : Nat2 (R := R) G fun K => K v s' := .inr ⟨v, s', h, fun _ => rfl⟩
theorem Nat2.chk {G : St D → Prop} {f : (PV D → St D → Option R) → Option R} (b : Bool) (h : b = true → Nat2 G f) : Nat2 G fun K => chk b (f K) := by
  cases b with
  | true => exact h rfl
  | false => exact .none
theorem Nat2.of1 {G : St D → Prop} {f : (PV D → Option R) → Option R} (h : Nat1 f) (hs : G s) : Nat2 G fun K => f fun v => K v s := by
  rcases h with h | ⟨v, h⟩
  · exact .inl fun K => h _
  · exact .inr ⟨v, s, hs, fun K => h _⟩

theorem load_nat (T : TypeId) (p : PV D) (s : St D) : Nat1 (R := R) (load cx T p s) := by
  unfold load
  show Nat1 fun K => _
  cases cx.T T with
  | none => exact .none
  | some ti =>
    cases p with
    | ptr o off =>
      simp only
      cases s.o o with
      | none => exact .none
      | some ob => cases ob with
        | box cs => exact .chk _ (.ret _)
        | row t xs l => exact .chk _ (.ret _)
    | elem o i off =>
      simp only
      cases s.o o with
      | none => exact .none
      | some ob => cases ob with
        | box cs => exact .none
        | row t xs l => exact .chk _ (.ret _)
    | lelem t xs i off => exact .chk _ (.ret _)
    | _ => exact .none

theorem offA_nat (p : PV D) (n : Nat) (s : St D) : Nat1 (R := R) (offA p n s) := by
  unfold offA
  show Nat1 fun K => _
  cases p with
  | ptr o off =>
    simp only
    cases s.o o with
    | none => exact .none
    | some ob => cases ob with
      | box cs => exact .ret _
      | row t xs l => exact .none
  | elem o i off => exact .ret _
  | lelem t xs i off => exact .ret _
  | _ => exact .none

theorem isRow_nat {α : Type} {f : (α → Option R) → Option R} (T : TypeId) (t : Ty) (h : Nat1 f) : Nat1 fun K => isRow cx T t (f K) := by
  unfold isRow
  cases elemTI cx T with
  | none => exact .none
  | some tb => exact .cond _ h .none

theorem pickN_nat {f : Nat → (PV D → Option R) → Option R} (h : ∀ j, Nat1 (f j)) (i : Int) : ∀ (m j : Nat), Nat1 fun K => pickN i j m fun j => f j K
  | 0, _ => .none
  | m + 1, j => by
    unfold pickN
    exact .cond _ (h j) (pickN_nat h i m (j + 1))

theorem indexAddr_nat (T : TypeId) (p i : PV D) (s : St D) : Nat1 (R := R) (indexAddr cx T p i s) := by
  unfold indexAddr
  show Nat1 fun K => _
  cases i with
  | int k i =>
    cases p with
    | list t xs => exact isRow_nat T t (.chk _ (.ret _))
    | own o =>
      simp only
      cases s.o o with
      | none => exact .none
      | some ob => cases ob with
        | box cs => exact .none
        | row t xs l => exact isRow_nat T t (.chk _ (.ret _))
    | view o lo n =>
      simp only
      cases s.o o with
      | none => exact .none
      | some ob => cases ob with
        | box cs =>
          simp only
          cases cx.T T with
          | none => exact .none
          | some ti =>
            simp only
            cases ti.desc with
            | slice e =>
              simp only
              cases cx.T e with
              | none => exact .none
              | some te => exact .chk _ (pickN_nat (fun _ => .ret _) _ _ _)
            | _ => exact .none
        | row t xs l => exact isRow_nat T t (.chk _ (.ret _))
    | ptr o off =>
      simp only
      cases cx.T T with
      | none => exact .none
      | some ti =>
        simp only
        cases ti.desc with
        | arr n e =>
          simp only
          cases cx.T e with
          | none => exact .none
          | some te =>
            simp only
            cases s.o o with
            | none => exact .none
            | some ob => cases ob with
              | box cs => exact .chk _ (.ret _)
              | row t xs l =>
                simp only
                cases te.ty with
                | none => exact .none
                | some t' => exact .chk _ (.ret _)
        | _ => exact .none
    | lelem t xs j off =>
      simp only
      cases cx.T T with
      | none => exact .none
      | some ti =>
        simp only
        cases ti.desc with
        | arr n e =>
          simp only
          cases cx.T e with
          | none => exact .none
          | some te =>
            simp only
            cases te.ty with
            | none => exact .none
            | some t' => exact .chk _ (.ret _)
        | _ => exact .none
    | _ => exact .none
  | _ => exact .none

theorem sliceL_nat {lo hi : Option (PV D)} {n : Nat} {f : Nat → Nat → Bool → (PV D → Option R) → Option R} (h : ∀ a b c, Nat1 (f a b c)) : Nat1 fun K => sliceL lo hi n fun a b c => f a b c K := by
  unfold sliceL
  cases lo with
  | none =>
    cases hi with
    | none => exact h _ _ _
    | some y => cases y with
      | int k m => exact .chk _ (h _ _ _)
      | _ => exact .none
  | some x => cases x with
    | int k l =>
      cases hi with
      | none => exact .chk _ (h _ _ _)
      | some y => cases y with
        | int k m => exact .chk _ (.chk _ (h _ _ _))
        | _ => exact .none
    | _ => cases hi <;> exact .none

theorem sliceV_nat (T : TypeId) (p : PV D) (lo hi : Option (PV D)) (s : St D) : Nat1 (R := R) (sliceV cx T p lo hi s) := by
  unfold sliceV
  show Nat1 fun K => _
  cases p with
  | list t xs =>
    refine isRow_nat T t ?_
    cases lo with
    | none =>
      cases hi with
      | none => exact .ret _
      | some y => cases y with
        | int k m => exact .chk _ (.ret _)
        | _ => exact .none
    | some x => cases x with
      | int k l =>
        cases hi with
        | none => exact .chk _ (.ret _)
        | some y => cases y with
          | int k m => exact .chk _ (.chk _ (.ret _))
          | _ => exact .none
      | _ => cases hi <;> exact .none
  | nil =>
    simp only
    cases elemTI cx T with
    | none => exact .none
    | some tb => exact sliceL_nat fun _ _ _ => .ret _
  | str b =>
    simp only
    cases (cx.T T).map TI.desc with
    | none => exact .none
    | some d => cases d <;> first | exact .none | exact sliceL_nat fun _ _ _ => .ret _
  | own o =>
    simp only
    cases s.o o with
    | none => exact .none
    | some ob => cases ob with
      | box cs => exact .none
      | row t xs l => exact isRow_nat T t (sliceL_nat fun _ _ _ => .cond _ (.ret _) (.ret _))
  | view o b n =>
    simp only
    cases s.o o with
    | none => exact .none
    | some ob => cases ob with
      | box cs => exact .none
      | row t xs l => exact isRow_nat T t (sliceL_nat fun _ _ _ => .ret _)
  | ptr o off =>
    simp only
    cases cx.T T with
    | none => exact .none
    | some ti =>
      simp only
      cases ti.desc with
      | arr n e =>
        simp only
        cases cx.T e with
        | none => exact .none
        | some te =>
          simp only
          cases s.o o with
          | none => exact .none
          | some ob => cases ob with
            | box cs => exact .none
            | row t xs l =>
              simp only
              cases te.ty with
              | none => exact .none
              | some t' => exact .chk _ (sliceL_nat fun _ _ _ => .cond _ (.ret _) (.ret _))
      | _ => exact .none
  | _ => exact .none

theorem lenV_nat (p : PV D) (s : St D) : Nat1 (R := R) (lenV p s) := by
  unfold lenV
  show Nat1 fun K => _
  cases p with
  | list t xs => exact .ret _
  | nil => exact .ret _
  | str b => exact .ret _
  | own o =>
    simp only
    cases s.o o with
    | none => exact .none
    | some ob => cases ob with
      | box cs => exact .none
      | row t xs l => exact .ret _
  | view o b n =>
    simp only
    cases s.o o with
    | none => exact .none
    | some ob => cases ob with
      | box cs => exact .ret _
      | row t xs l => exact .ret _
  | _ => exact .none

theorem binInt_nat (op : BinOp) (k : IntKind) (a b : Int) : Nat1 (R := R) (α := PV D) (binInt op k a b) := by
  unfold binInt
  show Nat1 fun K => _
  cases op <;> first | exact .ret _ | exact .cond _ .none (.ret _) | exact .none

theorem bin_nat (op : BinOp) (T : TypeId) (x y : PV D) : Nat1 (R := R) (bin cx op T x y) := by
  unfold bin
  show Nat1 fun K => _
  have ifcase : ∀ b : Bool, Nat1 (R := R) (α := PV D) fun K => match op, (cx.T T).map TI.desc with
      | .eql, some .iface => K (.bool false)
      | .neq, some .iface => K (.bool true)
      | _, _ => none := by
    intro b
    cases (cx.T T).map TI.desc with
    | none => cases op <;> exact .none
    | some d => cases d <;> cases op <;> first | exact .none | exact .ret _
  cases x with
  | int k a =>
    cases y with
    | int k' b => cases op <;> first | exact .cond _ .none (.ret _) | exact .cond _ (binInt_nat _ k a b) .none
    | _ => exact .none
  | bool a =>
    cases y with
    | bool b =>
      simp only
      cases (cx.T T).map TI.desc with
      | none => cases op <;> exact .none
      | some d => cases d <;> cases op <;> first | exact .none | exact .ret _
    | _ => exact .none
  | str a =>
    cases y with
    | str b => cases op <;> first | exact .none | exact .ret _
    | _ => exact .none
  | agg a =>
    cases y with
    | agg b =>
      simp only
      cases cx.T T with
      | none => exact .none
      | some ti =>
        refine .cond _ ?_ .none
        cases eqCells a b with
        | none => cases op <;> exact .none
        | some r => cases op <;> first | exact .none | exact .ret _
    | _ => exact .none
  | nilI =>
    cases y with
    | ifc t v => exact ifcase true
    | _ => exact .none
  | ifc t v =>
    cases y with
    | nilI =>
      simp only
      cases (cx.T T).map TI.desc with
      | none => cases op <;> exact .none
      | some d => cases d <;> cases op <;> first | exact .none | exact .ret _
    | _ => exact .none
  | nil =>
    cases y with
    | nil =>
      simp only
      cases (cx.T T).map TI.desc with
      | none => exact .none
      | some d => cases d <;> cases op <;> first | exact .none | exact .ret _
    | _ => exact .none
  | full t xs =>
    cases y with
    | nil =>
      simp only
      cases (cx.T T).map TI.desc with
      | none => exact .none
      | some d => cases d <;> cases op <;> first | exact .none | exact .ret _
    | _ => exact .none
  | opt t xs b =>
    cases y with
    | nil =>
      simp only
      cases (cx.T T).map TI.desc with
      | none => exact .none
      | some d => cases d <;> cases op <;> first | exact .none | exact .chk _ (.ret _) | exact .chk _ .none
    | _ => exact .none
  | nilp =>
    cases y with
    | nilp =>
      simp only
      cases (cx.T T).map TI.desc with
      | none => exact .none
      | some d => cases d <;> cases op <;> first | exact .none | exact .ret _
    | _ => exact .none
  | ptr o off =>
    cases y with
    | nilp =>
      simp only
      cases (cx.T T).map TI.desc with
      | none => exact .none
      | some d => cases d <;> cases op <;> first | exact .none | exact .ret _
    | _ => exact .none
  | _ => exact .none

theorem binX_nat (op : BinOp) (T : TypeId) (x y : Operand) (p q : PV D) : Nat1 (R := R) (binX cx op T x y p q) := by
  unfold binX
  show Nat1 fun K => _
  have other : Nat1 (R := R) (bin cx op T p q) := bin_nat op T p q
  cases p with
  | nilI => cases q with
    | nilI =>
      simp only
      refine .chk _ ?_
      cases (cx.T T).map TI.desc with
      | none => exact .none
      | some d => cases d <;> cases op <;> first | exact .none | exact .ret _
    | _ => exact other
  | _ => exact other

end Go.Am

/-! What operations leave alone. -/
namespace Go.Am
variable {D : Nat → Type} {R : Type} {cx : Cx D} {orc : Orc D R} {keep : FuncId → List Bool} {N : Nat} {s s1 s2 : St D}

/-- But for some names, and new ones, it is as it was. -/
def Fr (s : St D) (tc : List Nat) (s' : St D) : Prop := s'.t = s.t ∧ ∀ n, s.u n = true → n ∉ tc → s'.o n = s.o n

theorem Fr.refl (s : St D) (tc : List Nat) : Fr s tc s := ⟨rfl, fun _ _ _ => rfl⟩
theorem Fr.born {s : St D} {nm : Nat} {ob : Obj D} (h : s.u nm = false) (tc : List Nat) : Fr s tc (s.born nm ob) :=
  ⟨rfl, fun n hu _ => upd_ne _ _ _ _ (by rintro rfl; simp [h] at hu)⟩
theorem Fr.sub {tc tc' : List Nat} (h : Fr s tc s1) (hs : ∀ n ∈ tc, n ∈ tc') : Fr s tc' s1 := ⟨h.1, fun n hu hn => h.2 n hu fun hm => hn (hs n hm)⟩
theorem Fr.trans {tc : List Nat} (h : Fr s tc s1) (hu : s1.u = s.u) (k : Fr s1 tc s2) : Fr s tc s2 :=
  ⟨k.1.trans h.1, fun n hn hm => (k.2 n (by rw [hu]; exact hn) hm).trans (h.2 n hn hm)⟩

theorem frzN_t (s : St D) (o : Nat) : (frzN s o).t = s.t := by unfold frzN; split <;> rfl
theorem frz_fr (s : St D) (p : PV D) : Fr s (names p) (frz s p) := by
  cases p with
  | own o => exact ⟨frzN_t s o, fun n _ hn => frzN_ne (by simpa [names] using hn) s⟩
  | view o lo n => exact ⟨frzN_t s o, fun n _ hn => frzN_ne (by simpa [names] using hn) s⟩
  | _ => exact .refl _ _
theorem frz_u (s : St D) (p : PV D) : (frz s p).u = s.u := frzAll_u [p] s
theorem frzAll_fr : ∀ (l : List (PV D)) (s : St D), Fr s (names.go l) (frzAll s l)
  | [], s => .refl _ _
  | p :: l, s => by
    simp only [frzAll]
    exact ((frz_fr s p).sub fun n hn => by simp [names.go, hn]).trans (frz_u s p) ((frzAll_fr l _).sub fun n hn => by simp [names.go, hn])
theorem frzNs_fr (s : St D) (l : List Nat) : Fr s l (frzNs s l) := by
  refine ⟨?_, fun n _ hn => frzNs_ne l s hn⟩
  induction l generalizing s with
  | nil => rfl
  | cons m ms ih => simp only [frzNs]; rw [ih, frzN_t]

variable {P : Program}

theorem names_go_flat {α : Type} {l : List α} {f : α → List (PV D)} {n : Nat} (h : n ∈ names.go (l.flatMap f)) : ∃ x ∈ l, n ∈ names.go (f x) := by
  obtain ⟨p, hp, hn⟩ := mem_names_go.1 h
  obtain ⟨x, hx, hp⟩ := List.mem_flatMap.1 hp
  exact ⟨x, hx, mem_names_go.2 ⟨p, hp, hn⟩⟩

theorem cells_ps (ok : CxOk cx P) {ps : Array (Nat × Operand)} {n : Nat} (h : n ∈ names.go (ps.toList.flatMap fun (_, x) => cellsOf cx (ev s x))) : n ∈ names.go ((ps.toList.map (·.2)).toArray.toList.map (ev s)) := by
  obtain ⟨x, hx, hn⟩ := names_go_flat h
  exact mem_names_go.2 ⟨ev s x.2, by simp only [List.map_map, List.mem_map]; exact ⟨x, hx, rfl⟩, cellsOf_names ok hn⟩

theorem store_nat (ok : CxOk cx P) (T : TypeId) (p q : PV D) (s : St D) : Nat2 (R := R) (Fr s (names p ++ names q)) fun K => store cx T p q s fun s' => K .skip s' := by
  unfold store
  cases cx.T T with
  | none => exact .none
  | some ti =>
    refine .chk _ fun _ => ?_
    cases p with
    | ptr o off =>
      simp only
      cases s.o o with
      | none => exact .none
      | some ob => cases ob with
        | box cs => exact .chk _ fun _ => .ret _ ⟨rfl, fun n _ hn => upd_ne _ _ _ _ (by rintro rfl; simp [names] at hn)⟩
        | row t xs l => cases l with
          | false => exact .none
          | true =>
            cases q with
            | arr t' ys =>
              simp only
              cases cast? t' t ys with
              | none => exact .none
              | some zs => exact .chk _ fun _ => .ret _ ⟨rfl, fun n _ hn => upd_ne _ _ _ _ (by rintro rfl; simp [names] at hn)⟩
            | _ => exact .none
    | elem o i off =>
      simp only
      cases s.o o with
      | none => exact .none
      | some ob => cases ob with
        | box cs => exact .none
        | row t xs l => cases l with
          | false => exact .none
          | true =>
            simp only
            cases decC cx t _ with
            | none => exact .none
            | some x =>
              simp only
              cases (frzAll s (cellsOf cx q)).o o with
              | none => exact .none
              | some ob => cases ob with
                | box cs => exact .none
                | row t' xs' l => cases l with
                  | false => exact .none
                  | true =>
                    have h := frzAll_fr (cellsOf cx q) s
                    refine .ret _ ⟨h.1, fun n hu hn => ?_⟩
                    simp only [List.mem_append, not_or] at hn
                    exact (upd_ne _ _ _ _ (by rintro rfl; exact hn.1 (by simp [names]))).trans (h.2 n hu fun hm => hn.2 (cellsOf_names ok hm))
    | _ => exact .none

theorem appendL_nat (t : Ty) (bytes : Nat) (p : PV D) (ys : List (t.den D)) (nm : Nat) {s0 s : St D} {tc : List Nat} (h0 : Fr s0 tc s) (hu : s.u = s0.u) (htc : ∀ n ∈ names p, n ∈ tc) : Nat2 (R := R) (Fr s0 tc) fun K => appendL t bytes p ys nm s K := by
  unfold appendL
  refine .chk _ fun hb => ?_
  have hnm : s.u nm = false := by simpa using hb
  have go : ∀ o ob, o ∈ tc → Fr s0 tc ((s.delO o).born nm ob) := fun o ob ho => ⟨h0.1, fun n hn hm => by
    have h1 : n ≠ nm := by rintro rfl; rw [← hu] at hn; simp [hnm] at hn
    have h2 : n ≠ o := by rintro rfl; exact hm ho
    simp only [St.born, St.delO, upd_ne _ _ _ _ h1, upd_ne _ _ _ _ h2]
    exact h0.2 n hn hm⟩
  cases p with
  | nil => exact .chk _ fun _ => .ret _ (h0.trans hu (.born hnm tc))
  | own o =>
    simp only
    cases s.o o with
    | none => exact .none
    | some ob => cases ob with
      | box cs => exact .none
      | row t' xs l => cases l with
        | false => exact .none
        | true =>
          simp only
          cases cast? t' t xs with
          | none => exact .none
          | some xs => exact .chk _ fun _ => .ret _ (go o _ (htc o (by simp [names])))
  | view o lo n =>
    simp only
    cases s.o o with
    | none => exact .none
    | some ob => cases ob with
      | box cs => exact .none
      | row t' xs l => cases l with
        | false => exact .none
        | true =>
          simp only
          cases cast? t' t xs with
          | none => exact .none
          | some xs => exact .chk _ fun _ => .ret _ (go o _ (htc o (by simp [names])))
  | _ => exact .none

theorem append_nat (T T' : TypeId) (p q : PV D) (nm : Nat) (s : St D) : Nat2 (R := R) (Fr s (names p ++ names q)) fun K => append cx T T' p q nm s K := by
  unfold append
  have self : ∀ (t : Ty) bytes (ys : List (t.den D)), Nat2 (R := R) (Fr s (names p ++ names q)) fun K => appendL t bytes p ys nm s K := fun t bytes ys => appendL_nat t bytes p ys nm (.refl _ _) rfl fun n hn => by simp [hn]
  have frzd : ∀ (t : Ty) bytes (ys : List (t.den D)), Nat2 (R := R) (Fr s (names p ++ names q)) fun K => appendL t bytes p ys nm (frz s q) K := fun t bytes ys =>
    appendL_nat t bytes p ys nm ((frz_fr s q).sub fun n hn => by simp [hn]) (frz_u s q) fun n hn => by simp [hn]
  cases elemTI cx T with
  | none => exact .none
  | some tb =>
    obtain ⟨t, bytes⟩ := tb
    simp only
    have lst : Nat2 (R := R) (Fr s (names p ++ names q)) fun K => match listOf t s q with
        | some ys => appendL t bytes p ys nm (frz s q) K
        | none => none := by
      cases listOf t s q with
      | none => exact .none
      | some ys => exact frzd t bytes ys
    cases (cx.T T').map TI.desc with
    | none => exact .none
    | some d =>
      cases d with
      | slice e => exact lst
      | int k => cases q with
        | int k' n => exact .chk _ fun _ => self t bytes _
        | _ => exact .none
      | _ => exact .none

theorem clearV_nat (t0 : Ty) (p : PV D) (s : St D) : Nat2 (R := R) (Fr s (names p)) fun K => clearV cx t0 p s K := by
  unfold clearV
  cases p with
  | view o lo n =>
    simp only
    cases s.o o with
    | none => exact .none
    | some ob => cases ob with
      | box cs => exact .none
      | row t xs l => cases l with
        | false => exact .none
        | true => exact .chk _ fun _ => .ret _ ⟨rfl, fun n _ hn => upd_ne _ _ _ _ (by rintro rfl; exact hn (by simp [names]))⟩
  | _ => exact .none

theorem copyV_nat (t0 : Ty) (p q : PV D) (s : St D) : Nat2 (R := R) (Fr s (names p ++ names q)) fun K => copyV t0 p q s K := by
  unfold copyV
  have set : ∀ o ob, o ∈ names p → Fr s (names p ++ names q) (s.setO o ob) := fun o ob ho => ⟨rfl, fun n _ hn => upd_ne _ _ _ _ (by rintro rfl; exact hn (by simp [ho]))⟩
  cases p with
  | own o =>
    simp only
    cases s.o o with
    | none => exact .none
    | some ob => cases ob with
      | box cs => exact .none
      | row t xs l => cases l with
        | false => exact .none
        | true =>
          refine .chk _ fun _ => ?_
          cases listOf t s q with
          | none => exact .none
          | some ys => exact .ret _ (set o _ (by simp [names]))
  | view o lo n =>
    simp only
    cases s.o o with
    | none => exact .none
    | some ob => cases ob with
      | box cs => exact .none
      | row t xs l => cases l with
        | false => exact .none
        | true =>
          refine .chk _ fun _ => ?_
          cases listOf t s q with
          | none => exact .none
          | some ys => exact .ret _ (set o _ (by simp [names]))
  | _ => exact .none

theorem lentN_names : ∀ (ks : List Bool) (ps : List (PV D)) {n : Nat}, n ∈ lentN ks ps → n ∈ names.go ps
  | ks, [], n, h => by cases ks <;> simp [lentN] at h
  | [], p :: ps, n, h => by
    simp only [lentN, List.mem_append] at h
    simp only [names.go, List.mem_append]
    rcases h with h | h
    · exact .inl (rows_names h)
    · exact .inr (lentN_names [] ps h)
  | k :: ks, p :: ps, n, h => by
    simp only [lentN, List.mem_append] at h
    simp only [names.go, List.mem_append]
    rcases h with h | h
    · cases k with
      | true => simp at h
      | false => exact .inl (rows_names h)
    · exact .inr (lentN_names ks ps h)
  where
  row_names {p : PV D} {n : Nat} (h : n ∈ lentN.rowN p) : n ∈ names p := by
    cases p <;> simp [lentN.rowN] at h <;> simp [names, h]
  rows_names {p : PV D} {n : Nat} (h : n ∈ lentN.rowsN p) : n ∈ names p := by
    cases p with
    | agg l =>
      simp only [lentN.rowsN, List.mem_flatMap] at h
      obtain ⟨q, hq, h⟩ := h
      simp only [names]
      exact mem_names_go.2 ⟨q, hq, row_names h⟩
    | _ => exact row_names h

theorem call_nat (ho : ∀ f args os, Nat1 (orc f args os)) (g : FuncId) (args : List (PV D)) (nm : Nat) (s : St D) :
    Nat2 (R := R) (Fr s (names.go args ++ reach s 1000 (names.go (lend s (keep g) args)) [])) fun K => call cx orc keep g args nm s K := by
  unfold call
  refine .chk _ fun _ => ?_
  cases objsAt s (idx (reach s 1000 (names.go (lend s (keep g) args)) [])) (reach s 1000 (names.go (lend s (keep g) args)) []) with
  | none => exact .none
  | some os =>
    simp only
    rcases ho g (ren.go (idx (reach s 1000 (names.go (lend s (keep g) args)) [])) (lend s (keep g) args)) os with h | ⟨rv, h⟩
    · exact .inl fun K => h _
    · simp only [h]
      refine .chk _ fun hf => .ret _ ?_
      have base : ∀ sb : St D, Fr s (names.go args) sb → sb.u = s.u → Fr s (names.go args ++ reach s 1000 (names.go (lend s (keep g) args)) []) (putO (reach s 1000 (names.go (lend s (keep g) args)) []) nm rv.os sb) := by
        intro sb h1 h2
        refine ⟨h1.1, fun n hu hn => ?_⟩
        simp only [List.mem_append, not_or] at hn
        have hnb : newB (reach s 1000 (names.go (lend s (keep g) args)) []) nm rv.os n = false := by
          rw [Bool.eq_false_iff]
          intro hb
          obtain ⟨k1, k2⟩ := newB_iff.1 hb
          have := freshB_iff hf (n - nm) (by omega)
          rw [show nm + (n - nm) = n by omega, hu] at this
          simp at this
        simp only [putO, memN_not.2 hn.2, hnb, cond_false]
        exact h1.2 n hu hn.1
      cases (hasList rv.vs || rv.os.any (hasListO cx) || !rv.os.all liveO) with
      | true => exact base _ ((frzNs_fr s _).sub fun n hn => lentN_names _ _ hn) (by rw [cond_true, frzNs_all, frzAll_u])
      | false => exact base _ (.refl _ _) rfl

end Go.Am

/-! Every operation: one way on, what is touched, and that tmps it does not name do not matter. -/
namespace Go.Am
variable {D : Nat → Type} {R : Type} {cx : Cx D} {orc : Orc D R} {keep : FuncId → List Bool} {N : Nat} {s s1 s2 : St D} {P : Program}

theorem op_names {o : Oper} {x : Operand} (hx : x ∈ o.op.operands) {n : Nat} (hn : n ∈ names (ev s x)) : n ∈ names.go (o.op.operands.toList.map (ev s)) :=
  mem_names_go.2 ⟨_, List.mem_map_of_mem (by simpa using hx), hn⟩

theorem allocV_nat (T : TypeId) (nm : Nat) (s : St D) (tc : List Nat) : Nat2 (R := R) (Fr s tc) fun K => allocV cx T nm s K := by
  unfold allocV
  cases cx.T T with
  | none => exact .none
  | some ti =>
    refine .chk _ fun hb => ?_
    have hn : s.u nm = false := by simpa using hb
    cases ti.desc with
    | arr n e =>
      simp only
      cases (cx.T e).bind TI.ty with
      | none => exact .ret _ (.born hn tc)
      | some t => exact .ret _ (.born hn tc)
    | _ => exact .ret _ (.born hn tc)

theorem boxV_nat (T : TypeId) (q : PV D) (nm : Nat) (s : St D) (tc : List Nat) : Nat2 (R := R) (Fr s tc) fun K => boxV cx T q nm s K := by
  unfold boxV
  cases cx.T T with
  | none => exact .none
  | some ti =>
    refine .chk _ fun hb => ?_
    have hn : s.u nm = false := by simpa using hb
    cases q <;> first | exact .ret _ (.born hn tc) | exact .chk _ fun _ => .ret _ (.born hn tc)

theorem makeRow_nat (T : TypeId) (n c : Int) (nm : Nat) (s : St D) (tc : List Nat) : Nat2 (R := R) (Fr s tc) fun K => makeRow cx T n c nm s K := by
  unfold makeRow
  cases elemTI cx T with
  | none => exact .none
  | some tb =>
    refine .chk _ fun hb => ?_
    have hn : s.u nm = false := by simpa using hb
    exact .chk _ fun _ => .ret _ (.born hn tc)

theorem op1_nat (ok : CxOk cx P) (ho : ∀ f args os, Nat1 (orc f args os)) (o : Oper) (nm : Nat) (s : St D) : Nat2 (Fr s (fpOf keep o s)) fun K => op1 cx orc keep o nm s K := by
  obtain ⟨dst, op, type, pos, after, guard⟩ := o
  unfold op1
  cases op with
  | move x => exact .ret _ (.refl _ _)
  | assign x => exact .ret _ (.refl _ _)
  | pick c x y =>
    simp only
    cases ev s c with
    | bool b => cases b <;> exact .ret _ (.refl _ _)
    | _ => exact .none
  | alloc T => exact allocV_nat T nm s _
  | box T x => exact boxV_nat T _ nm s _
  | build T ps =>
    simp only
    cases cx.T T with
    | none => exact .none
    | some ti =>
      simp only
      cases ti.desc with
      | struct fs =>
        simp only
        cases putAll cx fs (ps.toList.map fun (i, x) => (i, ev s x)) ti.zero with
        | none => exact .none
        | some cs => exact .ret _ (.refl _ _)
      | arr n e =>
        simp only
        cases (cx.T e).bind TI.ty with
        | none => exact .none
        | some t =>
          simp only
          cases decAll cx t (ps.toList.map fun (_, x) => (cellsOf cx (ev s x)).map (settle s)) with
          | none => exact .none
          | some xs => exact .chk _ fun _ => .ret _ ((frzAll_fr _ s).sub fun n hn => cells_ps ok hn)
      | _ => exact .none
  | buildSlice T n ps =>
    simp only
    cases elemTI cx T with
    | none =>
      simp only
      cases cx.T T with
      | none => exact .none
      | some ti =>
        simp only
        cases ti.desc with
        | slice e =>
          simp only
          cases cx.T e with
          | none => exact .none
          | some te =>
            simp only
            cases putAll cx ((List.range n).map fun i => (i * te.size, te.size, false)) (ps.toList.map fun (i, x) => (i, ev s x)) ((List.replicate n te.zero).flatten) with
            | none => exact .none
            | some cs => exact .chk _ fun hb => .chk _ fun _ => .ret _ (.born (by simpa using hb) _)
        | _ => exact .none
    | some tb =>
      obtain ⟨t, bytes⟩ := tb
      simp only
      cases decAll cx t (ps.toList.map fun (_, x) => (cellsOf cx (ev s x)).map (settle s)) with
      | none => exact .none
      | some xs =>
        refine .chk _ fun hb => .chk _ fun _ => .ret _ ?_
        have hn : s.u nm = false := by simpa using hb
        exact ((frzAll_fr _ s).sub fun n hn => cells_ps ok hn).trans (frzAll_u _ _) (.born (by rw [frzAll_u]; exact hn) _)
  | load T x => exact .of1 (load_nat T _ s) (.refl _ _)
  | store T x y => exact (store_nat ok T _ _ s).imp id fun ⟨v, s', hf, hk⟩ => ⟨v, s', hf.sub fun n hn => by
      rcases List.mem_append.1 hn with hn | hn
      · exact op_names (o := ⟨dst, .store T x y, type, pos, after, guard⟩) (x := x) (by simp [Op.operands]) hn
      · exact op_names (o := ⟨dst, .store T x y, type, pos, after, guard⟩) (x := y) (by simp [Op.operands]) hn, hk⟩
  | nilCheck x =>
    simp only
    cases ev s x <;> first | exact .none | exact .ret _ (.refl _ _)
  | binOp op T x y t => exact .of1 (binX_nat op T _ _ _ _) (.refl _ _)
  | unOp op T x =>
    simp only
    cases ev s x <;> cases op <;> first | exact .none | exact .ret _ (.refl _ _)
  | convert src dst x =>
    simp only
    cases (cx.T src).map TI.desc with
    | none => exact .none
    | some ds =>
      cases (cx.T dst).map TI.desc with
      | none => cases ds <;> exact .none
      | some dd =>
        have bs : ∀ e, Nat2 (R := R) (Fr s (names.go ([x].map (ev s)))) fun K => match ((cx.T e).map TI.desc : Option TD), listOf (.int .u8) s (ev s x) with
            | some (.int .u8), some ys => K (.str ⟨(ys.map fun n => UInt8.ofNat n.toNat).toArray⟩) s
            | _, _ => none := by
          intro e
          cases (cx.T e).map TI.desc with
          | none => exact .none
          | some d =>
            cases listOf (.int .u8) s (ev s x) with
            | none => cases d with
              | int k => cases k <;> exact .none
              | _ => exact .none
            | some ys => cases d with
              | int k => cases k <;> first | exact .none | exact .ret _ (.refl _ _)
              | _ => exact .none
        have sb : ∀ (b : ByteArray) e, Nat2 (R := R) (Fr s (names.go ([x].map (ev s)))) fun K => match cx.T e with
            | some te => match te.desc, te.ty with
              | .int .u8, some (.int .u8) => chk (!s.u nm) (K (.own nm) (s.born nm (.row (.int .u8) (b.data.toList.map fun c => (c.toNat : Int)) true)))
              | _, _ => none
            | none => none := by
          intro b e
          cases cx.T e with
          | none => exact .none
          | some te =>
            simp only
            cases te.desc with
            | int k =>
              cases te.ty with
              | none => cases k <;> exact .none
              | some t => cases t with
                | int k' => cases k <;> cases k' <;> first | exact .none | exact .chk _ fun hb => .ret _ (.born (by simpa using hb) _)
                | _ => cases k <;> exact .none
            | _ => exact .none
        cases ds <;> cases dd <;> first
          | exact .none
          | exact bs _
          | (revert bs sb; cases ev s x <;> intro bs sb <;> first | exact .none | exact .ret _ (.refl _ _) | exact sb _ _ | exact bs _)
  | makeInterface T x =>
    simp only
    cases (cx.T T).map TI.desc with
    | none => exact .none
    | some d => cases d <;> first | exact .none | exact .ret _ (.refl _ _)
  | makeFunc fn fs cs =>
    cases fn with
    | func f =>
      simp only
      cases Nat.beq fs.size 0 with
      | false => exact .none
      | true => exact .ret _ (.refl _ _)
    | _ => exact .none
  | makeSlice T l c =>
    simp only
    cases ev s l with
    | int kl n => cases ev s c with
      | int kc c => exact makeRow_nat T n c nm s _
      | _ => exact .none
    | _ => exact .none
  | slice T x lo hi mx =>
    cases mx with
    | none => cases hi <;> exact .of1 (sliceV_nat T _ _ _ s) (.refl _ _)
    | some mx =>
      cases hi with
      | none => exact .none
      | some hi =>
        simp only
        cases elemTI cx T with
        | none => exact .none
        | some tb =>
          simp only
          split
          · exact .chk _ fun hb => .ret _ (.born (by simp only [Bool.and_eq_true] at hb; simpa using hb.1) _)
          · exact .none
  | fieldAddr T x f =>
    simp only
    cases (cx.T T).map TI.desc with
    | none => exact .none
    | some d => cases d with
      | struct fs =>
        simp only
        cases fs[f]? with
        | none => exact .none
        | some fl => exact .of1 (offA_nat _ _ s) (.refl _ _)
      | _ => exact .none
  | field T x f =>
    simp only
    cases (cx.T T).map TI.desc with
    | none => exact .none
    | some d => cases d with
      | struct fs =>
        cases ev s x with
        | agg cs =>
          simp only
          cases fs[f]? with
          | none => exact .none
          | some fl => exact .chk _ fun _ => .ret _ (.refl _ _)
        | _ => exact .none
      | _ => exact .none
  | indexAddr T x i => exact .of1 (indexAddr_nat T _ _ s) (.refl _ _)
  | index T x i =>
    simp only
    cases cx.T T with
    | none => exact .none
    | some ti =>
      cases ev s x with
      | arr t xs => cases ev s i with
        | int k m =>
          simp only
          cases ti.desc with
          | arr n e =>
            simp only
            cases cx.T e with
            | none => exact .none
            | some te => exact .chk _ fun _ => .ret _ (.refl _ _)
          | _ => exact .none
        | _ => exact .none
      | str b => cases ev s i with
        | int k m =>
          simp only
          cases ti.desc <;> first | exact .none | exact .chk _ fun _ => .ret _ (.refl _ _)
        | _ => exact .none
      | _ => exact .none
  | extract x i =>
    simp only
    cases ev s x with
    | tup l =>
      simp only
      cases l[i]? with
      | none => exact .none
      | some v => exact .ret _ (.refl _ _)
    | _ => exact .none
  | call c =>
    obtain ⟨callee, args, argTypes⟩ := c
    cases callee with
    | invoke x nme => exact .none
    | value f =>
      simp only [fpOf]
      cases ev s f with
      | fn g caps => exact call_nat ho g _ nm s
      | _ => exact .none
    | builtin b =>
      have two : ∀ {l : List (PV D)} {p q : PV D}, l = [p, q] → ∀ n ∈ names p ++ names q, n ∈ names.go l := by
        rintro l p q rfl n hn
        simpa [names.go] using hn
      cases b <;> simp only [fpOf] <;> try exact .none
      case len =>
        cases argTypes.toList with
        | nil => exact .none
        | cons T ts => cases ts with
          | cons => exact .none
          | nil => cases args.toList.map (ev s) with
            | nil => exact .none
            | cons x xs => cases xs with
              | cons => exact .none
              | nil =>
                simp only
                cases (cx.T T).map TI.desc with
                | none => cases x <;> exact .none
                | some d => cases d <;> cases x <;> first | exact .none | exact .ret _ (.refl _ _) | exact .of1 (lenV_nat _ s) (.refl _ _)
      case cap =>
        cases argTypes.toList with
        | nil => exact .none
        | cons T ts => cases ts with
          | cons => exact .none
          | nil => cases args.toList.map (ev s) with
            | nil => exact .none
            | cons x xs => cases xs with
              | cons => cases x <;> exact .none
              | nil =>
                cases x <;> simp only <;> try exact .none
                cases (cx.T T).map TI.desc with
                | none => exact .none
                | some d => cases d <;> first | exact .none | exact .ret _ (.refl _ _)
      case append =>
        generalize hl : args.toList.map (ev s) = l
        cases argTypes.toList with
        | nil => exact .none
        | cons T ts => cases ts with
          | nil => exact .none
          | cons T' ts => cases ts with
            | cons => exact .none
            | nil => cases l with
              | nil => exact .none
              | cons x xs => cases xs with
                | nil => exact .none
                | cons y ys => cases ys with
                  | cons => exact .none
                  | nil => exact (append_nat T T' x y nm s).imp id fun ⟨v, s', hf, hk⟩ => ⟨v, s', hf.sub (two rfl), hk⟩
      case copy =>
        generalize hl : args.toList.map (ev s) = l
        cases argTypes.toList with
        | nil => exact .none
        | cons T ts => cases ts with
          | nil => exact .none
          | cons T' ts => cases ts with
            | cons => exact .none
            | nil => cases l with
              | nil => exact .none
              | cons x xs => cases xs with
                | nil => exact .none
                | cons y ys => cases ys with
                  | cons => exact .none
                  | nil =>
                    simp only
                    cases elemTI cx T with
                    | none => exact .none
                    | some tb => exact (copyV_nat tb.1 x y s).imp id fun ⟨v, s', hf, hk⟩ => ⟨v, s', hf.sub (two rfl), hk⟩
      case clear =>
        generalize hl : args.toList.map (ev s) = l
        cases argTypes.toList with
        | nil => exact .none
        | cons T ts => cases ts with
          | cons => exact .none
          | nil => cases l with
            | nil => exact .none
            | cons x xs => cases xs with
              | cons => exact .none
              | nil =>
                simp only
                cases elemTI cx T with
                | none => exact .none
                | some tb => exact (clearV_nat tb.1 x s).imp id fun ⟨v, s', hf, hk⟩ => ⟨v, s', hf.sub (fun n hn => by simpa [names.go] using hn), hk⟩
      case max =>
        cases args.toList.map (ev s) with
        | nil => exact .none
        | cons x xs => cases xs with
          | nil => cases x <;> exact .none
          | cons y ys => cases ys with
            | cons => cases x <;> cases y <;> exact .none
            | nil =>
              cases x <;> cases y <;> simp only <;> try exact .none
              rename_i k m k' n
              cases decide (k = k') <;> first | exact .none | exact .ret _ (.refl _ _)
      case min =>
        cases args.toList.map (ev s) with
        | nil => exact .none
        | cons x xs => cases xs with
          | nil => cases x <;> exact .none
          | cons y ys => cases ys with
            | cons => cases x <;> cases y <;> exact .none
            | nil =>
              cases x <;> cases y <;> simp only <;> try exact .none
              rename_i k m k' n
              cases decide (k = k') <;> first | exact .none | exact .ret _ (.refl _ _)
  | _ => exact .none

end Go.Am

/-! Operations that leave the objects alone. -/
namespace Go.Am
variable {D : Nat → Type} {R : Type} {cx : Cx D} {orc : Orc D R} {keep : FuncId → List Bool} {N : Nat} {s s1 s2 : St D} {P : Program}

theorem quiet_nat (o : Oper) (hq : quiet cx o = true) (nm : Nat) (s : St D) : Nat2 (fun s' => s' = s) fun K => op1 cx orc keep o nm s K := by
  obtain ⟨dst, op, type, pos, after, guard⟩ := o
  unfold op1
  cases op with
  | move x => exact .ret _ rfl
  | assign x => exact .ret _ rfl
  | pick c x y =>
    simp only
    cases ev s c with
    | bool b => cases b <;> exact .ret _ rfl
    | _ => exact .none
  | alloc T => simp [quiet] at hq
  | box T x => simp [quiet] at hq
  | build T ps =>
    simp only [quiet] at hq
    simp only
    cases hT : cx.T T with
    | none => exact .none
    | some ti =>
      simp only
      simp only [hT] at hq
      cases hd : ti.desc with
      | struct fs =>
        simp only
        cases putAll cx fs (ps.toList.map fun (i, x) => (i, ev s x)) ti.zero with
        | none => exact .none
        | some cs => exact .ret _ rfl
      | arr n e => simp [hd] at hq
      | _ => exact .none
  | buildSlice T n ps => simp [quiet] at hq
  | load T x => exact .of1 (load_nat T _ s) rfl
  | store T x y => simp [quiet] at hq
  | nilCheck x =>
    simp only
    cases ev s x <;> first | exact .none | exact .ret _ rfl
  | binOp op T x y t => exact .of1 (binX_nat op T _ _ _ _) rfl
  | unOp op T x =>
    simp only
    cases ev s x <;> cases op <;> first | exact .none | exact .ret _ rfl
  | convert src dst x =>
    simp only
    cases (cx.T src).map TI.desc with
    | none => exact .none
    | some ds =>
      cases hdst : (cx.T dst).map TI.desc with
      | none => cases ds <;> exact .none
      | some dd =>
        have bs : ∀ e, Nat2 (R := R) (fun s' => s' = s) fun K => match ((cx.T e).map TI.desc : Option TD), listOf (.int .u8) s (ev s x) with
            | some (.int .u8), some ys => K (.str ⟨(ys.map fun n => UInt8.ofNat n.toNat).toArray⟩) s
            | _, _ => none := by
          intro e
          cases (cx.T e).map TI.desc with
          | none => exact .none
          | some d =>
            cases listOf (.int .u8) s (ev s x) with
            | none => cases d with
              | int k => cases k <;> exact .none
              | _ => exact .none
            | some ys => cases d with
              | int k => cases k <;> first | exact .none | exact .ret _ rfl
              | _ => exact .none
        cases ds <;> cases dd <;> first
          | exact .none
          | exact bs _
          | (simp [quiet, hdst] at hq; done)
          | (revert bs; cases ev s x <;> intro bs <;> first | exact .none | exact .ret _ rfl | exact bs _)
  | makeInterface T x =>
    simp only
    cases (cx.T T).map TI.desc with
    | none => exact .none
    | some d => cases d <;> first | exact .none | exact .ret _ rfl
  | makeFunc fn fs cs =>
    cases fn with
    | func f =>
      simp only
      cases Nat.beq fs.size 0 with
      | false => exact .none
      | true => exact .ret _ rfl
    | _ => exact .none
  | makeSlice T l c => simp [quiet] at hq
  | slice T x lo hi mx =>
    cases mx with
    | none => cases hi <;> exact .of1 (sliceV_nat T _ _ _ s) rfl
    | some mx => simp [quiet] at hq
  | fieldAddr T x f =>
    simp only
    cases (cx.T T).map TI.desc with
    | none => exact .none
    | some d => cases d with
      | struct fs =>
        simp only
        cases fs[f]? with
        | none => exact .none
        | some fl => exact .of1 (offA_nat _ _ s) rfl
      | _ => exact .none
  | field T x f =>
    simp only
    cases (cx.T T).map TI.desc with
    | none => exact .none
    | some d => cases d with
      | struct fs =>
        cases ev s x with
        | agg cs =>
          simp only
          cases fs[f]? with
          | none => exact .none
          | some fl => exact .chk _ fun _ => .ret _ rfl
        | _ => exact .none
      | _ => exact .none
  | indexAddr T x i => exact .of1 (indexAddr_nat T _ _ s) rfl
  | index T x i =>
    simp only
    cases cx.T T with
    | none => exact .none
    | some ti =>
      cases ev s x with
      | arr t xs => cases ev s i with
        | int k m =>
          simp only
          cases ti.desc with
          | arr n e =>
            simp only
            cases cx.T e with
            | none => exact .none
            | some te => exact .chk _ fun _ => .ret _ rfl
          | _ => exact .none
        | _ => exact .none
      | str b => cases ev s i with
        | int k m =>
          simp only
          cases ti.desc <;> first | exact .none | exact .chk _ fun _ => .ret _ rfl
        | _ => exact .none
      | _ => exact .none
  | extract x i =>
    simp only
    cases ev s x with
    | tup l =>
      simp only
      cases l[i]? with
      | none => exact .none
      | some v => exact .ret _ rfl
    | _ => exact .none
  | call c =>
    obtain ⟨callee, args, argTypes⟩ := c
    cases callee with
    | invoke x nme => exact .none
    | value f =>
      simp [quiet] at hq
    | builtin b =>
      cases b <;> simp only <;> try exact .none
      case len =>
        cases argTypes.toList with
        | nil => exact .none
        | cons T ts => cases ts with
          | cons => exact .none
          | nil => cases args.toList.map (ev s) with
            | nil => exact .none
            | cons x xs => cases xs with
              | cons => exact .none
              | nil =>
                simp only
                cases (cx.T T).map TI.desc with
                | none => cases x <;> exact .none
                | some d => cases d <;> cases x <;> first | exact .none | exact .ret _ rfl | exact .of1 (lenV_nat _ s) rfl
      case cap =>
        cases argTypes.toList with
        | nil => exact .none
        | cons T ts => cases ts with
          | cons => exact .none
          | nil => cases args.toList.map (ev s) with
            | nil => exact .none
            | cons x xs => cases xs with
              | cons => cases x <;> exact .none
              | nil =>
                cases x <;> simp only <;> try exact .none
                cases (cx.T T).map TI.desc with
                | none => exact .none
                | some d => cases d <;> first | exact .none | exact .ret _ rfl
      case append => simp [quiet] at hq
      case copy => simp [quiet] at hq
      case clear => simp [quiet] at hq
      case max =>
        cases args.toList.map (ev s) with
        | nil => exact .none
        | cons x xs => cases xs with
          | nil => cases x <;> exact .none
          | cons y ys => cases ys with
            | cons => cases x <;> cases y <;> exact .none
            | nil =>
              cases x <;> cases y <;> simp only <;> try exact .none
              rename_i k m k' n
              cases decide (k = k') <;> first | exact .none | exact .ret _ rfl
      case min =>
        cases args.toList.map (ev s) with
        | nil => exact .none
        | cons x xs => cases xs with
          | nil => cases x <;> exact .none
          | cons y ys => cases ys with
            | cons => cases x <;> cases y <;> exact .none
            | nil =>
              cases x <;> cases y <;> simp only <;> try exact .none
              rename_i k m k' n
              cases decide (k = k') <;> first | exact .none | exact .ret _ rfl
  | _ => exact .none

end Go.Am

/-! What an operation sees. -/
namespace Go.Am
variable {D : Nat → Type} {R : Type} {cx : Cx D} {orc : Orc D R} {keep : FuncId → List Bool} {N : Nat} {s s1 s2 : St D} {P : Program}

theorem load_c {T : TypeId} {p : PV D} (h : ∀ n ∈ names p, s2.o n = s.o n) (K : PV D → Option R) : load cx T p s2 K = load cx T p s K := by
  unfold load
  cases p <;> simp only [names, List.mem_singleton, forall_eq] at h ⊢ <;> try rw [h]
theorem offA_c {p : PV D} {m : Nat} (h : ∀ n ∈ names p, s2.o n = s.o n) (K : PV D → Option R) : offA p m s2 K = offA p m s K := by
  unfold offA
  cases p <;> simp only [names, List.mem_singleton, forall_eq] at h ⊢ <;> try rw [h]
theorem lenV_c {p : PV D} (h : ∀ n ∈ names p, s2.o n = s.o n) (K : PV D → Option R) : lenV p s2 K = lenV p s K := by
  unfold lenV
  cases p <;> simp only [names, List.mem_singleton, forall_eq] at h ⊢ <;> try rw [h]
theorem indexAddr_c {T : TypeId} {p i : PV D} (h : ∀ n ∈ names p, s2.o n = s.o n) (K : PV D → Option R) : indexAddr cx T p i s2 K = indexAddr cx T p i s K := by
  unfold indexAddr
  cases i <;> try rfl
  cases p <;> simp only [names, List.mem_singleton, forall_eq] at h ⊢ <;> try rw [h]
theorem sliceV_c {T : TypeId} {p : PV D} {lo hi : Option (PV D)} (h : ∀ n ∈ names p, s2.o n = s.o n) (K : PV D → Option R) : sliceV cx T p lo hi s2 K = sliceV cx T p lo hi s K := by
  unfold sliceV
  cases p <;> simp only [names, List.mem_singleton, forall_eq] at h ⊢ <;> try rw [h]
theorem settle_c {p : PV D} (h : ∀ n ∈ names p, s2.o n = s.o n) : settle s2 p = settle s p := by
  unfold settle
  cases p <;> simp only [names, List.mem_singleton, forall_eq] at h ⊢ <;> try rw [h]
theorem listOf_c {t : Ty} {p : PV D} (h : ∀ n ∈ names p, s2.o n = s.o n) : listOf t s2 p = listOf t s p := by
  unfold listOf; rw [settle_c h]

theorem map_ev {xs : List Operand} (h : ∀ x ∈ xs, ev s2 x = ev s x) : xs.map (ev s2) = xs.map (ev s) := List.map_congr_left h
theorem ps_ev {ps : Array (Nat × Operand)} (h : ∀ x ∈ (ps.toList.map (·.2)).toArray, ev s2 x = ev s x) : (ps.toList.map fun (i, x) => (i, ev s2 x)) = ps.toList.map fun (i, x) => (i, ev s x) := by
  refine List.map_congr_left fun p hp => ?_
  have := h p.2 (by simp; exact ⟨p.1, by simpa using hp⟩)
  simp only [this]

theorem evG_c {x : Operand} (h : ev s2 x = ev s x) : evG cx s2 x = evG cx s x := by
  cases x with
  | global g => rfl
  | _ => exact h
theorem evG_names {x : Operand} {n : Nat} (h : n ∈ names (evG cx s x)) : n ∈ names (ev s x) := by
  cases x with
  | global g => simp only [evG] at h; split at h <;> simp [names] at h
  | _ => exact h

theorem quiet_congr (o : Oper) (hq : quiet cx o = true) (nm : Nat) (he : ∀ x ∈ o.op.operands, ev s2 x = ev s x) (hf : ∀ n ∈ fpOf keep o s, s2.o n = s.o n) (K : PV D → Option R) :
    op1 cx orc keep o nm s2 (fun v _ => K v) = op1 cx orc keep o nm s fun v _ => K v := by
  obtain ⟨dst, op, type, pos, after, guard⟩ := o
  unfold op1
  cases op with
  | move x => simp only [Op.operands] at he; simp only [he x (by simp)]
  | assign x => simp only [Op.operands] at he; simp only [he x (by simp)]
  | pick c x y => simp only [Op.operands] at he; simp only [he c (by simp), he x (by simp), he y (by simp)]
  | build T ps =>
    simp only [Op.operands] at he
    simp only [quiet] at hq
    simp only
    cases hT : cx.T T with
    | none => rfl
    | some ti =>
      simp only
      simp only [hT] at hq
      cases hd : ti.desc with
      | struct fs => simp only [ps_ev he]
      | arr n e => simp [hd] at hq
      | _ => rfl
  | load T x => simp only [Op.operands] at he; simp only [he x (by simp)]; exact load_c (fun n hn => hf n (by simpa [fpOf, Op.operands, names.go] using hn)) _
  | nilCheck x => simp only [Op.operands] at he; simp only [he x (by simp)]
  | binOp op T x y t => simp only [Op.operands] at he; simp only [he x (by simp), he y (by simp)]
  | unOp op T x => simp only [Op.operands] at he; simp only [he x (by simp)]
  | convert src dst x =>
    simp only [Op.operands] at he
    have hl : listOf (.int .u8) s2 (ev s x) = listOf (.int .u8) s (ev s x) := listOf_c fun n hn => hf n (by simpa [fpOf, Op.operands, names.go] using hn)
    simp only [quiet] at hq
    simp only [he x (by simp)]
    cases hd : (cx.T dst).map TI.desc with
    | none => cases (cx.T src).map TI.desc <;> rfl
    | some dd =>
      cases hs : (cx.T src).map TI.desc with
      | none => rfl
      | some ds =>
        cases dd with
        | slice e => simp [hd] at hq
        | str => cases ds <;> first | rfl | (cases hx : ev s x <;> rw [hx] at hl <;> simp only [hl])
        | _ => cases ds <;> first | rfl | (cases hx : ev s x <;> rfl)
  | makeInterface T x => simp only [Op.operands] at he; simp only [he x (by simp)]
  | makeFunc fn fs cs =>
    cases fn with
    | func f =>
      simp only [Op.operands] at he
      simp only [map_ev (s2 := s2) (s := s) (xs := cs.toList) fun x hx => he x (by simp at hx; simp [hx])]
    | _ => rfl
  | slice T x lo hi mx =>
    cases mx with
    | none =>
      simp only [Op.operands] at he
      have h1 : lo.map (ev s2) = lo.map (ev s) := by
        cases lo with
        | none => rfl
        | some l => simp only [Option.map_some]; rw [he l (by simp)]
      have h2 : hi.map (ev s2) = hi.map (ev s) := by
        cases hi with
        | none => rfl
        | some l => simp only [Option.map_some]; rw [he l (by simp)]
      have h3 := he x (by simp)
      have h4 : ∀ n ∈ names (ev s x), s2.o n = s.o n := fun n hn => hf n (by simp [fpOf, Op.operands, names.go, hn])
      cases hi <;> (simp only [h1, h2, h3]; exact sliceV_c h4 _)
    | some mx => simp [quiet] at hq
  | fieldAddr T x f =>
    simp only [Op.operands] at he
    simp only [he x (by simp)]
    cases (cx.T T).map TI.desc with
    | none => rfl
    | some d => cases d with
      | struct fs =>
        simp only
        cases fs[f]? with
        | none => rfl
        | some fl => exact offA_c (fun n hn => hf n (by simpa [fpOf, Op.operands, names.go] using hn)) _
      | _ => rfl
  | field T x f => simp only [Op.operands] at he; simp only [he x (by simp)]
  | indexAddr T x i => simp only [Op.operands] at he; simp only [evG_c (cx := cx) (he x (by simp)), he i (by simp)]; exact indexAddr_c (fun n hn => have hn := evG_names hn; hf n (by simp [fpOf, Op.operands, names.go, hn])) _
  | index T x i => simp only [Op.operands] at he; simp only [he x (by simp), he i (by simp)]
  | extract x i => simp only [Op.operands] at he; simp only [he x (by simp)]
  | call c =>
    obtain ⟨callee, args, argTypes⟩ := c
    cases callee with
    | invoke x nme => simp [quiet] at hq
    | value f => simp [quiet] at hq
    | builtin b =>
      simp only [Op.operands, Call.operands] at he
      have ha := map_ev (s2 := s2) (s := s) (xs := args.toList) fun x hx => he x (by simp at hx; simp [hx])
      cases b <;> simp only [quiet] at hq <;> try (simp at hq; done)
      case len =>
        simp only [ha]
        simp only [fpOf] at hf
        revert hf
        generalize args.toList.map (ev s) = l
        intro hf
        cases argTypes.toList with
        | nil => rfl
        | cons T ts => cases ts with
          | cons => rfl
          | nil => cases l with
            | nil => rfl
            | cons x xs => cases xs with
              | cons => rfl
              | nil =>
                have hx : ∀ n ∈ names x, s2.o n = s.o n := fun n hn => hf n (by simp [names.go, hn])
                have hl := lenV_c hx (fun v => K v)
                cases hdt : cx.T T with
                | none => cases x <;> simp only [hdt, Option.map_none]
                | some ti => cases hdd : ti.desc <;> cases x <;> simp only [hdt, hdd, Option.map_some] <;> exact hl
      case cap => simp only [ha]
      case max => simp only [ha]
      case min => simp only [ha]
  | _ => simp [quiet] at hq

end Go.Am

/-! Tmps that are not named do not matter. -/
namespace Go.Am
variable {D : Nat → Type} {R : Type} {cx : Cx D} {orc : Orc D R} {keep : FuncId → List Bool} {N : Nat} {P : Program}

/-- The same objects, other tmps. -/
def St.tm (t : Nat → PV D) (s : St D) : St D := ⟨t, s.o, s.u⟩

theorem frzN_tm (t : Nat → PV D) (s : St D) (o : Nat) : frzN (s.tm t) o = (frzN s o).tm t := by
  unfold frzN St.tm
  simp only
  cases s.o o with
  | none => rfl
  | some ob => cases ob <;> rfl
theorem frz_tm (t : Nat → PV D) (s : St D) (p : PV D) : frz (s.tm t) p = (frz s p).tm t := by
  cases p <;> first | exact frzN_tm _ _ _ | rfl
theorem frzAll_tm (t : Nat → PV D) : ∀ (l : List (PV D)) (s : St D), frzAll (s.tm t) l = (frzAll s l).tm t
  | [], s => rfl
  | p :: l, s => by simp only [frzAll, frz_tm]; exact frzAll_tm t l _
theorem frzNs_tm (t : Nat → PV D) : ∀ (l : List Nat) (s : St D), frzNs (s.tm t) l = (frzNs s l).tm t
  | [], s => rfl
  | p :: l, s => by simp only [frzNs, frzN_tm]; exact frzNs_tm t l _
theorem settle_tm (t : Nat → PV D) (s : St D) : settle (s.tm t) = settle s := by funext p; exact settle_c fun _ _ => rfl
theorem listOf_tm (t : Nat → PV D) (s : St D) (ty : Ty) (p : PV D) : listOf ty (s.tm t) p = listOf ty s p := listOf_c fun _ _ => rfl
theorem lend_tm (t : Nat → PV D) (s : St D) : ∀ (ks : List Bool) (ps : List (PV D)), lend (s.tm t) ks ps = lend s ks ps
  | ks, [] => by cases ks <;> rfl
  | [], p :: ps => by
    have : borrow (s.tm t) p = borrow s p := by cases p <;> simp only [borrow, settle_tm]
    simp only [lend, this, lend_tm t s [] ps]
  | k :: ks, p :: ps => by
    have : borrow (s.tm t) p = borrow s p := by cases p <;> simp only [borrow, settle_tm]
    simp only [lend, this, lend_tm t s ks ps]
theorem reach_tm (t : Nat → PV D) (s : St D) : ∀ (k : Nat) (p acc : List Nat), reach (s.tm t) k p acc = reach s k p acc
  | 0, p, acc => by cases p <;> rfl
  | k + 1, [], acc => rfl
  | k + 1, n :: p, acc => by
    simp only [reach, St.tm]
    have h := fun p acc => reach_tm t s k p acc
    simp only [St.tm] at h
    simp only [h]
theorem objsAt_tm (t : Nat → PV D) (s : St D) (f : Nat → Nat) : ∀ ns, objsAt (s.tm t) f ns = objsAt s f ns
  | [] => rfl
  | n :: ns => by simp only [objsAt, objsAt_tm t s f ns]; rfl
theorem freshB_tm (t : Nat → PV D) (s : St D) (nm : Nat) : ∀ k, freshB (s.tm t) nm k = freshB s nm k
  | 0 => rfl
  | k + 1 => by simp only [freshB, freshB_tm t s nm k]; rfl

theorem store_tm (t : Nat → PV D) (s : St D) (T : TypeId) (p q : PV D) (K : St D → Option R) : store cx T p q (s.tm t) K = store cx T p q s fun s' => K (s'.tm t) := by
  unfold store
  cases cx.T T with
  | none => rfl
  | some ti =>
    simp only [settle_tm, frzAll_tm]
    congr 1

theorem appendL_tm (t : Nat → PV D) (s : St D) (ty : Ty) (bytes : Nat) (p : PV D) (ys : List (ty.den D)) (nm : Nat) (K : PV D → St D → Option R) : appendL ty bytes p ys nm (s.tm t) K = appendL ty bytes p ys nm s fun u s' => K u (s'.tm t) := by
  unfold appendL
  show chk _ _ = chk _ _
  congr 1

theorem append_tm (t : Nat → PV D) (s : St D) (T T' : TypeId) (p q : PV D) (nm : Nat) (K : PV D → St D → Option R) : append cx T T' p q nm (s.tm t) K = append cx T T' p q nm s fun u s' => K u (s'.tm t) := by
  unfold append
  cases elemTI cx T with
  | none => rfl
  | some tb =>
    simp only [listOf_tm, frz_tm, appendL_tm]

theorem copyV_tm (t : Nat → PV D) (s : St D) (t0 : Ty) (p q : PV D) (K : PV D → St D → Option R) : copyV t0 p q (s.tm t) K = copyV t0 p q s fun u s' => K u (s'.tm t) := by
  unfold copyV
  cases p with
  | own o =>
    simp only [listOf_tm]
    simp only [St.tm]
    cases s.o o with
    | none => rfl
    | some ob => cases ob with
      | box cs => rfl
      | row ty' xs l => cases l with
        | false => rfl
        | true => simp only; cases listOf ty' s q <;> rfl
  | view o lo n =>
    simp only [listOf_tm]
    simp only [St.tm]
    cases s.o o with
    | none => rfl
    | some ob => cases ob with
      | box cs => rfl
      | row ty' xs l => cases l with
        | false => rfl
        | true => simp only; cases listOf ty' s q <;> rfl
  | _ => rfl

theorem clearV_tm (t : Nat → PV D) (s : St D) (t0 : Ty) (p : PV D) (K : PV D → St D → Option R) : clearV cx t0 p (s.tm t) K = clearV cx t0 p s fun u s' => K u (s'.tm t) := by
  unfold clearV
  cases p with
  | view o lo n =>
    simp only [St.tm]
    cases s.o o with
    | none => rfl
    | some ob => cases ob with
      | box cs => rfl
      | row ty' xs l => cases l <;> rfl
  | _ => rfl

theorem putO_tm (t : Nat → PV D) (s : St D) (ns : List Nat) (nm : Nat) (os : List (Option (Obj D))) : putO ns nm os (s.tm t) = (putO ns nm os s).tm t := rfl

theorem call_tm (t : Nat → PV D) (s : St D) (g : FuncId) (args : List (PV D)) (nm : Nat) (K : PV D → St D → Option R) : call cx orc keep g args nm (s.tm t) K = call cx orc keep g args nm s fun u s' => K u (s'.tm t) := by
  unfold call
  simp only [lend_tm, reach_tm, objsAt_tm, freshB_tm, frzNs_tm]
  congr 1
  cases objsAt s (idx (reach s 1000 (names.go (lend s (keep g) args)) [])) (reach s 1000 (names.go (lend s (keep g) args)) []) with
  | none => rfl
  | some os =>
    simp only
    congr 1
    funext rv
    congr 1
    cases (hasList rv.vs || rv.os.any (hasListO cx) || !rv.os.all liveO) <;> rfl

theorem op1_tm (t : Nat → PV D) (s : St D) (o : Oper) (nm : Nat) (he : ∀ x ∈ o.op.operands, ev (s.tm t) x = ev s x) (K : PV D → St D → Option R) :
    op1 cx orc keep o nm (s.tm t) K = op1 cx orc keep o nm s fun u s' => K u (s'.tm t) := by
  have hquiet : quiet cx o = true → op1 cx orc keep o nm (s.tm t) K = op1 cx orc keep o nm s fun u s' => K u (s'.tm t) := by
    intro hq
    have hc := quiet_congr (R := R) (orc := orc) (keep := keep) (s2 := s.tm t) (s := s) o hq nm he (fun _ _ => rfl) (fun u => K u (s.tm t))
    have e2 : op1 cx orc keep o nm (s.tm t) K = op1 cx orc keep o nm (s.tm t) fun u _ => K u (s.tm t) := by
      rcases quiet_nat (R := R) (orc := orc) (keep := keep) o hq nm (s.tm t) with h | ⟨v, s', rfl, h⟩
      · have h1 := h K
        have h2 := h fun u _ => K u (s.tm t)
        simp only at h1 h2
        rw [h1, h2]
      · have h1 := h K
        have h2 := h fun u _ => K u (s.tm t)
        simp only at h1 h2
        rw [h1, h2]
    have e1 : (op1 cx orc keep o nm s fun u s' => K u (s'.tm t)) = op1 cx orc keep o nm s fun u _ => K u (s.tm t) := by
      rcases quiet_nat (R := R) (orc := orc) (keep := keep) o hq nm s with h | ⟨v, s', hs', h⟩
      · have h1 := h fun u s' => K u (s'.tm t)
        have h2 := h fun u _ => K u (s.tm t)
        simp only at h1 h2
        exact h1.trans h2.symm
      · have h1 := h fun u s' => K u (s'.tm t)
        have h2 := h fun u _ => K u (s.tm t)
        simp only at h1 h2
        rw [hs'] at h1
        exact h1.trans h2.symm
    rw [e1, e2, hc]
  cases hq : quiet cx o with
  | true => exact hquiet hq
  | false =>
  clear hquiet
  obtain ⟨dst, op, type, pos, after, guard⟩ := o
  unfold op1
  cases op with
  | alloc T =>
    simp only
    unfold allocV
    cases cx.T T with
    | none => rfl
    | some ti =>
      simp only
      cases ti.desc with
      | arr n e => simp only; cases (cx.T e).bind TI.ty <;> rfl
      | _ => rfl
  | box T x =>
    simp only [Op.operands] at he
    simp only [he x (by simp)]
    unfold boxV
    cases cx.T T with
    | none => rfl
    | some ti => simp only; cases ev s x <;> rfl
  | build T ps =>
    simp only [Op.operands] at he
    have h1 := ps_ev he
    have h2 : (ps.toList.map fun (x : Nat × Operand) => (cellsOf cx (ev (s.tm t) x.2)).map (settle s)) = ps.toList.map fun x => (cellsOf cx (ev s x.2)).map (settle s) := List.map_congr_left fun p hp => by rw [he p.2 (by simp; exact ⟨p.1, by simpa using hp⟩)]
    have h3 : (ps.toList.flatMap fun (x : Nat × Operand) => cellsOf cx (ev (s.tm t) x.2)) = ps.toList.flatMap fun x => cellsOf cx (ev s x.2) := by
      rw [List.flatMap_def, List.flatMap_def]
      congr 1
      exact List.map_congr_left fun p hp => by rw [he p.2 (by simp; exact ⟨p.1, by simpa using hp⟩)]
    simp only
    cases hT : cx.T T with
    | none => rfl
    | some ti =>
      simp only
      cases hd : ti.desc with
      | struct fs => simp [quiet, hT, hd] at hq
      | arr n e =>
        simp only [settle_tm, h2, h3, frzAll_tm]
      | _ => rfl
  | buildSlice T n ps =>
    simp only [Op.operands] at he
    have h2 : (ps.toList.map fun (x : Nat × Operand) => (cellsOf cx (ev (s.tm t) x.2)).map (settle s)) = ps.toList.map fun x => (cellsOf cx (ev s x.2)).map (settle s) := List.map_congr_left fun p hp => by rw [he p.2 (by simp; exact ⟨p.1, by simpa using hp⟩)]
    have h3 : (ps.toList.flatMap fun (x : Nat × Operand) => cellsOf cx (ev (s.tm t) x.2)) = ps.toList.flatMap fun x => cellsOf cx (ev s x.2) := by
      rw [List.flatMap_def, List.flatMap_def]
      congr 1
      exact List.map_congr_left fun p hp => by rw [he p.2 (by simp; exact ⟨p.1, by simpa using hp⟩)]
    simp only
    cases elemTI cx T with
    | none =>
      simp only [ps_ev he]
      cases cx.T T with
      | none => rfl
      | some ti =>
        simp only
        cases ti.desc with
        | slice e =>
          simp only
          cases cx.T e with
          | none => rfl
          | some te =>
            simp only
            split <;> rfl
        | _ => rfl
    | some tb =>
      simp only [settle_tm, h2, h3, frzAll_tm]
      rfl
  | store T x y =>
    simp only [Op.operands] at he
    simp only [he x (by simp), he y (by simp)]
    exact store_tm t s T _ _ _
  | convert src dst x =>
    simp only [Op.operands] at he
    simp only [he x (by simp), listOf_tm]
    rfl
  | makeSlice T l c =>
    simp only [Op.operands] at he
    simp only [he l (by simp), he c (by simp)]
    cases ev s l <;> first | rfl | (cases ev s c <;> first | rfl | (simp only [makeRow]; cases elemTI cx T <;> rfl))
  | slice T x lo hi mx =>
    cases mx with
    | none => simp [quiet] at hq
    | some mx =>
      cases hi with
      | none => rfl
      | some hi =>
        simp only [Op.operands] at he
        have hx := he x (by simp)
        have hsl : isSl (s.tm t) (ev s x) = isSl s (ev s x) := by
          cases ev s x <;> rfl
        cases lo with
        | none =>
          simp only [he hi (by simp), he mx (by simp), hx, hsl]
          cases elemTI cx T with
          | none => rfl
          | some tb => rfl
        | some lo =>
          simp only [he hi (by simp), he mx (by simp), he lo (by simp), hx, hsl]
          cases elemTI cx T with
          | none => rfl
          | some tb => rfl
  | call c =>
    obtain ⟨callee, args, argTypes⟩ := c
    simp only [Op.operands, Call.operands] at he
    have ha := map_ev (s2 := s.tm t) (s := s) (xs := args.toList) fun x hx => he x (by simp at hx; simp [hx])
    cases callee with
    | invoke x nme => rfl
    | value f =>
      simp only [ha, he f (by simp)]
      cases ev s f <;> first | rfl | exact call_tm t s _ _ nm K
    | builtin b =>
      cases b <;> first | rfl | (simp [quiet] at hq; done) | skip
      case append => simp only [ha, append_tm]
      case copy => simp only [ha, copyV_tm]
      case clear => simp only [ha, clearV_tm]
  | _ => first | rfl | (simp [quiet] at hq; done)

end Go.Am

/-! Regions whose operations come in any order. -/
namespace Go.Am
variable {D : Nat → Type} {R : Type} {cx : Cx D} {orc : Orc D R} {keep : FuncId → List Bool} {N n0 : Nat} {P : Program} {all : Array Oper} {rid : Nat}

theorem putD_same {s : St D} {g : Nat} {p : PV D} (h : s.t g = p) : putD N s (some g) p = s := by
  simp only [putD]
  cases Nat.blt g N with
  | false => rfl
  | true =>
    simp only [cond_true, St.put]
    have : upd s.t g p = s.t := by
      funext i
      by_cases hi : i = g
      · subst hi; rw [upd_same, h]
      · rw [upd_ne _ _ _ _ hi]
    rw [this]


def wantOf (all : Array Oper) (o : Oper) (s : St D) : Option Bool :=
  match o.guard with
  | none => some true
  | some (j, want) => match (all[j]?).bind (·.dst) with
    | none => some false
    | some g => match s.t g with
      | .bool b => some (b == want)
      | .skip => some false
      | _ => none

theorem stepOp_want (o : Oper) (s : St D) (K : St D → Option R) : stepOp cx orc keep N all rid o s K = (match wantOf all o s with
    | some true => op1 cx orc keep o (nmOf rid o) s fun v s' => K (putD N s' o.dst v)
    | some false => K (putD N s o.dst .skip)
    | none => none) := by
  unfold stepOp wantOf
  cases o.guard with
  | none => rfl
  | some jw =>
    obtain ⟨j, want⟩ := jw
    simp only
    cases (all[j]?).bind (·.dst) with
    | none => rfl
    | some g =>
      simp only
      cases ht : s.t g <;> try rfl
      rename_i b
      simp only
      have h1 := putD_same (N := N) ht
      cases b <;> cases want <;> simp only [cond_true, cond_false, h1] <;> rfl

/-- Where a step leads. -/
structure StepTo (cx : Cx D) (orc : Orc D R) (keep : FuncId → List Bool) (N : Nat) (all : Array Oper) (rid : Nat) (o : Oper) (s : St D) (v : PV D) (s0 : St D) : Prop where
  fr : Fr s (fpOf keep o s) s0
  still : quiet cx o = true → s0 = s
  out : (wantOf all o s = some true ∧ ∀ K, op1 cx orc keep o (nmOf rid o) s K = K v s0) ∨ (wantOf all o s = some false ∧ v = .skip ∧ s0 = s)

theorem StepTo.run {o : Oper} {s s0 : St D} {v : PV D} (h : StepTo cx orc keep N all rid o s v s0) (K : St D → Option R) : stepOp cx orc keep N all rid o s K = K (putD N s0 o.dst v) := by
  rw [stepOp_want]
  rcases h.out with ⟨h1, h2⟩ | ⟨h1, rfl, rfl⟩
  · rw [h1]; exact h2 _
  · rw [h1]

theorem stepTo_of (ok : CxOk cx P) (ho : ∀ f args os, Nat1 (orc f args os)) {o : Oper} {s : St D} {K : St D → Option R} {r : R} (h : stepOp cx orc keep N all rid o s K = some r) : ∃ v s0, StepTo cx orc keep N all rid o s v s0 ∧ K (putD N s0 o.dst v) = some r := by
  rw [stepOp_want] at h
  cases hw : wantOf all o s with
  | none => simp [hw] at h
  | some b =>
    cases b with
    | false =>
      simp only [hw] at h
      exact ⟨.skip, s, ⟨.refl _ _, fun _ => rfl, .inr ⟨hw, rfl, rfl⟩⟩, h⟩
    | true =>
      simp only [hw] at h
      cases hq : quiet cx o with
      | true =>
        rcases quiet_nat (orc := orc) (keep := keep) o hq (nmOf rid o) s with hn | ⟨v, s0, rfl, hn⟩
        · have := hn fun v s' => K (putD N s' o.dst v)
          simp only at this
          rw [this] at h; simp at h
        · refine ⟨v, s0, ⟨.refl _ _, fun _ => rfl, .inl ⟨hw, hn⟩⟩, ?_⟩
          have := hn fun v s' => K (putD N s' o.dst v)
          simp only at this
          rw [this] at h; exact h
      | false =>
        rcases op1_nat (orc := orc) (keep := keep) ok ho o (nmOf rid o) s with hn | ⟨v, s0, hf, hn⟩
        · have := hn fun v s' => K (putD N s' o.dst v)
          simp only at this
          rw [this] at h; simp at h
        · refine ⟨v, s0, ⟨hf, fun h => by simp [hq] at h, .inl ⟨hw, hn⟩⟩, ?_⟩
          have := hn fun v s' => K (putD N s' o.dst v)
          simp only at this
          rw [this] at h; exact h

/-! ### Tmps -/
def Agree (all : Array Oper) (o : Oper) (t t2 : Nat → PV D) : Prop := ∀ d ∈ o.looksAt all, t2 d = t d

theorem agree_ev {o : Oper} {s s2 : St D} (h : Agree all o s.t s2.t) : ∀ x ∈ o.op.operands, ev s2 x = ev s x := by
  intro x hx
  cases x with
  | tmp t => exact h t (List.mem_append_left _ (List.mem_filterMap.2 ⟨.tmp t, by simpa using hx, rfl⟩))
  | _ => rfl

theorem agree_want {o : Oper} {s s2 : St D} (h : Agree all o s.t s2.t) : wantOf all o s2 = wantOf all o s := by
  unfold wantOf
  cases hg : o.guard with
  | none => rfl
  | some jw =>
    obtain ⟨j, want⟩ := jw
    simp only
    cases hb : (all[j]?).bind (·.dst) with
    | none => rfl
    | some g =>
      simp only
      rw [h g (List.mem_append_right _ (by simp [hg, hb]))]

theorem fpOf_congr {o : Oper} {s s2 : St D} (he : ∀ x ∈ o.op.operands, ev s2 x = ev s x) (hq : quiet cx o = true ∨ s2.o = s.o) : fpOf keep o s2 = fpOf keep o s := by
  obtain ⟨dst, op, type, pos, after, guard⟩ := o
  have gen : op.operands.toList.map (ev s2) = op.operands.toList.map (ev s) := map_ev fun x hx => he x (by simpa using hx)
  cases op with
  | call c =>
    obtain ⟨callee, args, argTypes⟩ := c
    simp only [Op.operands, Call.operands] at he
    have ha := map_ev (s2 := s2) (s := s) (xs := args.toList) fun x hx => he x (by simp at hx; simp [hx])
    cases callee with
    | value f =>
      simp only [fpOf, ha, he f (by simp)]
      rcases hq with hq | hq
      · simp [quiet] at hq
      · have : s2 = s.tm s2.t ∨ True := .inr trivial
        have e1 : ∀ ks ps, lend s2 ks ps = lend s ks ps := fun ks ps => by
          have h1 := lend_tm (s := ⟨s2.t, s.o, s.u⟩) (t := s.t) ks ps
          have h2 : ∀ ks ps, lend s2 ks ps = lend (⟨s2.t, s.o, s.u⟩ : St D) ks ps := by
            intro ks ps
            have hs : ∀ p, settle s2 p = settle (⟨s2.t, s.o, s.u⟩ : St D) p := fun p => settle_c fun n _ => by rw [hq]
            have hb : ∀ p, borrow s2 p = borrow (⟨s2.t, s.o, s.u⟩ : St D) p := fun p => by
              have : settle s2 = settle (⟨s2.t, s.o, s.u⟩ : St D) := funext hs
              cases p <;> simp only [borrow, this]
            induction ps generalizing ks with
            | nil => cases ks <;> rfl
            | cons p ps ih => cases ks <;> simp only [lend, hb, ih]
          rw [h2, ← h1]; rfl
        have e2 : ∀ k p acc, reach s2 k p acc = reach s k p acc := by
          intro k
          induction k with
          | zero => intro p acc; cases p <;> rfl
          | succ k ih =>
            intro p acc
            cases p with
            | nil => rfl
            | cons n p => simp only [reach, hq, ih]
        cases ev s f <;> simp only [e1, e2]
    | invoke x nme => simp only [fpOf, ha]
    | builtin b => simp only [fpOf, ha]
  | _ => first | rfl | (simp only [fpOf, gen])

theorem St.tm_eta (s : St D) (t : Nat → PV D) : (s.tm t).o = s.o ∧ (s.tm t).u = s.u ∧ (s.tm t).t = t := ⟨rfl, rfl, rfl⟩

theorem StepTo.tm {o : Oper} {s s0 : St D} {v : PV D} (h : StepTo cx orc keep N all rid o s v s0) {t : Nat → PV D} (ha : Agree all o s.t t) : StepTo cx orc keep N all rid o (s.tm t) v (s0.tm t) := by
  have he : ∀ x ∈ o.op.operands, ev (s.tm t) x = ev s x := agree_ev (s2 := s.tm t) ha
  refine ⟨⟨rfl, fun n hu hn => ?_⟩, fun hq => by rw [h.still hq], ?_⟩
  · rw [fpOf_congr (cx := cx) he (.inr rfl)] at hn
    exact h.fr.2 n hu hn
  · rw [agree_want (s2 := s.tm t) ha]
    rcases h.out with ⟨h1, h2⟩ | ⟨h1, h2, h3⟩
    · exact .inl ⟨h1, fun K => by rw [op1_tm t s o _ he K]; exact h2 _⟩
    · exact .inr ⟨h1, h2, by rw [h3]⟩

theorem StepTo.quietAt (r : R) {o : Oper} {s s0 s2 : St D} {v : PV D} (h : StepTo cx orc keep N all rid o s v s0) (hq : quiet cx o = true) (ha : Agree all o s.t s2.t) (hf : ∀ n ∈ fpOf keep o s, s2.o n = s.o n) : StepTo cx orc keep N all rid o s2 v s2 := by
  refine ⟨.refl _ _, fun _ => rfl, ?_⟩
  rw [agree_want ha]
  rcases h.out with ⟨h1, h2⟩ | ⟨h1, h2, h3⟩
  · refine .inl ⟨h1, ?_⟩
    have hc := fun K => quiet_congr (R := R) (orc := orc) (keep := keep) (s2 := s2) (s := s) o hq (nmOf rid o) (agree_ev ha) hf K
    rcases quiet_nat (R := R) (orc := orc) (keep := keep) o hq (nmOf rid o) s2 with hn | ⟨v', s', hs', hn⟩
    · exfalso
      have e1 := hc fun _ => some r
      rw [h2] at e1
      have e2 := hn fun _ _ => some r
      simp only at e2
      rw [e2] at e1
      simp at e1
    · have hv : v' = v := by
        classical
        have e1 := hc fun x => if x = v then some r else none
        rw [h2] at e1
        have e2 := hn fun x _ => if x = v then some r else none
        simp only at e2
        rw [e2] at e1
        by_cases hx : v' = v
        · exact hx
        · simp [hx] at e1
      subst hv
      rw [hs'] at hn
      exact hn
  · exact .inr ⟨h1, h2, rfl⟩

end Go.Am

/-! Neighbours change places. -/
namespace Go.Am
variable {D : Nat → Type} {R : Type} {cx : Cx D} {orc : Orc D R} {keep : FuncId → List Bool} {N n0 : Nat} {P : Program} {all : Array Oper} {rid : Nat}

theorem putD_t (s : St D) (d : Option Nat) (v : PV D) (i : Nat) (h : ∀ e, d = some e → i ≠ e) : (putD N s d v).t i = s.t i := by
  cases d with
  | none => rfl
  | some e =>
    simp only [putD]
    cases Nat.blt e N with
    | false => rfl
    | true => simp only [cond_true, St.put]; exact upd_ne _ _ _ _ (h e rfl)

theorem putD_tm (s : St D) (t : Nat → PV D) (d : Option Nat) (v : PV D) : putD N (s.tm t) d v = s.tm (putD N (⟨t, fun _ => none, fun _ => false⟩ : St D) d v).t := by
  cases d with
  | none => rfl
  | some e => simp only [putD]; cases Nat.blt e N <;> rfl

theorem putD_as_tm (s : St D) (d : Option Nat) (v : PV D) : putD N s d v = s.tm (putD N s d v).t := by
  cases d with
  | none => rfl
  | some e => simp only [putD]; cases Nat.blt e N <;> rfl

/-- Two results in two places, either first. -/
theorem putD_comm (s s0 : St D) (d e : Option Nat) (v u : PV D) (ht : s0.t = s.t) (h : ∀ x, d = some x → e ≠ some x) : putD N (s0.tm (putD N s d v).t) e u = putD N (putD N s0 e u) d v := by
  cases d with
  | none =>
    have : s0.tm s.t = s0 := by rw [← ht]; rfl
    simp only [putD, this]
  | some x =>
    cases e with
    | none =>
      simp only [putD]
      cases Nat.blt x N with
      | false => simp only [cond_false]; rw [← ht]; rfl
      | true => simp only [cond_true, St.put, St.tm, ht]
    | some y =>
      have hne : y ≠ x := fun hh => h x rfl (by rw [hh])
      simp only [putD]
      cases Nat.blt x N <;> cases Nat.blt y N <;> simp only [cond_true, cond_false, St.put, St.tm, ht]
      · rw [← ht]
      · congr 1
        funext i
        by_cases h1 : i = x
        · subst h1; rw [upd_ne _ _ _ _ (Ne.symm hne), upd_same, upd_same]
        · rw [upd_ne _ x i _ h1]
          by_cases h2 : i = y
          · subst h2; rw [upd_same, upd_same]
          · rw [upd_ne _ _ _ _ h2, upd_ne _ _ _ _ h2, upd_ne _ _ _ _ h1]

theorem disj_iff {l m : List Nat} : disj l m = true ↔ ∀ n ∈ l, n ∉ m := by
  simp [disj, memN_not]

theorem swap (r : R) {p o : Oper} {s s1 s2 : St D} {v u : PV D} {s0 s0' : St D} (hj : StepTo cx orc keep N all rid p s v s0) (h1 : s1 = putD N s0 p.dst v) (hi : StepTo cx orc keep N all rid o s1 u s0') (h2 : s2 = putD N s0' o.dst u)
    (hin : indep cx all p (fpOf keep p s) s.u o (fpOf keep o s1) s1.u = true) :
    ∃ t0 t0', StepTo cx orc keep N all rid o s u t0 ∧ StepTo cx orc keep N all rid p (putD N t0 o.dst u) v t0' ∧ s2 = putD N t0' p.dst v ∧ fpOf keep o s = fpOf keep o s1 ∧ fpOf keep p (putD N t0 o.dst u) = fpOf keep p s ∧ (quiet cx o = false → s.u = s1.u) ∧ (quiet cx p = false → (putD N t0 o.dst u).u = s.u) := by
  unfold indep at hin
  simp only [Bool.and_eq_true] at hin
  obtain ⟨hap, hcase⟩ := hin
  obtain ⟨a1, a2, a3⟩ := Oper.apart_spec hap
  -- what each looks at is the same on either side
  have agO : Agree all o s1.t s.t := fun d hd => by
    rw [h1, putD_t _ _ _ _ (fun e he hde => a1 e he (hde ▸ hd)), hj.fr.1]
  have agO' : Agree all o s.t s1.t := fun d hd => (agO d hd).symm
  have swapd : ∀ x, o.dst = some x → p.dst ≠ some x := fun x hx hp => a2 x hp hx
  cases hq : quiet cx p with
  | true =>
    -- the first leaves the objects alone
    have hs0 := hj.still hq
    subst hs0
    have hs : s1.tm s0.t = s0 := by rw [h1, putD_as_tm]; rfl
    have so : s1.o = s0.o := by rw [h1, putD_o]
    have su : s1.u = s0.u := by rw [h1, putD_u]
    have hi' := hi.tm (t := s0.t) agO
    rw [hs] at hi'
    have agP : Agree all p s0.t (putD N (s0'.tm s0.t) o.dst u).t := fun d hd => by
      rw [putD_t _ _ _ _ (fun e he hde => a3 e he (hde ▸ hd))]; rfl
    have hobj : ∀ n ∈ fpOf keep p s0, (putD N (s0'.tm s0.t) o.dst u).o n = s0.o n := by
      intro n hn
      rw [putD_o]
      show s0'.o n = s0.o n
      rw [hq, cond_true, Bool.or_eq_true] at hcase
      rcases hcase with hqo | hd
      · rw [hi.still hqo, so]
      · simp only [Bool.and_eq_true, disj_iff, List.all_eq_true] at hd
        rw [hi.fr.2 n (hd.2 n hn) (hd.1 n hn), so]
    have hp := hj.quietAt r hq agP hobj
    refine ⟨_, _, hi', hp, ?_, (fpOf_congr (cx := cx) (agree_ev agO) (.inr so.symm)), fpOf_congr (cx := cx) (agree_ev agP) (.inl hq), fun _ => su.symm, fun h => by simp at h⟩
    rw [h2]
    have ht : s0'.t = s1.t := hi.fr.1
    -- s0' has the first's result already
    cases hd1 : p.dst with
    | none =>
      have : s1.t = s0.t := by rw [h1, hd1]; rfl
      have : s0'.tm s0.t = s0' := by rw [← this, ← ht]; rfl
      rw [this]; rfl
    | some x =>
      cases hb : Nat.blt x N with
      | false =>
        have : s1.t = s0.t := by rw [h1, hd1]; simp [putD, hb]
        have e : s0'.tm s0.t = s0' := by rw [← this, ← ht]; rfl
        rw [e]; simp [putD, hb]
      | true =>
        have e1 : s1.t = upd s0.t x v := by rw [h1, hd1]; simp [putD, hb, St.put]
        cases hd2 : o.dst with
        | none => simp only [putD, hb, cond_true, St.put, St.tm]; rw [← e1, ← ht]
        | some y =>
          have hne : y ≠ x := fun hh => a2 x hd1 (by rw [hd2, hh])
          cases hb2 : Nat.blt y N with
          | false => simp only [putD, hb, hb2, cond_true, cond_false, St.put, St.tm]; rw [← e1, ← ht]
          | true =>
            simp only [putD, hb, hb2, cond_true, St.put, St.tm]
            congr 1
            rw [ht, e1]
            funext i
            by_cases h3 : i = x
            · subst h3; rw [upd_ne _ _ _ _ (Ne.symm hne), upd_same, upd_same]
            · rw [upd_ne _ x i _ h3]
              by_cases h4 : i = y
              · subst h4; rw [upd_same, upd_same]
              · rw [upd_ne _ _ _ _ h4, upd_ne _ _ _ _ h4, upd_ne _ _ _ _ h3]
  | false =>
    rw [hq, cond_false] at hcase
    simp only [Bool.and_eq_true, disj_iff, List.all_eq_true] at hcase
    obtain ⟨hqo, hd1, hd2⟩ := hcase
    have hs0' := hi.still hqo
    subst hs0'
    have e1 : fpOf keep o s = fpOf keep o s0' := fpOf_congr (cx := cx) (agree_ev agO) (.inl hqo)
    have hobj : ∀ n ∈ fpOf keep o s0', s.o n = s0'.o n := fun n hn => by
      rw [h1, putD_o]
      exact (hj.fr.2 n (hd2 n hn) fun hm => hd1 n hm hn).symm
    have hi' := hi.quietAt r hqo agO hobj
    have agP : Agree all p s.t (putD N s o.dst u).t := fun d hd => putD_t _ _ _ _ (fun e he hde => a3 e he (hde ▸ hd))
    have hp := hj.tm agP
    rw [← putD_as_tm] at hp
    refine ⟨_, _, hi', hp, ?_, e1, fpOf_congr (cx := cx) (agree_ev agP) (.inr (by rw [putD_o])), fun h => by simp [hqo] at h, fun _ => by rw [putD_u]⟩
    rw [h2, h1]
    exact (putD_comm s s0 o.dst p.dst u v hj.fr.1 swapd).symm

/-- A run, each footprint known. -/
inductive RunF (cx : Cx D) (orc : Orc D R) (keep : FuncId → List Bool) (N : Nat) (all : Array Oper) (rid : Nat) (fp : Nat → List Nat) (us : Nat → Nat → Bool) : List Nat → St D → St D → Prop where
  | nil {s} : RunF cx orc keep N all rid fp us [] s s
  | cons {k o l s v s0 s'} (ho : all[k]? = some o) (hs : StepTo cx orc keep N all rid o s v s0) (hf : fp k = fpOf keep o s) (hu : quiet cx o = false → us k = s.u) (hl : RunF cx orc keep N all rid fp us l (putD N s0 o.dst v) s') : RunF cx orc keep N all rid fp us (k :: l) s s'

def Ind (cx : Cx D) (all : Array Oper) (fp : Nat → List Nat) (us : Nat → Nat → Bool) (j i : Nat) : Prop :=
  ∀ p o, all[j]? = some p → all[i]? = some o → indep cx all p (fp j) (us j) o (fp i) (us i) = true

theorem indep_congr {p o : Oper} {f f' : List Nat} {u u' uo uo' : Nat → Bool} (h1 : quiet cx p = false → u = u') (h2 : quiet cx o = false → uo = uo') : indep cx all p f u o f' uo = indep cx all p f u' o f' uo' := by
  unfold indep
  cases hp : quiet cx p with
  | true =>
    cases ho : quiet cx o with
    | true => simp only [cond_true, Bool.true_or]
    | false => simp only [cond_true, h2 ho]
  | false =>
    rw [h1 hp]
    simp

theorem move_front (r : R) {fp : Nat → List Nat} {us : Nat → Nat → Bool} {i : Nat} {L2 : List Nat} : ∀ (L1 : List Nat) {s s' : St D}, RunF cx orc keep N all rid fp us (L1 ++ i :: L2) s s' → (∀ j ∈ L1, Ind cx all fp us j i) → RunF cx orc keep N all rid fp us (i :: (L1 ++ L2)) s s'
  | [], s, s', h, _ => h
  | j :: L1, s, s', h, hi => by
    cases h with
    | cons hp hsp hfp hup hl =>
      rename_i p v s0
      have ih := move_front r L1 hl fun j hj => hi j (by simp [hj])
      cases ih with
      | cons ho hso hfo huo hl2 =>
        rename_i o u s0'
        have hind := hi j (by simp) p o hp ho
        rw [hfp, hfo] at hind
        rw [indep_congr (u' := s.u) (uo' := (putD N s0 p.dst v).u) (fun h => hup h) (fun h => huo h)] at hind
        obtain ⟨t0, t0', k1, k2, k3, k4, k5, k6, k7⟩ := swap r hsp rfl hso rfl hind
        refine .cons ho k1 (hfo.trans k4.symm) (fun h => (huo h).trans (k6 h).symm) ?_
        refine .cons hp k2 (hfp.trans k5.symm) (fun h => (hup h).trans (k7 h).symm) ?_
        rw [← k3]
        exact hl2

/-- What comes before what, by the masks. -/
def Bef (ms : List Nat) (j i : Nat) : Prop := (ms.getD i 0).testBit j = true

theorem runF_congr {fp fp' : Nat → List Nat} {us us' : Nat → Nat → Bool} : ∀ {l : List Nat} {s s' : St D}, RunF cx orc keep N all rid fp us l s s' → (∀ k ∈ l, fp' k = fp k ∧ us' k = us k) → RunF cx orc keep N all rid fp' us' l s s'
  | _, _, _, .nil, _ => .nil
  | _, _, _, .cons ho hs hf hu hl, h => .cons ho hs ((h _ (by simp)).1.trans hf) (fun q => (h _ (by simp)).2.trans (hu q)) (runF_congr hl fun k hk => h k (by simp [hk]))

theorem goD_run (ok : CxOk cx P) (hor : ∀ f args os, Nat1 (orc f args os)) {ms : List Nat} : ∀ (l : List Oper) (k : Nat) (log : List (Nat × Oper × List Nat × (Nat → Bool))) {s : St D} {K : St D → Option R} {r : R}, (∀ j, l[j]? = all[k + j]?) → goD cx orc keep N all rid ms l k log s K = some r →
    ∃ fp us s', RunF cx orc keep N all rid fp us (List.range' k l.length) s s' ∧ K s' = some r ∧
      (∀ i, k ≤ i → i < k + l.length → ∀ o, all[i]? = some o → ∀ j p f u, (j, p, f, u) ∈ log → Bef ms j i ∨ indep cx all p f u o (fp i) (us i) = true) ∧
      (∀ i j, k ≤ j → j < i → i < k + l.length → Bef ms j i ∨ Ind cx all fp us j i)
  | [], k, log, s, K, r, hl, h => ⟨fun _ => [], fun _ => s.u, s, .nil, h, fun i h1 h2 => by simp at h2; omega, fun i j h1 h2 h3 => by simp at h3; omega⟩
  | o :: l, k, log, s, K, r, hl, h => by
    have h0 : all[k]? = some o := by simpa using (hl 0).symm
    unfold goD at h
    obtain ⟨hc, h⟩ := chk_some h
    obtain ⟨v, s0, hst, hk⟩ := stepTo_of ok hor h
    obtain ⟨fp, us, s', r1, r2, r3, r4⟩ := goD_run ok hor l (k + 1) _ (fun j => by have := hl (j + 1); simpa [Nat.add_assoc, Nat.add_comm 1 j] using this) hk
    refine ⟨fun i => if i = k then fpOf keep o s else fp i, fun i => if i = k then s.u else us i, s', ?_, r2, ?_, ?_⟩
    · rw [List.length_cons, List.range'_succ]
      refine .cons h0 hst (by simp) (fun _ => by simp) (runF_congr r1 fun i hi => ?_)
      have : k + 1 ≤ i := (List.mem_range'_1.1 hi).1
      rw [if_neg (by omega), if_neg (by omega)]
      exact ⟨rfl, rfl⟩
    · intro i h1 h2 o' ho' j p f u hm
      by_cases hik : i = k
      · subst hik
        rw [h0] at ho'; simp at ho'; subst ho'
        simp only [List.all_eq_true] at hc
        have := hc _ hm
        simp only [Bool.or_eq_true] at this
        simp only [if_true]
        exact this
      · simp only [if_neg hik]
        exact r3 i (by omega) (by simp at h2; omega) o' ho' j p f u (by simp [hm])
    · intro i j h1 h2 h3
      by_cases hjk : j = k
      · subst hjk
        cases ho' : all[i]? with
        | none => right; intro p o2 _ h5; rw [ho'] at h5; simp at h5
        | some o' =>
          rcases r3 i (by omega) (by simp at h3; omega) o' ho' j o (fpOf keep o s) s.u (by simp) with h5 | h5
          · exact .inl h5
          · right
            intro p o2 hp ho2
            rw [h0] at hp; simp at hp; subst hp
            rw [ho'] at ho2; simp at ho2; subst ho2
            simp only [if_true, if_neg (show ¬ i = j by omega)]
            exact h5
      · rcases r4 i j (by omega) h2 (by simp at h3; omega) with h5 | h5
        · exact .inl h5
        · right
          intro p o2 hp ho2
          simp only [if_neg hjk, if_neg (show ¬ i = k by omega)]
          exact h5 p o2 hp ho2

/-! ### The masks -/
theorem testBit_one (e j : Nat) : (1 <<< e).testBit j = true ↔ e = j := by
  rw [Nat.one_shiftLeft, Nat.testBit_two_pow]; simp

theorem maskOf_spec {ms : List Nat} {es : List Edge} {j : Nat} (h : (maskOf ms es).testBit j = true) : ∃ e ∈ es, Region.binds .any e = true ∧ (e.on = j ∨ (ms.getD e.on 0).testBit j = true) := by
  have key : ∀ (es : List Edge) (acc : Nat), (es.foldl (fun acc e => bif Region.binds .any e then acc ||| (1 <<< e.on) ||| ms.getD e.on 0 else acc) acc).testBit j = true → acc.testBit j = true ∨ ∃ e ∈ es, Region.binds .any e = true ∧ (e.on = j ∨ (ms.getD e.on 0).testBit j = true) := by
    intro es
    induction es with
    | nil => intro acc h; exact .inl h
    | cons e es ih =>
      intro acc h
      simp only [List.foldl_cons] at h
      rcases ih _ h with h1 | ⟨e', h1, h2⟩
      · cases hb : Region.binds .any e with
        | false => simp only [hb, cond_false] at h1; exact .inl h1
        | true =>
          simp only [hb, cond_true, Nat.testBit_or, Bool.or_eq_true, testBit_one] at h1
          rcases h1 with (h1 | h1) | h1
          · exact .inl h1
          · exact .inr ⟨e, by simp, hb, .inl h1⟩
          · exact .inr ⟨e, by simp, hb, .inr h1⟩
      · exact .inr ⟨e', by simp [h1], h2⟩
  rcases key es 0 h with h | h
  · simp at h
  · exact h

theorem masks_keep : ∀ (l : List Oper) (ms : List Nat) (i : Nat), i < ms.length → (masks l ms).getD i 0 = ms.getD i 0
  | [], ms, i, h => rfl
  | o :: l, ms, i, h => by
    simp only [masks]
    rw [masks_keep l _ i (by simp; omega)]
    rw [List.getD_eq_getElem?_getD, List.getD_eq_getElem?_getD, List.getElem?_append_left h]

theorem maskOf_congr {ms ms' : List Nat} {es : List Edge} (h : ∀ e ∈ es, Region.binds .any e = true → ms'.getD e.on 0 = ms.getD e.on 0) : maskOf ms' es = maskOf ms es := by
  unfold maskOf
  have key : ∀ (es : List Edge) (acc : Nat), (∀ e ∈ es, Region.binds .any e = true → ms'.getD e.on 0 = ms.getD e.on 0) → es.foldl (fun acc e => bif Region.binds .any e then acc ||| (1 <<< e.on) ||| ms'.getD e.on 0 else acc) acc = es.foldl (fun acc e => bif Region.binds .any e then acc ||| (1 <<< e.on) ||| ms.getD e.on 0 else acc) acc := by
    intro es
    induction es with
    | nil => intro acc _; rfl
    | cons e es ih =>
      intro acc h
      simp only [List.foldl_cons]
      cases hb : Region.binds .any e with
      | false => exact ih _ fun e he => h e (by simp [he])
      | true => simp only [cond_true]; rw [h e (by simp) hb]; exact ih _ fun e he => h e (by simp [he])
  exact key es 0 h

theorem masks_at : ∀ (l : List Oper) (ms : List Nat) (i : Nat) (o : Oper), backw l ms.length = true → l[i]? = some o → (masks l ms).getD (ms.length + i) 0 = maskOf (masks l ms) o.after.toList
  | [], ms, i, o, _, h => by simp at h
  | o' :: l, ms, i, o, hb, h => by
    simp only [backw, Bool.and_eq_true, List.all_eq_true, Bool.or_eq_true, Bool.not_eq_true', Nat.blt_eq] at hb
    obtain ⟨hb1, hb2⟩ := hb
    simp only [masks]
    cases i with
    | zero =>
      simp at h; subst h
      rw [Nat.add_zero, masks_keep _ _ _ (by simp)]
      rw [List.getD_eq_getElem?_getD, List.getElem?_append_right (Nat.le_refl _)]
      simp only [Nat.sub_self, List.getElem?_cons_zero, Option.getD_some]
      symm
      refine maskOf_congr fun e he hbd => ?_
      have hlt : e.on < ms.length := by
        rcases hb1 e he with h | h
        · rw [hbd] at h; simp at h
        · exact h
      rw [masks_keep _ _ _ (by simp; omega), List.getD_eq_getElem?_getD, List.getD_eq_getElem?_getD, List.getElem?_append_left hlt]
    | succ i =>
      have := masks_at l (ms ++ [maskOf ms o'.after.toList]) i o (by simpa using hb2) (by simpa using h)
      rw [← this]
      congr 1
      simp; omega

theorem backw_lt : ∀ (l : List Oper) (k i : Nat) (o : Oper), backw l k = true → l[i]? = some o → ∀ e ∈ o.after, Region.binds .any e = true → e.on < k + i
  | [], k, i, o, _, h => by simp at h
  | o' :: l, k, i, o, hb, h => by
    simp only [backw, Bool.and_eq_true, List.all_eq_true, Bool.or_eq_true, Bool.not_eq_true', Nat.blt_eq] at hb
    obtain ⟨hb1, hb2⟩ := hb
    cases i with
    | zero =>
      simp at h; subst h
      intro e he hbd
      rcases hb1 e (by simpa using he) with h | h
      · rw [hbd] at h; simp at h
      · omega
    | succ i =>
      intro e he hbd
      have := backw_lt l (k + 1) i o hb2 (by simpa using h) e he hbd
      omega

end Go.Am

/-! Code. -/
namespace Go.Am
variable {D : Nat → Type} {R : Type} {cx : Cx D} {orc : Orc D R} {lrc : Lrc D R} {ann : Nat → Option LAnn} {keep : FuncId → List Bool} {N n0 : Nat} {s : St D} {β β' : Beta} {F F' : Nat → Prop} {a : Act} {w w' : World} {P : Program} {Q : Exit → Act → World → Prop}

/-- A state, as it stands in a frame and a world. -/
def At (cx : Cx D) (N n0 : Nat) (O0 : Nat → Option (Obj D)) (β0 : Beta) (F0 : Nat → Prop) (w0 : World) (s : St D) (a : Act) (w : World) : Prop :=
  a.defers = [] ∧ ∃ β F, SRep cx N s β F a w ∧ Step O0 (below n0) β0 F0 w0 s.o s.u β F w

theorem Step.trans' {O O' O'' : Nat → Option (Obj D)} {U u' u'' : Nat → Bool} {β β' β'' : Beta} {F F' F'' : Nat → Prop} {w w' w'' : World} (h : Step O U β F w O' u' β' F' w') (k : Step O' U β' F' w' O'' u'' β'' F'' w'') : Step O U β F w O'' u'' β'' F'' w'' := by
  have h' : Step O U β F w O' U β' F' w' := ⟨fun _ h => h, h.beta, h.kept, h.wr, h.f0, h.f1, h.sh⟩
  exact h'.trans k

theorem Act.put_defers' (a : Act) (d : Option Tmp) (v : Value) : (a.put d v).defers = a.defers := by
  cases d <;> rfl

section
variable {O0 : Nat → Option (Obj D)} {β0 : Beta} {F0 : Nat → Prop} {w0 : World}

theorem step_put {β : Beta} {F : Nat → Prop} {O1 : Nat → Option (Obj D)} {u1 : Nat → Bool} {β1 : Beta} {F1 : Nat → Prop} {w1 : World} (d : Option Nat) (p : PV D) (h : Step O1 u1 β1 F1 w1 s.o s.u β F w) : Step O1 u1 β1 F1 w1 (putD N s d p).o (putD N s d p).u β F w := by
  rw [putD_o, putD_u]; exact h

/-- An operation's outcome, in its place. -/
theorem At.put (h : At cx N n0 O0 β0 F0 w0 s a w) {d : Option Nat} {K : PV D → St D → Option R} {r : R} {v : Value} {w' : World}
    (hr : ∀ β F, SRep cx N s β F a w → Step O0 (below n0) β0 F0 w0 s.o s.u β F w → Res cx N s β F a w (fun p s' => K p s' = some r) v w') : ∃ p s', K p s' = some r ∧ At cx N n0 O0 β0 F0 w0 (putD N s' d p) (a.put d v) w' := by
  obtain ⟨hd, β, F, hs, hst⟩ := h
  obtain ⟨s', β', F', p, h1, h2, h3, h4, h5⟩ := hr β F hs hst
  exact ⟨p, s', h5, by rw [Act.put_defers']; exact hd, β', F', h1.put d h2 h3, step_put d p (hst.trans h4)⟩

theorem yielded_rep (hs : SRep cx N s β F a w) {all : Array Oper} {j g : Nat} (hg : (all[j]?).bind (·.dst) = some g) : (∀ b, s.t g = .bool b → yielded all a.tmps j = some b) ∧ (s.t g = .skip → yielded all a.tmps j = none) := by
  have h := hs.tm g
  constructor
  · intro b hb
    rw [hb] at h
    have h : a.tmps.getD g undef = .bool b := h
    unfold yielded
    rw [hg]
    simp only [Option.bind_some]
    rw [Array.getD_eq_getD_getElem?] at h
    cases hx : a.tmps[g]? with
    | none => rw [hx] at h; simp [undef] at h
    | some v => rw [hx] at h; simp at h; subst h; rfl
  · intro hb
    rw [hb] at h
    have h : a.tmps.getD g undef = undef := h
    unfold yielded
    rw [hg]
    simp only [Option.bind_some]
    rw [Array.getD_eq_getD_getElem?] at h
    cases hx : a.tmps[g]? with
    | none => rfl
    | some v => rw [hx] at h; simp at h; subst h; rfl

theorem runOps_cons (all : Array Oper) (rid : Nat) (o : Oper) (l : List Oper) (s : St D) (K : St D → Option R) : runOps cx orc keep N all rid (o :: l) s K = stepOp cx orc keep N all rid o s fun s' => runOps cx orc keep N all rid l s' K := rfl

theorem stepOp_sound (ok : CxOk cx P) (horc : OrcSound P cx orc) {all : Array Oper} {rid k : Nat} {o : Oper} (hk : all[k]? = some o) (h : At cx N n0 O0 β0 F0 w0 s a w) {K : St D → Option R} {r : R} (he : stepOp cx orc keep N all rid o s K = some r)
    {next : Act → World → Prop} (hK : ∀ s' a' w', K s' = some r → At cx N n0 O0 β0 F0 w0 s' a' w' → next a' w') : wpOp P all Q k next a w := by
  obtain ⟨hd, β, F, hs, hst⟩ := h
  have go : op1 cx orc keep o (nmOf rid o) s (fun v s' => K (putD N s' o.dst v)) = some r → o.wp P a w next Q := by
    intro hop
    refine op1_sound ok hs (fun g args vals hc hr hn => call_out ok horc hs hc hr) hop next Q ?_
    rintro v w' ⟨s', β', F', p, h1, h2, h3, h4, h5⟩
    exact hK _ _ _ h5 ⟨by rw [Act.put_defers']; exact hd, β', F', h1.put o.dst h2 h3, step_put o.dst p (hst.trans h4)⟩
  have no : K (putD N s o.dst .skip) = some r → next (a.put o.dst undef) w := by
    intro hk
    exact hK _ _ _ hk ⟨by rw [Act.put_defers']; exact hd, β, F, hs.put o.dst (p := .skip) rfl (by simp [names]), step_put o.dst .skip hst⟩
  unfold wpOp
  simp only [hk]
  unfold stepOp at he
  cases hg : o.guard with
  | none =>
    simp only [hg] at he
    rw [if_pos (by simp [Region.wanted, hg])]
    exact .inl (go he)
  | some jw =>
    obtain ⟨j, want⟩ := jw
    simp only [hg] at he
    cases hb : (all[j]?).bind (·.dst) with
    | none =>
      simp only [hb] at he
      rw [if_neg (by simp [Region.wanted, hg, yielded, hb])]
      exact no he
    | some g =>
      simp only [hb] at he
      obtain ⟨y1, y2⟩ := yielded_rep hs hb
      cases ht : s.t g <;> simp only [ht] at he <;> try (simp at he; done)
      case skip =>
        rw [if_neg (by simp [Region.wanted, hg, y2 ht])]
        exact no he
      case bool b =>
        have hy := y1 b ht
        cases b <;> cases want <;> simp only [cond_true, cond_false] at he
        · rw [if_pos (by simp [Region.wanted, hg, hy])]
          rw [putD_same ht] at he
          exact .inl (go he)
        · rw [if_neg (by simp [Region.wanted, hg, hy])]
          rw [putD_same ht] at he
          exact no he
        · rw [if_neg (by simp [Region.wanted, hg, hy])]
          rw [putD_same ht] at he
          exact no he
        · rw [if_pos (by simp [Region.wanted, hg, hy])]
          rw [putD_same ht] at he
          exact .inl (go he)

theorem runOps_sound (ok : CxOk cx P) (horc : OrcSound P cx orc) {all : Array Oper} {rid : Nat} : ∀ (l : List Oper) (k : Nat) {s : St D} {a : Act} {w : World} {K : St D → Option R} {r : R}, (∀ j, l[j]? = all[k + j]?) → At cx N n0 O0 β0 F0 w0 s a w →
    runOps cx orc keep N all rid l s K = some r → (∀ s' a' w', K s' = some r → At cx N n0 O0 β0 F0 w0 s' a' w' → Q .normal a' w') → wpOps P all Q (List.range' k l.length) a w
  | [], k, s, a, w, K, r, hl, h, he, hK => hK s a w he h
  | o :: l, k, s, a, w, K, r, hl, h, he, hK => by
    have h0 : all[k]? = some o := by simpa using (hl 0).symm
    rw [List.length_cons, List.range'_succ, wpOps_cons]
    rw [runOps_cons] at he
    exact stepOp_sound ok horc h0 h he fun s' a' w' hk hat => runOps_sound ok horc l (k + 1) (fun j => by have := hl (j + 1); simpa [Nat.add_assoc, Nat.add_comm 1 j] using this) hat hk hK

/-! ### Any order -/
def rem (all : Array Oper) (listed : Array Bool) : List Nat := (List.range all.size).filter fun k => !listed.getD k true

def Closed (all : Array Oper) (listed : Array Bool) : Prop := ∀ i, listed.getD i false = true → ∀ o, all[i]? = some o → ∀ e ∈ o.after, Region.binds .any e = true → listed.getD e.on false = true

theorem mem_rem {all : Array Oper} {listed : Array Bool} {k : Nat} : k ∈ rem all listed ↔ k < all.size ∧ listed.getD k true = false := by
  simp [rem]

theorem listed_of {listed : Array Bool} {k : Nat} (hk : k < listed.size) : listed.getD k true = listed.getD k false := by simp [hk]

theorem rem_set {all : Array Oper} {listed : Array Bool} {i : Nat} {L1 L2 : List Nat} (h : rem all listed = L1 ++ i :: L2) : rem all (listed.setIfInBounds i true) = L1 ++ L2 := by
  have hi : i ∈ rem all listed := by rw [h]; simp
  obtain ⟨hi1, hi2⟩ := mem_rem.1 hi
  have hil : i < listed.size := by
    rcases Nat.lt_or_ge i listed.size with h | h
    · exact h
    · simp [Array.getElem?_eq_none h] at hi2
  have h1 : rem all (listed.setIfInBounds i true) = (rem all listed).filter fun k => !(k == i) := by
    unfold rem
    rw [List.filter_filter]
    refine List.filter_congr fun k hk => ?_
    by_cases hki : i = k
    · subst hki; simp [hil]
    · rw [getD_set_ne true hki]
      have : (k == i) = false := by simp; exact fun h => hki h.symm
      simp [this]
  have hnd : (rem all listed).Nodup := List.Pairwise.filter _ List.nodup_range
  rw [h] at hnd
  rw [h1, h, List.filter_append, List.filter_cons]
  rw [List.nodup_append] at hnd
  obtain ⟨_, hn2, hn3⟩ := hnd
  have e1 : L1.filter (fun k => !(k == i)) = L1 := List.filter_eq_self.2 fun k hk => by
    have := hn3 k hk i (by simp)
    simpa using this
  have e2 : L2.filter (fun k => !(k == i)) = L2 := List.filter_eq_self.2 fun k hk => by
    have := (List.nodup_cons.1 hn2).1
    have : k ≠ i := fun h => this (h ▸ hk)
    simpa using this
  simp [e1, e2]

theorem bef_listed {all : Array Oper} {listed : Array Bool} (hcl : Closed all listed) (hb : backw all.toList 0 = true) : ∀ (i : Nat) (o : Oper), all[i]? = some o → (∀ e ∈ o.after, Region.binds .any e = true → listed.getD e.on false = true) → ∀ j, Bef (masks all.toList []) j i → listed.getD j false = true := by
  intro i
  induction i using Nat.strongRecOn with
  | _ i ih =>
    intro o ho hr j hj
    unfold Bef at hj
    have hm := masks_at all.toList [] i o (by simpa using hb) (by simpa using ho)
    simp only [List.length_nil, Nat.zero_add] at hm
    rw [hm] at hj
    obtain ⟨e, he, hbd, h1 | h1⟩ := maskOf_spec hj
    · rw [← h1]; exact hr e (by simpa using he) hbd
    · have hlt := backw_lt all.toList 0 i o hb (by simpa using ho) e (by simpa using he) hbd
      have hel := hr e (by simpa using he) hbd
      have hs : e.on < all.size := by
        have := (Array.getElem?_eq_some_iff.1 ho).1
        omega
      have ho2 : all[e.on]? = some all[e.on] := Array.getElem?_eq_getElem hs
      exact ih e.on (by omega) _ ho2 (hcl e.on hel _ ho2) j h1

theorem wpAny_drawn (ok : CxOk cx P) (horc : OrcSound P cx orc) {all : Array Oper} {rid : Nat} {fp : Nat → List Nat} {us : Nat → Nat → Bool} {s' : St D} {r : R} (hb : backw all.toList 0 = true) (hpair : ∀ i j, j < i → i < all.size → Bef (masks all.toList []) j i ∨ Ind cx all fp us j i)
    (hK : ∀ a' w', At cx N n0 O0 β0 F0 w0 s' a' w' → Q .normal a' w') : ∀ (fuel : Nat) (listed : Array Bool) {s : St D} {a : Act} {w : World}, listed.size = all.size → Closed all listed → fuel = (rem all listed).length → At cx N n0 O0 β0 F0 w0 s a w →
    RunF cx orc keep N all rid fp us (rem all listed) s s' → wpAny P .any all Q fuel listed a w := by
  have inrem : ∀ {listed : Array Bool} {i : Nat}, listed.size = all.size → i ∈ Region.ready .any all listed → i ∈ rem all listed := by
    intro listed i hsz hi
    obtain ⟨h1, o, ho, _⟩ := mem_ready.1 hi
    exact mem_rem.2 ⟨(Array.getElem?_eq_some_iff.1 ho).1, h1⟩
  intro fuel
  induction fuel with
  | zero =>
    intro listed s a w hsz hcl hfl hat hrun
    have h0 : rem all listed = [] := List.eq_nil_of_length_eq_zero hfl.symm
    rw [h0] at hrun
    cases hrun
    refine ⟨?_, hK a w hat⟩
    cases hr : Region.ready .any all listed with
    | nil => rfl
    | cons i l =>
      have := inrem hsz (i := i) (by rw [hr]; simp)
      rw [h0] at this; simp at this
  | succ fuel ih =>
    intro listed s a w hsz hcl hfl hat hrun
    have sorted : (rem all listed).Pairwise (· < ·) := List.Pairwise.filter _ List.pairwise_lt_range
    refine ⟨fun hr => ?_, fun i hi => ?_⟩
    · exfalso
      cases hrem : rem all listed with
      | nil => rw [hrem] at hfl; simp at hfl
      | cons k l =>
        have hk : k ∈ rem all listed := by rw [hrem]; simp
        obtain ⟨k1, k2⟩ := mem_rem.1 hk
        have hko : all[k]? = some all[k] := Array.getElem?_eq_getElem k1
        have : k ∈ Region.ready .any all listed := by
          rw [mem_ready]
          refine ⟨k2, _, hko, fun e he hbd => ?_⟩
          have hlt := backw_lt all.toList 0 k _ hb (by simp) e he hbd
          cases hel : listed.getD e.on false with
          | true => rfl
          | false =>
            exfalso
            have hm : e.on ∈ rem all listed := mem_rem.2 ⟨by omega, by rw [listed_of (by omega)]; exact hel⟩
            rw [hrem] at hm sorted
            rcases List.mem_cons.1 hm with hm | hm
            · omega
            · have := List.rel_of_pairwise_cons sorted hm; omega
        rw [hr] at this; simp at this
    · have hir := inrem hsz hi
      obtain ⟨L1, L2, hL⟩ := List.append_of_mem hir
      obtain ⟨hil, o0, ho0, hedges⟩ := mem_ready.1 hi
      rw [hL] at hrun sorted
      have hi1 := (mem_rem.1 hir).1
      have hlt : ∀ j ∈ L1, j < i := fun j hj => (List.pairwise_append.1 sorted).2.2 j hj i (by simp)
      have hmv := move_front r L1 hrun fun j hj => by
        rcases hpair i j (hlt j hj) hi1 with h | h
        · exfalso
          have hl := bef_listed hcl hb i o0 ho0 hedges j h
          have hjr : j ∈ rem all listed := by rw [hL]; simp [hj]
          obtain ⟨j1, j2⟩ := mem_rem.1 hjr
          rw [listed_of (by omega), hl] at j2
          simp at j2
        · exact h
      cases hmv with
      | cons ho hst hf hu hl =>
        rename_i o v s0
        classical
        have hrs := rem_set hL
        refine stepOp_sound (r := r) (K := fun x => if x = putD N s0 o.dst v then some r else none) ok horc ho hat (by rw [hst.run]; simp) fun s1 a1 w1 hk hat1 => ?_
        have hs1 : s1 = putD N s0 o.dst v := by
          by_cases h : s1 = putD N s0 o.dst v
          · exact h
          · simp [h] at hk
        subst hs1
        refine ih _ (by simpa using hsz) (fun j hj o' ho' e he hbd => ?_) ?_ hat1 (by rw [hrs]; exact hl)
        · by_cases hji : i = j
          · subst hji
            rw [ho0] at ho'; simp at ho'; subst ho'
            exact getD_set_true (hedges e he hbd)
          · rw [getD_set_ne false hji] at hj
            exact getD_set_true (hcl j hj o' ho' e he hbd)
        · rw [hrs]
          rw [hL] at hfl
          simp at hfl ⊢
          omega

theorem SRep.drawnW (h : SRep cx N s β F a w) : SRep cx N s β F a { w with drawn := w.drawn + 1 } := h.world (fun _ _ => rfl) (fun _ _ _ => rfl) (Nat.le_refl _)

theorem drawn_sound (ok : CxOk cx P) (horc : OrcSound P cx orc) (hor : ∀ f args os, Nat1 (orc f args os)) (hmix : P.follows .mixedOrders = true) {id : Nat} {ops : Array Oper} {K : St D → Option R} {r : R} (h : At cx N n0 O0 β0 F0 w0 s a w)
    (he : runD cx orc keep N ops id ops.toList s K = some r) (hK : ∀ s' a' w', K s' = some r → At cx N n0 O0 β0 F0 w0 s' a' w' → Q .normal a' w') : (Code.region id ops true).wp P Q a w := by
  unfold runD at he
  obtain ⟨hc, he⟩ := chk_some he
  simp only [Bool.and_eq_true] at hc
  obtain ⟨fp, us, s', r1, r2, r3, r4⟩ := goD_run ok hor ops.toList 0 [] (fun j => by simp) he
  refine wp_region_any hmix ?_
  have hrem : rem ops (Array.replicate ops.size false) = List.range ops.size := by
    unfold rem
    refine List.filter_eq_self.2 fun k hk => ?_
    have := List.mem_range.1 hk
    simp [this]
  have hat : At cx N n0 O0 β0 F0 w0 s a { w with drawn := w.drawn + 1 } := by
    obtain ⟨hd, β, F, hs, hst⟩ := h
    exact ⟨hd, β, F, hs.drawnW, hst.used, hst.beta, ⟨hst.kept.os, hst.kept.tape, hst.kept.output, hst.kept.size, hst.kept.block⟩, hst.wr, hst.f0, hst.f1, hst.sh⟩
  refine wpAny_drawn (r := r) ok horc hc.2 (fun i j h1 h2 => r4 i j (Nat.zero_le _) h1 (by simpa using h2)) (fun a' w' hat' => hK s' a' w' r2 hat') _ _ (by simp) (fun i hi => by
    exfalso
    rw [Array.getD_eq_getD_getElem?, Array.getElem?_replicate] at hi
    split at hi <;> simp at hi) (by rw [hrem]; simp) hat (by rw [hrem, List.range_eq_range']; simpa using r1)

end

end Go.Am

/-! Code, loops. -/
namespace Go.Am
variable {D : Nat → Type} {R : Type} {cx : Cx D} {orc : Orc D R} {lrc : Lrc D R} {ann : Nat → Option LAnn} {keep : FuncId → List Bool} {N n0 : Nat} {s : St D} {β β' : Beta} {F F' : Nat → Prop} {a : Act} {w w' : World} {P : Program} {Q : Exit → Act → World → Prop}
  {O0 : Nat → Option (Obj D)} {β0 : Beta} {F0 : Nat → Prop} {w0 : World}

def LoopW (P : Program) (b : Code) (Q : Exit → Act → World → Prop) : Nat → Act → World → Prop
  | 0, _, _ => False
  | n + 1, a, w => b.wp P (Exit.then (LoopW P b Q n) Q) a w

theorem exists_least {p : Nat → Prop} (h : ∃ n, p n) : ∃ n, p n ∧ ∀ m, p m → n ≤ m := by
  obtain ⟨n, hn⟩ := h
  induction n using Nat.strongRecOn with
  | _ n ih =>
    by_cases hm : ∃ m, m < n ∧ p m
    · obtain ⟨m, h1, h2⟩ := hm; exact ih m h1 h2
    · exact ⟨n, hn, fun m hp => by
        rcases Nat.lt_or_ge m n with h | h
        · exact absurd ⟨m, h, hp⟩ hm
        · exact h⟩

open Classical in
noncomputable def least (p : Nat → Prop) : Nat := if h : ∃ n, p n then Classical.choose (exists_least h) else 0

theorem least_spec {p : Nat → Prop} (h : ∃ n, p n) : p (least p) ∧ ∀ m, p m → least p ≤ m := by
  unfold least
  rw [dif_pos h]
  exact Classical.choose_spec (exists_least h)

theorem loopW_sound {b : Code} {n : Nat} (h : LoopW P b Q n a w) : (Code.loop b).wp P Q a w := by
  refine wp_loop (fun a w => ∃ n, LoopW P b Q n a w) (fun a w => least fun n => LoopW P b Q n a w) ⟨n, h⟩ ?_
  intro a w hI
  obtain ⟨h1, h2⟩ := least_spec hI
  revert h1 h2
  generalize (least fun n => LoopW P b Q n a w) = k
  intro h1 h2
  cases k with
  | zero => exact h1.elim
  | succ k =>
    refine wp_mono h1 ?_
    intro e a' w' hq
    cases e <;> try exact hq
    have hq : LoopW P b Q k a' w' := hq
    exact ⟨⟨k, hq⟩, Nat.lt_succ_of_le ((least_spec ⟨k, hq⟩).2 k hq)⟩

def exq : Ex → Exit
  | .normal => .normal
  | .exit i => .exit i
  | .ret => .ret

theorem mem_assoc {α : Type} {d : α} : ∀ (ns : List Nat) (vs : List α) (i : Nat), assoc d ns vs i = d ∨ ∃ j : Nat, ns[j]? = some i ∧ vs[j]? = some (assoc d ns vs i)
  | [], _, _ => .inl rfl
  | _ :: _, [], _ => .inl rfl
  | n :: ns, v :: vs, i => by
    simp only [assoc]
    cases h : Nat.beq i n with
    | true =>
      have := Nat.eq_of_beq_eq_true h
      subst this
      exact .inr ⟨0, by simp, by simp⟩
    | false =>
      rcases mem_assoc ns vs i with h1 | ⟨j, h1, h2⟩
      · exact .inl (by simpa using h1)
      · exact .inr ⟨j + 1, by simpa using h1, by simpa using h2⟩

theorem assoc_map {α : Type} {d : α} (f : Nat → α) (ns : List Nat) (i : Nat) : assoc d ns (ns.map f) i = d ∨ (i ∈ ns ∧ assoc d ns (ns.map f) i = f i) := by
  rcases mem_assoc (d := d) ns (ns.map f) i with h | ⟨j, h1, h2⟩
  · exact .inl h
  · right
    refine ⟨List.mem_of_getElem? h1, ?_⟩
    rw [List.getElem?_map, h1] at h2
    simpa using h2.symm

/-- What is left behind at a cut. -/
theorem weak_sound (hs : SRep cx N s β F a w) (hst : Step O0 (below n0) β0 F0 w0 s.o s.u β F w) (c : Cut) :
    SRep cx N (mkSt n0 c (c.ts.map s.t) (c.os.map s.o)) β F a w ∧ Step O0 (below n0) β0 F0 w0 (mkSt n0 c (c.ts.map s.t) (c.os.map s.o)).o (mkSt n0 c (c.ts.map s.t) (c.os.map s.o)).u β F w := by
  have ho : ∀ n, (mkSt n0 c (c.ts.map s.t) (c.os.map s.o)).o n = none ∨ (n ∈ c.os ∧ (mkSt n0 c (c.ts.map s.t) (c.os.map s.o)).o n = s.o n) := fun n => assoc_map _ _ _
  have ht : ∀ n, (mkSt n0 c (c.ts.map s.t) (c.os.map s.o)).t n = .undef ∨ (n ∈ c.ts ∧ (mkSt n0 c (c.ts.map s.t) (c.os.map s.o)).t n = s.t n) := fun n => assoc_map _ _ _
  have hu : ∀ n, n ∈ c.os ∨ n ∈ names.go (c.ts.map s.t) ∨ n ∈ (c.os.map s.o).flatMap namesO → (mkSt n0 c (c.ts.map s.t) (c.os.map s.o)).u n = true := fun n hn => by
    simp only [mkSt, Bool.or_eq_true, memN_iff, List.mem_append]
    exact .inr hn
  have hsh : ∀ n, (shO cx ((mkSt n0 c (c.ts.map s.t) (c.os.map s.o)).o n) = shO cx (s.o n) ∧ β n = β n) ∨ shO cx ((mkSt n0 c (c.ts.map s.t) (c.os.map s.o)).o n) = none := fun n => by
    rcases ho n with h | ⟨_, h⟩
    · right; rw [h]; rfl
    · left; rw [h]; exact ⟨rfl, rfl⟩
  have hwr : ∀ n b, Wr (mkSt n0 c (c.ts.map s.t) (c.os.map s.o)).o β n b → Wr s.o β n b := fun n b hw => by
    rcases ho n with h | ⟨_, h⟩
    · obtain ⟨_, h2⟩ := hw; simp [h] at h2
    · obtain ⟨h1, h2⟩ := hw; rw [h] at h2; exact ⟨h1, h2⟩
  refine ⟨⟨hs.tn, fun i => ?_, .of_orep (fun n ob hn => ?_) (fun n m b h1 h2 => hs.hp.apart n m b (hwr n b h1) (hwr m b h2)) (fun n b h1 => hs.hp.away n b (hwr n b h1)) hs.hp.fin hs.hp.gl, fun i n hn => ?_, fun m n hn => ?_, fun m hm => ?_⟩,
    ⟨fun n hn => by simp only [mkSt, Bool.or_eq_true]; left; exact hn, hst.beta, hst.kept, fun n b h => hst.wr n b (hwr n b h), hst.f0, hst.f1, fun n hn => ?_⟩⟩
  · rcases ht i with h | ⟨_, h⟩
    · rw [h]; trivial
    · rw [h]; exact PRep.mono (fun _ h => h) (fun _ _ => rfl) _ _ (fun n _ => hsh n) (hs.tm i)
  · rcases ho n with h | ⟨_, h⟩
    · rw [hn] at h; simp at h
    · rw [hn] at h
      exact (hs.hp.obj h.symm).mono (fun _ h => h) (fun _ _ => rfl) (fun _ _ _ => rfl) (fun m _ => hsh m)
  · rcases ht i with h | ⟨h1, h⟩
    · rw [h] at hn; simp [names] at hn
    · rw [h] at hn; exact hu n (.inr (.inl (mem_names_go.2 ⟨_, List.mem_map_of_mem h1, hn⟩)))
  · rcases ho m with h | ⟨h1, h⟩
    · rw [h] at hn; simp [namesO] at hn
    · rw [h] at hn; exact hu n (.inr (.inr (List.mem_flatMap.2 ⟨_, List.mem_map_of_mem h1, hn⟩)))
  · rcases ho m with h | ⟨h1, h⟩
    · exact absurd h hm
    · exact hu m (.inl h1)
  · rcases ho n with h | ⟨_, h⟩
    · exact .inl h
    · rw [h]; exact hst.sh n hn

theorem cut_sound (ok : CxOk cx P) (h : At cx N n0 O0 β0 F0 w0 s a w) {c : Cut} {K : List (PV D) → List (Option (Obj D)) → Option R} {r : R} (he : cut n0 c s K = some r) : ∃ vs os, K vs os = some r ∧ At cx N n0 O0 β0 F0 w0 (mkSt n0 c vs os) a w := by
  obtain ⟨hd, β, F, hs, hst⟩ := h
  unfold cut at he
  obtain ⟨s, β, F, he, g2, g3⟩ := coerce_sound ok _ hs he
  obtain ⟨w1, w2⟩ := weak_sound g2 (hst.trans g3) ⟨[], c.ts, reach s 1000 (names.go (c.ts.map s.t) ++ List.range n0) [], []⟩
  obtain ⟨s', β', F', h1, h2, h3⟩ := coerce_sound ok _ w1 he
  obtain ⟨k1, k2⟩ := weak_sound h2 (w2.trans h3) c
  exact ⟨_, _, h1, hd, β', F', k1, k2⟩

/-- A loop, from its head to where it is left. -/
def LSound (P : Program) (cx : Cx D) (N n0 : Nat) (ann : Nat → Option LAnn) (lr : List (PV D) → List (Option (Obj D)) → (Ex → List (PV D) → List (Option (Obj D)) → Option R) → Option R) (b : Code) (n : Nat) : Prop :=
  ∀ l, ann (keyOf b) = some l → ∀ vs os K r, lr vs os K = some r → ∀ O0 β0 F0 w0 a w (Q : Exit → Act → World → Prop), At cx N n0 O0 β0 F0 w0 (mkSt n0 l.hd vs os) a w →
    (∀ e c vs' os' a' w', l.ex e = some c → K e vs' os' = some r → At cx N n0 O0 β0 F0 w0 (mkSt n0 c vs' os') a' w' → Q (exq e) a' w') → LoopW P b Q n a w

def loopsOf : Code → List Code
  | .seq a b => loopsOf a ++ loopsOf b
  | .cond _ a b => loopsOf a ++ loopsOf b
  | .block _ b => loopsOf b
  | .loop b => b :: loopsOf b
  | .scope b => loopsOf b
  | _ => []

def tailsOf : Code → List Code
  | .seq a b => tailsOf a ++ (b :: tailsOf b)
  | .cond _ a b => tailsOf a ++ tailsOf b
  | .block _ b => tailsOf b
  | .loop b => tailsOf b
  | .scope b => tailsOf b
  | _ => []
def joinsOf (ann : Nat → Option LAnn) (c : Code) : List Code := (tailsOf c).filter fun b => (ann (keyOf b + 1000000)).isSome

/-- What comes behind a place where ways meet, from there to where it is left. -/
def JSound (P : Program) (cx : Cx D) (N n0 : Nat) (ann : Nat → Option LAnn) (lr : List (PV D) → List (Option (Obj D)) → (Ex → List (PV D) → List (Option (Obj D)) → Option R) → Option R) (b : Code) : Prop :=
  ∀ l, ann (keyOf b + 1000000) = some l → ∀ vs os K r, lr vs os K = some r → ∀ O0 β0 F0 w0 a w (Q : Exit → Act → World → Prop), At cx N n0 O0 β0 F0 w0 (mkSt n0 l.hd vs os) a w →
    (∀ e c vs' os' a' w', l.ex e = some c → K e vs' os' = some r → At cx N n0 O0 β0 F0 w0 (mkSt n0 c vs' os') a' w' → Q (exq e) a' w') → b.wp P Q a w

theorem exec_sound (ok : CxOk cx P) (horc : OrcSound P cx orc) (hor : ∀ f args os, Nat1 (orc f args os)) (hmix : P.follows .mixedOrders = true) : ∀ (c : Code), (∀ b ∈ loopsOf c, ∃ n, LSound P cx N n0 ann (lrc (keyOf b)) b n) → (∀ b ∈ tailsOf c, JSound P cx N n0 ann (lrc (keyOf b + 1000000)) b) → ∀ {s : St D} {a : Act} {w : World} {K : Ex → St D → Option R} {r : R} {Q : Exit → Act → World → Prop}, At cx N n0 O0 β0 F0 w0 s a w →
    exec cx orc lrc ann keep N n0 c s K = some r → (∀ e s' a' w', K e s' = some r → At cx N n0 O0 β0 F0 w0 s' a' w' → Q (exq e) a' w') → c.wp P Q a w
  | .skip, _, _, s, a, w, K, r, Q, h, he, hK => wp_skip (hK .normal s a w he h)
  | .label _, _, _, s, a, w, K, r, Q, h, he, hK => wp_label (hK .normal s a w he h)
  | .ret, _, _, s, a, w, K, r, Q, h, he, hK => wp_ret (hK .ret s a w he h)
  | .exit id, _, _, s, a, w, K, r, Q, h, he, hK => wp_exit (hK (.exit id) s a w he h)
  | .region id ops d, _, _, s, a, w, K, r, Q, h, he, hK => by
    simp only [exec] at he
    cases d with
    | true =>
      simp only [cond_true] at he
      exact drawn_sound ok horc hor hmix h he fun s' a' w' hk hat => hK .normal s' a' w' hk hat
    | false =>
      simp only [cond_false] at he
      refine wp_region ?_
      have := runOps_sound (Q := Q) ok horc ops.toList 0 (fun j => by simp) h he (fun s' a' w' hk hat => hK .normal s' a' w' hk hat)
      rw [← List.range_eq_range'] at this
      simpa using this
  | .seq x y, hl, hj, s, a, w, K, r, Q, h, he, hK => by
    simp only [exec] at he
    split at he
    · refine wp_seq (exec_sound ok horc hor hmix x (fun b hb => hl b (by simp [loopsOf, hb])) (fun b hb => hj b (by simp [tailsOf, hb])) h he fun e s' a' w' hk hat => ?_)
      cases e with
      | normal => exact exec_sound ok horc hor hmix y (fun b hb => hl b (by simp [loopsOf, hb])) (fun b hb => hj b (by simp [tailsOf, hb])) hat hk hK
      | exit j => exact hK (.exit j) s' a' w' hk hat
      | ret => exact hK .ret s' a' w' hk hat
    · rename_i l hann
      refine wp_seq (exec_sound ok horc hor hmix x (fun b hb => hl b (by simp [loopsOf, hb])) (fun b hb => hj b (by simp [tailsOf, hb])) h he fun e s' a' w' hk hat => ?_)
      cases e with
      | normal =>
        obtain ⟨vs, os, h1, h2⟩ := cut_sound ok hat hk
        refine hj y (by simp [tailsOf]) l hann vs os _ r h1 _ _ _ _ _ _ Q h2 fun e c vs' os' a' w' hc hk hat => ?_
        rw [hc] at hk
        exact hK e _ a' w' hk hat
      | exit j => exact hK (.exit j) s' a' w' hk hat
      | ret => exact hK .ret s' a' w' hk hat
  | .scope x, hl, hj, s, a, w, K, r, Q, h, he, hK => by
    simp only [exec] at he
    refine wp_scope_straight (exec_sound ok horc hor hmix x (fun b hb => hl b (by simp [loopsOf, hb])) (fun b hb => hj b (by simp [tailsOf, hb])) h he fun e s' a' w' hk hat => ?_)
    cases e <;> exact hK _ s' a' w' hk hat
  | .cond c x y, hl, hj, s, a, w, K, r, Q, h, he, hK => by
    simp only [exec] at he
    split at he
    · rename_i t ht
      have hc : a.eval c = .bool t := by
        obtain ⟨_, β, F, hs, _⟩ := h
        have := hs.ev c
        rw [ht] at this
        exact this
      cases t with
      | true => exact wp_cond_true hc (exec_sound ok horc hor hmix x (fun b hb => hl b (by simp [loopsOf, hb])) (fun b hb => hj b (by simp [tailsOf, hb])) h he hK)
      | false => exact wp_cond_false hc (exec_sound ok horc hor hmix y (fun b hb => hl b (by simp [loopsOf, hb])) (fun b hb => hj b (by simp [tailsOf, hb])) h he hK)
    · simp at he
  | .block id x, hl, hj, s, a, w, K, r, Q, h, he, hK => by
    simp only [exec] at he
    refine wp_block (exec_sound ok horc hor hmix x (fun b hb => hl b (by simpa [loopsOf] using hb)) (fun b hb => hj b (by simpa [tailsOf] using hb)) h he fun e s' a' w' hk hat => ?_)
    cases e with
    | normal => exact hK .normal s' a' w' hk hat
    | ret => exact hK .ret s' a' w' hk hat
    | exit j =>
      simp only [exq, Exit.inBlock]
      cases hj : Nat.beq j id with
      | true =>
        simp only [hj, cond_true] at hk
        rw [if_pos (Nat.eq_of_beq_eq_true hj)]
        exact hK .normal s' a' w' hk hat
      | false =>
        simp only [hj, cond_false] at hk
        rw [if_neg (by rintro rfl; simp at hj)]
        exact hK (.exit j) s' a' w' hk hat
  | .loop b, hl, hj, s, a, w, K, r, Q, h, he, hK => by
    simp only [exec] at he
    split at he
    · simp at he
    · rename_i l hann
      obtain ⟨vs, os, h1, h2⟩ := cut_sound ok h he
      obtain ⟨n, hn⟩ := hl b (by simp [loopsOf])
      refine loopW_sound (n := n) (hn l hann vs os _ r h1 _ _ _ _ _ _ Q h2 fun e c vs' os' a' w' hc hk hat => ?_)
      rw [hc] at hk
      exact hK e _ a' w' hk hat
  | .goto _, _, _, _, _, _, _, _, _, _, he, _ => by simp [exec] at he

theorem round_sound (ok : CxOk cx P) (horc : OrcSound P cx orc) (hor : ∀ f args os, Nat1 (orc f args os)) (hmix : P.follows .mixedOrders = true) {b : Code} {l : LAnn} (hann : ann (keyOf b) = some l) (hl : ∀ b' ∈ loopsOf b, ∃ n, LSound P cx N n0 ann (lrc (keyOf b')) b' n) (hj : ∀ b' ∈ tailsOf b, JSound P cx N n0 ann (lrc (keyOf b' + 1000000)) b')
    {lr : List (PV D) → List (Option (Obj D)) → (Ex → List (PV D) → List (Option (Obj D)) → Option R) → Option R} {n : Nat} (ih : LSound P cx N n0 ann lr b n)
    {lr' : List (PV D) → List (Option (Obj D)) → (Ex → List (PV D) → List (Option (Obj D)) → Option R) → Option R} (hr : ∀ vs os K r, lr' vs os K = some r → round cx orc lrc ann keep N n0 l b vs os (fun vs os => lr vs os K) K = some r) : LSound P cx N n0 ann lr' b (n + 1) := by
  intro l' hl' vs os K r he O0 β0 F0 w0 a w Q hat hK
  rw [hann] at hl'; simp at hl'; subst hl'
  have he := hr vs os K r he
  unfold round at he
  refine exec_sound (Q := Exit.then (LoopW P b Q n) Q) ok horc hor hmix b hl hj hat he fun e s' a' w' hk hat' => ?_
  cases e with
  | normal =>
    obtain ⟨vs', os', h1, h2⟩ := cut_sound ok hat' hk
    exact ih l hann vs' os' K r h1 _ _ _ _ _ _ Q h2 hK
  | exit j =>
    simp only at hk
    split at hk
    · rename_i c hc
      obtain ⟨vs', os', h1, h2⟩ := cut_sound ok hat' hk
      exact hK (.exit j) c vs' os' a' w' hc h1 h2
    · simp at hk
  | ret =>
    simp only at hk
    split at hk
    · rename_i c hc
      obtain ⟨vs', os', h1, h2⟩ := cut_sound ok hat' hk
      exact hK .ret c vs' os' a' w' hc h1 h2
    · simp at hk

theorem tail_sound (ok : CxOk cx P) (horc : OrcSound P cx orc) (hor : ∀ f args os, Nat1 (orc f args os)) (hmix : P.follows .mixedOrders = true) {b : Code} {l : LAnn} (hann : ann (keyOf b + 1000000) = some l) (hl : ∀ b' ∈ loopsOf b, ∃ n, LSound P cx N n0 ann (lrc (keyOf b')) b' n)
    (hj : ∀ b' ∈ tailsOf b, JSound P cx N n0 ann (lrc (keyOf b' + 1000000)) b')
    {lr : List (PV D) → List (Option (Obj D)) → (Ex → List (PV D) → List (Option (Obj D)) → Option R) → Option R} (hr : ∀ vs os K r, lr vs os K = some r → tailR cx orc lrc ann keep N n0 l b vs os K = some r) : JSound P cx N n0 ann lr b := by
  intro l' hl' vs os K r he O0 β0 F0 w0 a w Q hat hK
  rw [hann] at hl'; simp at hl'; subst hl'
  have he := hr vs os K r he
  unfold tailR at he
  refine exec_sound (Q := Q) ok horc hor hmix b hl hj hat he fun e s' a' w' hk hat' => ?_
  split at hk
  · rename_i c hc
    obtain ⟨vs', os', h1, h2⟩ := cut_sound ok hat' hk
    exact hK e c vs' os' a' w' hc h1 h2
  · simp at hk

theorem joins_all {lrc : Lrc D R} {c : Code} (h : ∀ b ∈ joinsOf ann c, JSound P cx N n0 ann (lrc (keyOf b + 1000000)) b) : ∀ b ∈ tailsOf c, JSound P cx N n0 ann (lrc (keyOf b + 1000000)) b := by
  intro b hb l hl
  exact h b (List.mem_filter.2 ⟨hb, by rw [hl]; rfl⟩) l hl

theorem LSound.zero {b : Code} {lr : List (PV D) → List (Option (Obj D)) → (Ex → List (PV D) → List (Option (Obj D)) → Option R) → Option R} (h : ∀ vs os K, lr vs os K = none) : LSound P cx N n0 ann lr b 0 := by
  intro l _ vs os K r he
  rw [h] at he; simp at he

end Go.Am

/-! A function, whole. -/
namespace Go.Am
variable {D : Nat → Type} {R : Type} {cx : Cx D} {orc : Orc D R} {lrc : Lrc D R} {ann : Nat → Option LAnn} {keep : FuncId → List Bool} {N n0 : Nat} {s : St D} {β β' : Beta} {F F' : Nat → Prop} {a : Act} {w w' : World} {P : Program} {Q : Exit → Act → World → Prop}
  {O0 : Nat → Option (Obj D)} {β0 : Beta} {F0 : Nat → Prop} {w0 : World}

def entry (args : List (PV D)) (os : List (Obj D)) : St D := mkSt os.length ⟨[], List.range args.length, List.range os.length, []⟩ args (os.map some)

theorem assoc_range {α : Type} {d : α} (n k i : Nat) (vs : List α) (h : vs.length = n) : assoc d (List.range' k n) vs i = if k ≤ i then vs.getD (i - k) d else d := by
  induction n generalizing k vs with
  | zero =>
    have : vs = [] := List.eq_nil_of_length_eq_zero h
    subst this
    simp [assoc]
  | succ n ih =>
    cases vs with
    | nil => simp at h
    | cons v vs =>
      rw [List.range'_succ]
      simp only [assoc]
      cases hb : Nat.beq i k with
      | true =>
        have := Nat.eq_of_beq_eq_true hb
        subst this
        simp
      | false =>
        have hne : i ≠ k := by rintro rfl; simp at hb
        simp only [cond_false]
        rw [ih (k + 1) vs (by simpa using h)]
        by_cases hk : k ≤ i
        · rw [if_pos hk, if_pos (by omega)]
          rw [show i - k = (i - (k + 1)) + 1 by omega]
          rfl
        · rw [if_neg hk, if_neg (by omega)]

theorem assoc_range0 {α : Type} {d : α} (n i : Nat) (vs : List α) (h : vs.length = n) : assoc d (List.range n) vs i = vs.getD i d := by
  rw [List.range_eq_range', assoc_range n 0 i vs h]; simp

theorem entry_at {args : List (PV D)} {os : List (Obj D)} {vals : List Value} (hN : args.length ≤ N) (hp : HRep cx (atL (os.map some)) β F w) (hr : PReps cx (fun m => shO cx (atL (os.map some) m)) β F w args vals)
    (h1 : ∀ n ∈ names.go args, n < os.length) (h2 : ∀ m, ∀ n ∈ namesO (atL (os.map some) m), n < os.length) :
    At cx N os.length (atL (os.map some)) β F w (entry args os) ⟨vals.toArray ++ Array.replicate (N - vals.toArray.size) undef, []⟩ w := by
  have ho : (entry args os).o = atL (os.map some) := by
    funext i
    simp only [entry, mkSt]
    rw [assoc_range0 _ _ _ (by simp)]
    rfl
  have ht : ∀ i, (entry args os).t i = args.getD i .undef := fun i => by
    simp only [entry, mkSt]
    exact assoc_range0 _ _ _ rfl
  have hu : ∀ n, n < os.length → (entry args os).u n = true := fun n hn => by
    simp only [entry, mkSt, Bool.or_eq_true]
    left; simp [hn]
  have hl := ((PReps_all2 ..).1 hr).length
  refine ⟨rfl, β, F, ⟨by simp; omega, fun i => ?_, by rw [ho]; exact hp, fun i n hn => ?_, fun m n hn => ?_, fun m hm => ?_⟩, ⟨fun n hn => hu n (below_iff.1 hn), fun _ _ => rfl, .refl _ _, fun n b hw => .inl ⟨n, by rw [ho] at hw; exact hw⟩, fun _ h => h, fun _ h => .inl h, fun n _ => .inr (by rw [ho]; exact sameO_refl _)⟩⟩
  · rw [ht, ho]
    by_cases hi : i < args.length
    · have e1 : args[i]? = some args[i] := List.getElem?_eq_getElem hi
      obtain ⟨v, hv, hpv⟩ := ((PReps_all2 ..).1 hr).get i _ e1
      have e2 : (vals.toArray ++ Array.replicate (N - vals.toArray.size) undef).getD i undef = v := by
        rw [Array.getD_eq_getD_getElem?, Array.getElem?_append_left (by simp; omega)]
        simp [hv]
      rw [List.getD_eq_getElem?_getD, e1]
      simp only [Option.getD_some]
      rw [e2]; exact hpv
    · rw [List.getD_eq_getElem?_getD, List.getElem?_eq_none (by omega)]
      trivial
  · rw [ht] at hn
    rw [List.getD_eq_getElem?_getD] at hn
    cases hx : args[i]? with
    | none => rw [hx] at hn; simp [names] at hn
    | some p =>
      rw [hx] at hn
      exact hu n (h1 n (mem_names_go.2 ⟨p, List.mem_of_getElem? hx, hn⟩))
  · rw [ho] at hn; exact hu n (h2 m n hn)
  · rw [ho] at hm
    refine hu m ?_
    rcases Nat.lt_or_ge m os.length with h | h
    · exact h
    · exact absurd (atL_none (by simpa using h)) hm

def resStep (a : Act) : ResultVar → Sem Value
  | .tmp t => pure (a.tmps.getD t undef)
  | .cell b t => do loadVar t (← asAddr (a.tmps.getD b undef))

theorem load_ptr {T : TypeId} {p : PV D} {v : Value} {K : PV D → Option R} {r : R} {S : Nat → Option Sh} (h : load cx T p s K = some r) (hp : PRep cx S β F w p v) : ∃ ad, v = .pointer (some ad) := by
  unfold load at h
  split at h
  · simp at h
  · cases p with
    | ptr o off => exact ptr_shape hp
    | elem o i off => exact elem_shape hp
    | lelem t xs i off => obtain ⟨_, ad, c, _, h3⟩ := hp; exact ⟨_, h3⟩
    | _ => simp at h

theorem resV_sound (ok : CxOk cx P) (hs : SRep cx N s β F a w) : ∀ (rs : List ResultVar) {K : List (PV D) → Option R} {r : R}, resV cx s rs K = some r → ∃ vs us, K vs = some r ∧ PReps cx (fun m => shO cx (s.o m)) β F w vs us ∧ (∀ n ∈ names.go vs, s.u n = true) ∧
    (rs.mapM (resStep a)).run P w = .ok us w
  | [], K, r, h => ⟨[], [], h, trivial, by simp [names.go], by simp⟩
  | .tmp t :: rs, K, r, h => by
    simp only [resV] at h
    obtain ⟨vs, us, h1, h2, h3, h4⟩ := resV_sound ok hs rs h
    refine ⟨s.t t :: vs, a.tmps.getD t undef :: us, h1, ⟨hs.tm t, h2⟩, fun n hn => ?_, ?_⟩
    · simp only [names.go, List.mem_append] at hn
      rcases hn with hn | hn
      · exact hs.us t n hn
      · exact h3 n hn
    · simp only [List.mapM_cons, Sem.run_bind, resStep, Sem.run_pure, Result.andThen_ok, h4]
  | .cell b T :: rs, K, r, h => by
    simp only [resV] at h
    obtain ⟨ad, hv⟩ := load_ptr h (hs.tm b)
    obtain ⟨u, q, k1, k2, k3, k4⟩ := load_sound ok h hs (hs.tm b)
    obtain ⟨vs, us, h1, h2, h3, h4⟩ := resV_sound ok hs rs k2
    refine ⟨q :: vs, u :: us, h1, ⟨k3, h2⟩, fun n hn => ?_, ?_⟩
    · simp only [names.go, List.mem_append] at hn
      rcases hn with hn | hn
      · exact k4 n hn
      · exact h3 n hn
    · have hl : (loadVar T ad).run P w = .ok u w := by
        rw [hv] at k1
        simpa [Instr.loadAt, Instr.sureAddr] using k1
      simp only [List.mapM_cons, Sem.run_bind, resStep, hv, asAddr, Sem.run_pure, Result.andThen_ok, hl, h4]

theorem results_run (ok : CxOk cx P) (hs : SRep cx N s β F a w) (fn : Func) {K : List (PV D) → Option R} {r : R} (h : resV cx s fn.results.toList K = some r) : ∃ vs us, K vs = some r ∧ PReps cx (fun m => shO cx (s.o m)) β F w vs us ∧ (∀ n ∈ names.go vs, s.u n = true) ∧
    (results fn a.tmps).run P w = .ok (match us with
      | [v] => v
      | l => .tuple l.toArray) w := by
  obtain ⟨vs, us, h1, h2, h3, h4⟩ := resV_sound ok hs _ h
  refine ⟨vs, us, h1, h2, h3, ?_⟩
  have hm : (fn.results.mapM (resStep a)).run P w = .ok us.toArray w := by
    rw [Array.mapM_eq_mapM_toList]
    simp [h4]
  have he : results fn a.tmps = (do
    let vs ← fn.results.mapM (resStep a)
    pure (if h : vs.size = 1 then vs[0] else .tuple vs)) := by
    unfold results
    congr 1
  rw [he]
  simp only [Sem.run_bind, hm, Result.andThen_ok, Sem.run_pure]
  congr 1
  cases us with
  | nil => rfl
  | cons v us => cases us with
    | nil => rfl
    | cons v' us => simp

/-- What a function leaves, in its caller's eyes. -/
def Leaves (cx : Cx D) (os : List (Obj D)) (β0 : Beta) (F0 : Nat → Prop) (w0 : World) (K : RV D → Option R) (r : R) (e : Ending) (w : World) : Prop :=
  ∃ v, e = .returned v ∧ ∃ rv β' F', K rv = some r ∧ Ret cx os β0 F0 w0 v w rv β' F'

theorem fin_sound (ok : CxOk cx P) {fn : Func} {os : List (Obj D)} {c : List (Loc × Mode)} {K : RV D → Option R} {r : R} {e : Ex} (h : fin cx fn.results.toList c os.length K e s = some r)
    (hat : At cx N os.length (atL (os.map some)) β0 F0 w0 s a w) : bodyPost P fn (Leaves cx os β0 F0 w0 K r) (exq e) a w := by
  obtain ⟨hd, β, F, hs, hst⟩ := hat
  have main : coerce c s (fun s => resV cx s fn.results.toList fun vs =>
      let L := reach s 1000 (names.go vs ++ List.range os.length) []
      let new := newN os.length L
      chk ((names.go vs).all (fun m => Nat.blt m os.length || memN new m) && nub new && (List.range os.length ++ new).all (fun m => (namesO (s.o m)).all (fun m => Nat.blt m os.length || memN new m))) (K ⟨match ren.go (renF os.length new) vs with
        | [v] => v
        | l => .tup l, (List.range os.length ++ new).map (optO s (renF os.length new))⟩)) = some r → a.defers = [] ∧ ∃ v, (results fn a.tmps).run P w = .ok v w ∧ Leaves cx os β0 F0 w0 K r (.returned v) w := by
    intro h
    obtain ⟨s, β', F', h1, h2, h3⟩ := coerce_sound ok c hs h
    have hst := hst.trans h3
    obtain ⟨vs, us, k1, k2, k3, k4⟩ := results_run ok h2 fn h1
    refine ⟨hd, _, k4, _, rfl, ?_⟩
    simp only at k1
    obtain ⟨new, hnew⟩ : ∃ new, new = newN os.length (reach s 1000 (names.go vs ++ List.range os.length) []) := ⟨_, rfl⟩
    rw [← hnew] at k1
    have hge : ∀ n ∈ new, os.length ≤ n := by
      intro n hn
      rw [hnew] at hn
      simpa [newN] using (List.mem_filter.1 hn).2
    clear hnew
    obtain ⟨hc, hK⟩ := chk_some k1
    clear k1
    simp only [Bool.and_eq_true, List.all_eq_true, Bool.or_eq_true, memN_iff, Nat.blt_eq] at hc
    obtain ⟨⟨c1, c2⟩, c3⟩ := hc
    have hnd := nub_iff.1 c2
    obtain ⟨rf, hrf⟩ : ∃ rf, rf = renF os.length new := ⟨_, rfl⟩
    rw [← hrf] at hK
    -- names, here and there
    let g : Nat → Nat := fun j => if j < os.length then j else new.getD (j - os.length) 0
    let βr : Beta := fun j => if j < os.length + new.length then β' (g j) else none
    have rf1 : ∀ n, n < os.length → rf n = n := fun n hn => by
      have hb : Nat.blt n os.length = true := by simpa using hn
      simp [hrf, renF, hb]
    have rf2 : ∀ n, n ∈ new → rf n = os.length + idx new n := fun n hn => by
      have := hge n hn
      have hb : Nat.blt n os.length = false := by rw [Bool.eq_false_iff]; simp; omega
      simp [hrf, renF, hb]
    have rflt : ∀ n, (n < os.length ∨ n ∈ new) → rf n < os.length + new.length ∧ g (rf n) = n := by
      rintro n (hn | hn)
      · rw [rf1 n hn]; exact ⟨by omega, by simp [g, hn]⟩
      · rw [rf2 n hn]
        obtain ⟨i1, i2⟩ := idx_lt hn
        refine ⟨by omega, ?_⟩
        simp only [g]
        rw [if_neg (by omega), Nat.add_sub_cancel_left, List.getD_eq_getElem?_getD, i2]
        rfl
    have hg : ∀ j, j < os.length + new.length → (List.range os.length ++ new)[j]? = some (g j) := by
      intro j hj
      simp only [g]
      by_cases hjl : j < os.length
      · rw [if_pos hjl, List.getElem?_append_left (by simpa using hjl), List.getElem?_range hjl]
      · rw [if_neg hjl, List.getElem?_append_right (by simp; omega), List.length_range]
        have hk : j - os.length < new.length := by omega
        rw [List.getElem?_eq_getElem hk, List.getD_eq_getElem?_getD, List.getElem?_eq_getElem hk]; rfl
    have hO : ∀ j, j < os.length + new.length → atL ((List.range os.length ++ new).map (optO s rf)) j = mapO rf (s.o (g j)) := by
      intro j hj
      unfold atL
      rw [List.getD_eq_getElem?_getD, List.getElem?_map, hg j hj]
      simp only [Option.map_some, Option.getD_some, optO]
      cases s.o (g j) <;> rfl
    have hOn : ∀ j, os.length + new.length ≤ j → atL ((List.range os.length ++ new).map (optO s rf)) j = none := fun j hj => atL_none (by simp; omega)
    have hlen : ((List.range os.length ++ new).map (optO s rf)).length = os.length + new.length := by simp
    have hdom : ∀ j, j < os.length + new.length → g j ∈ List.range os.length ++ new := fun j hj => List.mem_of_getElem? (hg j hj)
    have hnames : ∀ j, j < os.length + new.length → ∀ n ∈ namesO (s.o (g j)), n < os.length ∨ n ∈ new := fun j hj n hn => c3 (g j) (hdom j hj) n hn
    have hpull : HRep cx (atL ((List.range os.length ++ new).map (optO s rf))) βr F' w := by
      refine h2.hp.pull g rf (fun j => j < os.length + new.length) (fun j => ?_) (fun j hj n hn => ?_) (fun i j hi hj he => ?_)
      · by_cases hj : j < os.length + new.length
        · exact .inr ⟨hj, hO j hj, by simp only [βr, if_pos hj]⟩
        · exact .inl (hOn j (by omega))
      · obtain ⟨l1, l2⟩ := rflt n (hnames j hj n hn)
        exact ⟨by rw [hO _ l1, l2], by simp only [βr, if_pos l1, l2]⟩
      · have hnd2 : (List.range os.length ++ new).Nodup := by
          rw [List.nodup_append]
          exact ⟨List.nodup_range, hnd, fun x hx y hy => by have := hge y hy; have := List.mem_range.1 hx; omega⟩
        have e1 := hg i hi
        have e2 := hg j hj
        rw [he] at e1
        have hi' := (List.getElem?_eq_some_iff.1 e1).1
        have hj' := (List.getElem?_eq_some_iff.1 e2).1
        rw [List.getElem?_eq_getElem hi'] at e1
        rw [List.getElem?_eq_getElem hj'] at e2
        exact (List.getElem_inj hnd2).1 ((Option.some.inj e1).trans (Option.some.inj e2).symm)
    have hreps : PReps cx (fun m => shO cx (atL ((List.range os.length ++ new).map (optO s rf)) m)) βr F' w (ren.go rf vs) us := k2.ren _ _ fun n hn => by
      obtain ⟨l1, l2⟩ := rflt n (c1 n hn)
      exact ⟨by rw [hO _ l1, l2, shO_map], by simp only [βr, if_pos l1, l2]⟩
    refine ⟨_, βr, F', hK, ?_⟩
    refine ⟨by simp, ?_, ?_, hpull, ?_, ?_⟩
    · have hn : ∀ n ∈ names.go (ren.go rf vs), n < os.length + new.length := fun n hn => by
        rw [names_renGo] at hn
        obtain ⟨m, hm, rfl⟩ := List.mem_map.1 hn
        exact (rflt m (c1 m hm)).1
      simp only [hlen]
      intro n hn'
      refine hn n ?_
      split at hn'
      · rename_i v hv; rw [hv]; simpa [names.go] using hn'
      · simpa [names] using hn'
    · simp only [hlen]
      intro m n hn
      by_cases hm : m < os.length + new.length
      · rw [hO m hm, namesO_map] at hn
        obtain ⟨k, hk, rfl⟩ := List.mem_map.1 hn
        exact (rflt k (hnames m hm k hk)).1
      · rw [hOn m (by omega)] at hn; simp [namesO] at hn
    · simp only
      cases vs with
      | nil => cases us with
        | nil => exact ⟨#[], rfl, trivial⟩
        | cons => exact hreps.elim
      | cons p vs => cases us with
        | nil => exact hreps.elim
        | cons u us => cases vs with
          | nil => cases us with
            | nil => exact hreps.1
            | cons => exact hreps.2.elim
          | cons p' vs => cases us with
            | nil => exact hreps.2.elim
            | cons u' us => exact ⟨(u :: u' :: us).toArray, rfl, hreps⟩
    · simp only [hlen]
      refine ⟨fun n hn => below_iff.2 (by have := below_iff.1 hn; omega), fun n hn => ?_, hst.kept, fun n b hw => ?_, hst.f0, hst.f1, fun n hn => ?_⟩
      · have hn := below_iff.1 hn
        simp only [βr, g, if_pos hn, if_pos (show n < os.length + new.length by omega)]
        exact hst.beta n (below_iff.2 hn)
      · by_cases hj : n < os.length + new.length
        · exact hst.wr (g n) b ((Wr_map (hO n hj) (by simp only [βr, if_pos hj])).1 hw)
        · obtain ⟨_, h5⟩ := hw; rw [hOn n (by omega)] at h5; exact h5.elim
      · have hn := below_iff.1 hn
        rw [hO n (by omega)]
        have : g n = n := by simp [g, hn]
        rw [this]
        rcases hst.sh n (below_iff.2 hn) with h5 | h5
        · left; rw [h5]; rfl
        · right; exact sameO_mapR h5
  unfold fin at h
  cases e with
  | exit j => simp at h
  | normal => exact main h
  | ret => exact main h

theorem func_sound (ok : CxOk cx P) (horc : OrcSound P cx orc) (hor : ∀ f args os, Nat1 (orc f args os)) (hmix : P.follows .mixedOrders = true) {f : FuncId} {fn : Func} {body : Code} (hf : P.funcs[f]? = some fn) (hb : fn.body = some body) (hname : (fn.name == "runtime.NumGoroutine") = false)
    {args : List (PV D)} {os : List (Obj D)} {c : List (Loc × Mode)} (hN : args.length ≤ fn.ntmps) (hl : ∀ b ∈ loopsOf body, ∃ n, LSound P cx fn.ntmps os.length ann (lrc (keyOf b)) b n) (hj : ∀ b ∈ tailsOf body, JSound P cx fn.ntmps os.length ann (lrc (keyOf b + 1000000)) b) {K : RV D → Option R} {r : R}
    (h : exec cx orc lrc ann keep fn.ntmps os.length body (entry args os) (fin cx fn.results.toList c os.length K) = some r) : Owes P cx f args os K r := by
  intro β F w vals hp hr h1 h2
  right
  have hname' : ¬ fn.name = "runtime.NumGoroutine" := by simpa using hname
  refine ⟨by simp [callFunc, hf, hname', hb], calls_of_wp hf hb ?_⟩
  exact exec_sound (Q := bodyPost P fn (Leaves cx os β F w K r)) ok horc hor hmix body hl hj (entry_at hN hp hr h1 h2) h fun e s' a' w' hk hat => fin_sound ok hk hat

/-! ### One way on -/
/-- It goes on in one way, or not at all. -/
def NatX (f : (Ex → St D → Option R) → Option R) : Prop := (∀ K, f K = none) ∨ ∃ e s', ∀ K, f K = K e s'
def NatL (f : (Ex → List (PV D) → List (Option (Obj D)) → Option R) → Option R) : Prop := (∀ K, f K = none) ∨ ∃ e vs os, ∀ K, f K = K e vs os

theorem stepOp_nat (ok : CxOk cx P) (hor : ∀ f args os, Nat1 (orc f args os)) (all : Array Oper) (rid : Nat) (o : Oper) (s : St D) : Nat1 (stepOp cx orc keep N all rid o s) := by
  have h1 : ∀ K, stepOp cx orc keep N all rid o s K = (match wantOf all o s with
    | some true => op1 cx orc keep o (nmOf rid o) s fun v s' => K (putD N s' o.dst v)
    | some false => K (putD N s o.dst .skip)
    | none => none) := fun K => stepOp_want o s K
  cases hw : wantOf all o s with
  | none => exact .inl fun K => by rw [h1, hw]
  | some b => cases b with
    | false => exact .inr ⟨_, fun K => by rw [h1, hw]⟩
    | true =>
      rcases op1_nat (orc := orc) (keep := keep) ok hor o (nmOf rid o) s with h | ⟨v, s0, _, h⟩
      · exact .inl fun K => by rw [h1, hw]; exact h _
      · exact .inr ⟨_, fun K => by rw [h1, hw]; exact h _⟩

theorem runOps_nat (ok : CxOk cx P) (hor : ∀ f args os, Nat1 (orc f args os)) (all : Array Oper) (rid : Nat) : ∀ (l : List Oper) (s : St D), Nat1 (runOps cx orc keep N all rid l s)
  | [], s => .ret _
  | o :: l, s => by
    rcases stepOp_nat ok hor all rid o s with h | ⟨s', h⟩
    · exact .inl fun K => by rw [runOps_cons]; exact h _
    · rcases runOps_nat ok hor all rid l s' with k | ⟨s2, k⟩
      · exact .inl fun K => by rw [runOps_cons, h]; exact k _
      · exact .inr ⟨s2, fun K => by rw [runOps_cons, h]; exact k _⟩

theorem goD_nat (ok : CxOk cx P) (hor : ∀ f args os, Nat1 (orc f args os)) (all : Array Oper) (rid : Nat) (ms : List Nat) : ∀ (l : List Oper) (k : Nat) log (s : St D), Nat1 (goD cx orc keep N all rid ms l k log s)
  | [], k, log, s => .ret _
  | o :: l, k, log, s => by
    have h : Nat1 fun K => stepOp cx orc keep N all rid o s fun s' => goD cx orc keep N all rid ms l (k + 1) (log ++ [(k, o, fpOf keep o s, s.u)]) s' K := by
      rcases stepOp_nat (keep := keep) (N := N) ok hor all rid o s with h | ⟨s', h⟩
      · exact .inl fun K => h _
      · rcases goD_nat ok hor all rid ms l (k + 1) (log ++ [(k, o, fpOf keep o s, s.u)]) s' with k | ⟨s2, k⟩
        · exact .inl fun K => (h _).trans (k _)
        · exact .inr ⟨s2, fun K => (h _).trans (k _)⟩
    exact Nat1.chk _ h

theorem coerce1_nat (l : Loc) (m : Mode) (s : St D) : Nat1 (R := R) (coerce1 l m s) := by
  unfold coerce1
  show Nat1 fun K => _
  cases m with
  | own nm t =>
    simp only
    cases getL s l with
    | nil => exact .chk _ (.ret _)
    | own o =>
      simp only
      cases s.o o with
      | none => exact .none
      | some ob => cases ob with
        | box cs => exact .none
        | row t' xs l => cases l with
          | false => exact .none
          | true =>
            simp only
            cases cast? t' t xs with
            | none => exact .none
            | some ys => exact .cond _ (.ret _) (.chk _ (.ret _))
    | view o lo n =>
      simp only
      cases s.o o with
      | none => exact .none
      | some ob => cases ob with
        | box cs => exact .none
        | row t' xs l => cases l with
          | false => exact .none
          | true =>
            simp only
            cases cast? t' t xs with
            | none => exact .none
            | some ys => exact .chk _ (.ret _)
    | _ => exact .none
  | imm t =>
    simp only
    cases settle s (getL s l) with
    | nil => exact .ret _
    | list t' xs =>
      simp only
      cases cast? t' t xs with
      | none => exact .none
      | some ys => exact .ret _
    | _ => exact .none
  | drop => cases l <;> first | exact .none | exact .ret _
  | still => cases l <;> first | exact .none | exact .ret _
  | opt t =>
    simp only
    cases getL s l with
    | nil => exact .ret _
    | opt t' xs b =>
      simp only
      cases cast? t' t xs with
      | none => exact .none
      | some ys => exact .ret _
    | own o =>
      simp only
      cases s.o o with
      | none => exact .none
      | some ob => cases ob with
        | box cs => exact .none
        | row t' xs l =>
          simp only
          cases cast? t' t xs with
          | none => exact .none
          | some ys => exact .ret _
    | _ => exact .none

theorem coerce_nat : ∀ (cs : List (Loc × Mode)) (s : St D), Nat1 (R := R) (coerce cs s)
  | [], s => .ret _
  | (l, m) :: cs, s => by
    simp only [Nat1, coerce]
    rcases coerce1_nat (R := R) l m s with h | ⟨s', h⟩
    · exact .inl fun K => h _
    · rcases coerce_nat cs s' with k | ⟨s2, k⟩
      · exact .inl fun K => by rw [h]; exact k _
      · exact .inr ⟨s2, fun K => by rw [h]; exact k _⟩

theorem cut_nat (c : Cut) (s : St D) : (∀ K : List (PV D) → List (Option (Obj D)) → Option R, cut n0 c s K = none) ∨ ∃ vs os, ∀ K : List (PV D) → List (Option (Obj D)) → Option R, cut n0 c s K = K vs os := by
  unfold cut
  rcases coerce_nat (R := R) c.pre s with h0 | ⟨s, h0⟩
  · exact .inl fun K => h0 _
  rcases coerce_nat (R := R) c.own (mkSt n0 ⟨[], c.ts, reach s 1000 (names.go (c.ts.map s.t) ++ List.range n0) [], []⟩ (c.ts.map s.t) ((reach s 1000 (names.go (c.ts.map s.t) ++ List.range n0) []).map s.o)) with h | ⟨s', h⟩
  · exact .inl fun K => by rw [h0]; exact h _
  · exact .inr ⟨_, _, fun K => by rw [h0]; exact h _⟩

theorem exec_nat (ok : CxOk cx P) (hor : ∀ f args os, Nat1 (orc f args os)) (hlr : ∀ key vs os, NatL (lrc key vs os)) : ∀ (c : Code) (s : St D), NatX (exec cx orc lrc ann keep N n0 c s)
  | .skip, s => .inr ⟨_, _, fun _ => rfl⟩
  | .label _, s => .inr ⟨_, _, fun _ => rfl⟩
  | .ret, s => .inr ⟨_, _, fun _ => rfl⟩
  | .exit id, s => .inr ⟨_, _, fun _ => rfl⟩
  | .region id ops d, s => by
    cases d with
    | true =>
      have h : Nat1 (runD cx orc keep N ops id ops.toList s) := .chk _ (goD_nat ok hor ops id _ _ _ _ s)
      rcases h with h | ⟨s', h⟩
      · exact .inl fun K => h _
      · exact .inr ⟨.normal, s', fun K => h _⟩
    | false =>
      rcases runOps_nat (keep := keep) (N := N) ok hor ops id ops.toList s with h | ⟨s', h⟩
      · exact .inl fun K => h _
      · exact .inr ⟨.normal, s', fun K => h _⟩
  | .seq x y, s => by
    cases ha : ann (keyOf y + 1000000) with
    | none =>
      rcases exec_nat ok hor hlr x s with h | ⟨e, s', h⟩
      · exact .inl fun K => by simp only [exec, ha]; exact h _
      · cases e with
        | normal =>
          rcases exec_nat ok hor hlr y s' with k | ⟨e2, s2, k⟩
          · exact .inl fun K => by simp only [exec, ha]; rw [h]; exact k _
          · exact .inr ⟨e2, s2, fun K => by simp only [exec, ha]; rw [h]; exact k _⟩
        | exit j => exact .inr ⟨.exit j, s', fun K => by simp only [exec, ha]; rw [h]⟩
        | ret => exact .inr ⟨.ret, s', fun K => by simp only [exec, ha]; rw [h]⟩
    | some l =>
      rcases exec_nat ok hor hlr x s with h | ⟨e, s', h⟩
      · exact .inl fun K => by simp only [exec, ha]; exact h _
      · cases e with
        | normal =>
          rcases cut_nat (n0 := n0) (R := R) l.hd s' with h1 | ⟨vs, os, h1⟩
          · exact .inl fun K => by simp only [exec, ha]; rw [h]; exact h1 _
          · rcases hlr (keyOf y + 1000000) vs os with k | ⟨e2, vs2, os2, k⟩
            · exact .inl fun K => by simp only [exec, ha]; rw [h]; simp only [h1]; exact k _
            · cases hx : l.ex e2 with
              | none => exact .inl fun K => by simp only [exec, ha]; rw [h]; simp only [h1]; rw [k]; simp only [hx]
              | some c => exact .inr ⟨e2, _, fun K => by simp only [exec, ha]; rw [h]; simp only [h1]; rw [k]; simp only [hx]; rfl⟩
        | exit j => exact .inr ⟨.exit j, s', fun K => by simp only [exec, ha]; rw [h]⟩
        | ret => exact .inr ⟨.ret, s', fun K => by simp only [exec, ha]; rw [h]⟩
  | .scope x, s => by
    simp only [exec]
    exact exec_nat ok hor hlr x s
  | .cond c x y, s => by
    cases hc : ev s c with
    | bool t =>
      cases t with
      | true =>
        rcases exec_nat ok hor hlr x s with h | ⟨e, s', h⟩
        · exact .inl fun K => by simp only [exec, hc, cond_true]; exact h _
        · exact .inr ⟨e, s', fun K => by simp only [exec, hc, cond_true]; exact h _⟩
      | false =>
        rcases exec_nat ok hor hlr y s with h | ⟨e, s', h⟩
        · exact .inl fun K => by simp only [exec, hc, cond_false]; exact h _
        · exact .inr ⟨e, s', fun K => by simp only [exec, hc, cond_false]; exact h _⟩
    | _ => exact .inl fun K => by simp only [exec, hc]
  | .block id x, s => by
    rcases exec_nat ok hor hlr x s with h | ⟨e, s', h⟩
    · exact .inl fun K => by simp only [exec]; exact h _
    · cases e with
      | normal => exact .inr ⟨.normal, s', fun K => by simp only [exec]; rw [h]⟩
      | ret => exact .inr ⟨.ret, s', fun K => by simp only [exec]; rw [h]⟩
      | exit j =>
        cases hj : Nat.beq j id with
        | true => exact .inr ⟨.normal, s', fun K => by simp only [exec]; rw [h]; simp only [hj, cond_true]⟩
        | false => exact .inr ⟨.exit j, s', fun K => by simp only [exec]; rw [h]; simp only [hj, cond_false]⟩
  | .loop b, s => by
    cases ha : ann (keyOf b) with
    | none => exact .inl fun K => by simp only [exec, ha]
    | some l =>
      rcases cut_nat (n0 := n0) (R := R) l.hd s with h | ⟨vs, os, h⟩
      · exact .inl fun K => by simp only [exec, ha]; exact h _
      · rcases hlr (keyOf b) vs os with k | ⟨e, vs', os', k⟩
        · exact .inl fun K => by simp only [exec, ha]; rw [h]; exact k _
        · cases hx : l.ex e with
          | none => exact .inl fun K => by simp only [exec, ha]; rw [h, k]; simp only [hx]
          | some c => exact .inr ⟨e, _, fun K => by simp only [exec, ha]; rw [h, k]; simp only [hx]; rfl⟩
  | .goto _, _ => .inl fun _ => rfl
  | .rangeFunc _ _ _ _, _ => .inl fun _ => rfl
  | .refuse _, _ => .inl fun _ => rfl

theorem round_nat (ok : CxOk cx P) (hor : ∀ f args os, Nat1 (orc f args os)) (hlr : ∀ key vs os, NatL (lrc key vs os)) {lr : List (PV D) → List (Option (Obj D)) → (Ex → List (PV D) → List (Option (Obj D)) → Option R) → Option R} (h : ∀ vs os, NatL (lr vs os)) (l : LAnn) (b : Code) (vs : List (PV D)) (os : List (Option (Obj D))) :
    NatL fun K => round cx orc lrc ann keep N n0 l b vs os (fun vs os => lr vs os K) K := by
  unfold round
  rcases exec_nat (ann := ann) (keep := keep) (N := N) (n0 := n0) ok hor hlr b (mkSt n0 l.hd vs os) with k | ⟨e, s', k⟩
  · exact .inl fun K => k _
  · have main : NatL fun K => (match e with
        | .normal => cut n0 l.hd s' fun vs os => lr vs os K
        | e => match l.ex e with
          | some c => cut n0 c s' fun vs os => K e vs os
          | none => none) := by
      cases e with
      | normal =>
        rcases cut_nat (n0 := n0) (R := R) l.hd s' with h1 | ⟨vs', os', h1⟩
        · exact .inl fun K => h1 _
        · rcases h vs' os' with h2 | ⟨e2, vs2, os2, h2⟩
          · exact .inl fun K => by simp only [h1]; exact h2 _
          · exact .inr ⟨e2, vs2, os2, fun K => by simp only [h1]; exact h2 _⟩
      | exit j =>
        cases hx : l.ex (.exit j) with
        | none => exact .inl fun K => by simp only [hx]
        | some c =>
          rcases cut_nat (n0 := n0) (R := R) c s' with h1 | ⟨vs', os', h1⟩
          · exact .inl fun K => by simp only [hx]; exact h1 _
          · exact .inr ⟨_, vs', os', fun K => by simp only [hx]; exact h1 _⟩
      | ret =>
        cases hx : l.ex .ret with
        | none => exact .inl fun K => by simp only [hx]
        | some c =>
          rcases cut_nat (n0 := n0) (R := R) c s' with h1 | ⟨vs', os', h1⟩
          · exact .inl fun K => by simp only [hx]; exact h1 _
          · exact .inr ⟨_, vs', os', fun K => by simp only [hx]; exact h1 _⟩
    rcases main with m | ⟨e2, vs2, os2, m⟩
    · refine .inl fun K => (k _).trans ?_
      cases e <;> exact m K
    · refine .inr ⟨e2, vs2, os2, fun K => (k _).trans ?_⟩
      cases e <;> exact m K

theorem tail_nat (ok : CxOk cx P) (hor : ∀ f args os, Nat1 (orc f args os)) (hlr : ∀ key vs os, NatL (lrc key vs os)) (l : LAnn) (b : Code) (vs : List (PV D)) (os : List (Option (Obj D))) :
    NatL fun K => tailR cx orc lrc ann keep N n0 l b vs os K := by
  unfold tailR
  rcases exec_nat (ann := ann) (keep := keep) (N := N) (n0 := n0) ok hor hlr b (mkSt n0 l.hd vs os) with k | ⟨e, s', k⟩
  · exact .inl fun K => k _
  · cases hx : l.ex e with
    | none => exact .inl fun K => by simp only [k, hx]
    | some c =>
      rcases cut_nat (n0 := n0) (R := R) c s' with h1 | ⟨vs', os', h1⟩
      · exact .inl fun K => by simp only [k, hx]; exact h1 _
      · exact .inr ⟨e, vs', os', fun K => by simp only [k, hx]; exact h1 _⟩

theorem resV_nat : ∀ (rs : List ResultVar) (s : St D), Nat1 (R := R) (resV cx s rs)
  | [], s => .ret _
  | .tmp t :: rs, s => by
    simp only [Nat1, resV]
    rcases resV_nat rs s with h | ⟨vs, h⟩
    · exact .inl fun K => h _
    · exact .inr ⟨_, fun K => h _⟩
  | .cell a T :: rs, s => by
    simp only [Nat1, resV]
    rcases load_nat (R := R) (cx := cx) T (s.t a) s with h | ⟨v, h⟩
    · exact .inl fun K => h _
    · rcases resV_nat rs s with k | ⟨vs, k⟩
      · exact .inl fun K => by rw [h]; exact k _
      · exact .inr ⟨_, fun K => by rw [h]; exact k _⟩

theorem func_nat (ok : CxOk cx P) (hor : ∀ f args os, Nat1 (orc f args os)) (hlr : ∀ key vs os, NatL (lrc key vs os)) (c : Code) (s : St D) (rs : List ResultVar) (co : List (Loc × Mode)) (n : Nat) :
    Nat1 fun K => exec cx orc lrc ann keep N n0 c s (fin cx rs co n K) := by
  rcases exec_nat (ann := ann) (keep := keep) (N := N) (n0 := n0) ok hor hlr c s with h | ⟨e, s', h⟩
  · exact .inl fun K => h _
  · have main : Nat1 fun K : RV D → Option R => coerce co s' fun s => resV cx s rs fun vs =>
        let L := reach s 1000 (names.go vs ++ List.range n) []
        let new := newN n L
        chk ((names.go vs).all (fun m => Nat.blt m n || memN new m) && nub new && (List.range n ++ new).all (fun m => (namesO (s.o m)).all (fun m => Nat.blt m n || memN new m))) (K ⟨match ren.go (renF n new) vs with
          | [v] => v
          | l => .tup l, (List.range n ++ new).map (optO s (renF n new))⟩) := by
      rcases coerce_nat (R := R) co s' with h1 | ⟨s2, h1⟩
      · exact .inl fun K => h1 _
      · have m2 : Nat1 fun K : RV D → Option R => resV cx s2 rs fun vs =>
            let L := reach s2 1000 (names.go vs ++ List.range n) []
            let new := newN n L
            chk ((names.go vs).all (fun m => Nat.blt m n || memN new m) && nub new && (List.range n ++ new).all (fun m => (namesO (s2.o m)).all (fun m => Nat.blt m n || memN new m))) (K ⟨match ren.go (renF n new) vs with
              | [v] => v
              | l => .tup l, (List.range n ++ new).map (optO s2 (renF n new))⟩) := by
          rcases resV_nat (R := R) (cx := cx) rs s2 with h2 | ⟨vs, h2⟩
          · exact .inl fun K => h2 _
          · have m3 : Nat1 fun K : RV D → Option R =>
                chk ((names.go vs).all (fun m => Nat.blt m n || memN (newN n (reach s2 1000 (names.go vs ++ List.range n) [])) m) && nub (newN n (reach s2 1000 (names.go vs ++ List.range n) [])) && (List.range n ++ (newN n (reach s2 1000 (names.go vs ++ List.range n) []))).all (fun m => (namesO (s2.o m)).all (fun m => Nat.blt m n || memN (newN n (reach s2 1000 (names.go vs ++ List.range n) [])) m))) (K ⟨match ren.go (renF n (newN n (reach s2 1000 (names.go vs ++ List.range n) []))) vs with
                  | [v] => v
                  | l => .tup l, (List.range n ++ (newN n (reach s2 1000 (names.go vs ++ List.range n) []))).map (optO s2 (renF n (newN n (reach s2 1000 (names.go vs ++ List.range n) []))))⟩) := .chk _ (.ret _)
            rcases m3 with m | ⟨v, m⟩
            · exact .inl fun K => (h2 _).trans (m K)
            · exact .inr ⟨v, fun K => (h2 _).trans (m K)⟩
        rcases m2 with m | ⟨v, m⟩
        · exact .inl fun K => (h1 _).trans (m K)
        · exact .inr ⟨v, fun K => (h1 _).trans (m K)⟩
    cases e with
    | exit j => exact .inl fun K => (h _).trans rfl
    | normal =>
      rcases main with m | ⟨v, m⟩
      · exact .inl fun K => (h _).trans (m K)
      · exact .inr ⟨v, fun K => (h _).trans (m K)⟩
    | ret =>
      rcases main with m | ⟨v, m⟩
      · exact .inl fun K => (h _).trans (m K)
      · exact .inr ⟨v, fun K => (h _).trans (m K)⟩

end Go.Am
