/- Proved: the abstract machine's operations and calls do what the program's do. Conditions: none. -/
import Derived.Test.YtehmahdngjdhpaaDoorMach1
import Derived.Deep.AppendSrc
import Derived.Laws.MakeOwn
import Derived.Laws.IdiomStrings
import Derived.Laws.BytesArg
import Derived.Laws.IdiomCopy
import Derived.Laws.Tables
import Derived.Great.BuildSlice

set_option maxRecDepth 100000
/-! What makes memory. -/
namespace Go.Am
variable {D : Nat → Type} {R : Type} {cx : Cx D} {N : Nat} {s : St D} {β : Beta} {F : Nat → Prop} {a : Act} {w w' : World} {P : Program}

/-! ### Elements, cell by cell -/

theorem rep_one {v : Value} {x : IV} (h : Rep F w v x) : v.oneCell' = true := by cases h <;> rfl
theorem reps_one {vs : List Value} {xs : List IV} (h : All2 (Rep F w) vs xs) : ∀ v ∈ vs, v.oneCell' = true := by
  intro v hv
  obtain ⟨i, hi⟩ := List.getElem?_of_mem hv
  obtain ⟨x, _, hx⟩ := h.get i v hi
  exact rep_one hx

/-- A list's cells, one behind the other. -/
theorem Rep.flat (ok : CxOk cx P) {t : Ty} {ys : List (t.den D)} {ad : Addr} {n c : Nat} (h : Rep F w (.slice (some ad) n c) (.list (sz cx t) (ys.map (deep cx t)))) :
    n = ys.length ∧ n ≤ c ∧ ∃ news : List Value, news.length = n * sz cx t ∧ (∀ (j : Nat) v, news[j]? = some v → w.cell? (ad.add j) = some v) ∧ All2 (Rep F w) news (ys.flatMap (deep cx t)) := by
  obtain ⟨rfl, hc, hF, u, hcell, hrep⟩ := h.list_inv
  simp only [List.length_map]
  refine ⟨trivial, by simpa using hc, (List.range (ys.length * sz cx t)).map (fun m => u (m / sz cx t) (m % sz cx t)), by simp, fun j v hj => ?_, flat_of_get ok _ _ (by simp) fun m x hx j y hy => ?_⟩
  · have hl : j < ys.length * sz cx t := by
      have := (List.getElem?_eq_some_iff.1 hj).1
      simpa using this
    simp [hl] at hj
    have hz : 0 < sz cx t := by rcases Nat.eq_zero_or_pos (sz cx t) with h0 | h0; · simp [h0] at hl
                                · exact h0
    have hm : j / sz cx t < ys.length := (Nat.div_lt_iff_lt_mul hz).2 hl
    have hk : j % sz cx t < sz cx t := Nat.mod_lt _ hz
    have h1 : (ys.map (deep cx t))[j / sz cx t]? = some (deep cx t ys[j / sz cx t]) := by rw [List.getElem?_map, List.getElem?_eq_getElem hm]; rfl
    have h2 := hcell (j / sz cx t) _ (j % sz cx t) _ h1 (List.getElem?_eq_getElem (by rw [deep_len ok]; exact hk))
    rw [Nat.mul_comm, Nat.div_add_mod] at h2
    rw [h2, hj]
  · have hj : j < sz cx t := by rw [← deep_len ok t x]; exact (List.getElem?_eq_some_iff.1 hy).1
    have hm : m < ys.length := (List.getElem?_eq_some_iff.1 hx).1
    have h1 : (ys.map (deep cx t))[m]? = some (deep cx t x) := by rw [List.getElem?_map, hx]; rfl
    refine ⟨u m j, ?_, hrep m _ j y h1 hy⟩
    have hl : m * sz cx t + j < ys.length * sz cx t := by
      have : (m + 1) * sz cx t ≤ ys.length * sz cx t := Nat.mul_le_mul_right _ hm
      rw [Nat.add_mul] at this; omega
    have e1 : (m * sz cx t + j) / sz cx t = m := by rw [Nat.mul_comm, Nat.mul_add_div (by omega), Nat.div_eq_of_lt hj]; omega
    have e2 : (m * sz cx t + j) % sz cx t = j := by rw [Nat.mul_comm, Nat.mul_add_mod, Nat.mod_eq_of_lt hj]
    simp [hl, e1, e2]

/-- A row's cells, one behind the other. -/
theorem RowAt.flat (ok : CxOk cx P) {t : Ty} {xs : List (t.den D)} {l : Bool} {b off cap : Nat} {c : Array Value} {e : TypeId} {fr : Nat × Nat} (h : RowAt cx F w t xs l b off cap c e fr) (lo n : Nat) (hle : lo + n ≤ xs.length) :
    ∃ olds : List Value, olds.length = n * sz cx t ∧ olds = (c.toList.drop (off + lo * sz cx t)).take (n * sz cx t) ∧ (∀ (j : Nat) v, olds[j]? = some v → w.cell? ⟨b, off + lo * sz cx t + j, none⟩ = some v) ∧ All2 (Rep F w) olds (((xs.drop lo).take n).flatMap (deep cx t)) := by
  have hsz : off + lo * sz cx t + n * sz cx t ≤ c.size := by
    have h1 := h.size
    have h2 : (lo + n) * sz cx t ≤ cap * sz cx t := Nat.mul_le_mul_right _ (by have := h.lecap; omega)
    rw [Nat.add_mul] at h2; omega
  refine ⟨_, by simp; omega, rfl, fun j v hj => ?_, flat_of_get ok _ _ (by simp; rw [Nat.min_eq_left (by omega), Nat.min_eq_left (by omega)]) fun m x hx j y hy => ?_⟩
  · rw [List.getElem?_take] at hj
    split at hj
    · rw [List.getElem?_drop] at hj
      simp [World.cell?, h.at_]
      simpa using hj
    · simp at hj
  · rw [List.getElem?_take] at hx
    split at hx
    · rename_i hm
      rw [List.getElem?_drop] at hx
      obtain ⟨u, hu, hr⟩ := h.cell _ x j y hx hy
      have hj : j < sz cx t := by rw [← deep_len ok t x]; exact (List.getElem?_eq_some_iff.1 hy).1
      refine ⟨u, ?_, hr⟩
      have : (m + 1) * sz cx t ≤ n * sz cx t := Nat.mul_le_mul_right _ hm
      rw [Nat.add_mul] at this
      rw [List.getElem?_take, if_pos (by omega), List.getElem?_drop]
      rw [Array.getElem?_toList, ← hu]
      congr 1; rw [Nat.add_mul]; omega
    · simp at hx

/-! ### A new row out of a list of cells -/
theorem drew_heap (w : World) : w.drew.heap = w.heap := rfl
theorem SRep.drew (h : SRep cx N s β F a w) : SRep cx N s β F a w.drew := h.world (fun _ _ => rfl) (fun _ _ _ => rfl) (Nat.le_refl _)

theorem SRep.del (h : SRep cx N s β F a w) (o : Nat) : SRep cx N (s.delO o) β F a w ∧ Step s.o s.u β F w (s.delO o).o (s.delO o).u β F w := by
  refine ⟨h.objs (h.hp.del o) (fun _ h => h) (fun _ _ => rfl) (fun n _ => ?_) (fun _ h => h) (fun m n hm => ?_) (fun m hm => ?_), ⟨fun _ h => h, fun _ _ => rfl, .refl _ _, fun n b hw => .inl ⟨n, hw.del.2⟩, fun _ h => h, fun _ h => .inl h, fun n hu => ?_⟩⟩
  · by_cases hx : n = o
    · subst hx; right; simp [upd_same, shO]
    · left; simp [upd_ne _ _ _ _ hx]
  · by_cases hx : m = o
    · subst hx; simp [upd_same, namesO] at hm
    · rw [upd_ne _ _ _ _ hx] at hm; exact h.ub m n hm
  · by_cases hx : m = o
    · subst hx; simp [upd_same] at hm
    · rw [upd_ne _ _ _ _ hx] at hm; exact h.uo m hm
  · by_cases hx : n = o
    · subst hx; left; simp [St.delO, upd_same]
    · right; simp only [St.delO, upd_ne _ _ _ _ hx]; exact sameO_refl _

/-- What came about before, and what an operation then comes to. -/
theorem Res.after {s1 : St D} {F1 : Nat → Prop} {w1 : World} {Q : PV D → St D → Prop} {v : Value} (hst : Step s.o s.u β F w s1.o s1.u β F1 w1) (h : Res cx N s1 β F1 a w1 Q v w') : Res cx N s β F a w Q v w' := by
  obtain ⟨s', β', F', p, h1, h2, h3, h4, h5⟩ := h
  exact ⟨s', β', F', p, h1, h2, h3, hst.trans h4, h5⟩

theorem stepWorld (s : St D) (β : Beta) (F : Nat → Prop) (w w' : World) (hk : Kept w (fun b => ∃ n, Wr s.o β n b) w') : Step s.o s.u β F w s.o s.u β F w' :=
  ⟨fun _ h => h, fun _ _ => rfl, hk, fun n _ h => .inl ⟨n, h⟩, fun _ h => h, fun _ h => .inl h, fun _ _ => .inr (sameO_refl _)⟩
theorem stepDrew (s : St D) (β : Beta) (F : Nat → Prop) (w : World) : Step s.o s.u β F w s.o s.u β F w.drew := stepWorld s β F w _ ⟨rfl, rfl, rfl, Nat.le_refl _, fun _ _ _ => rfl⟩

/-- The source of an append. -/
theorem src_of (ok : CxOk cx P) {T' e' : TypeId} (hk : P.underlying T' = some (.slice e')) {t : Ty} {ys : List (t.den D)} {v : Value} (h : Rep F w v (.list (sz cx t) (ys.map (deep cx t)))) :
    ∃ news : List Value, Src P (sz cx t) T' v ys.length news w ∧ All2 (Rep F w) news (ys.flatMap (deep cx t)) := by
  rcases Rep.list_shape h with ⟨rfl, h0⟩ | ⟨ad, c, rfl⟩
  · simp at h0; subst h0
    exact ⟨[], Src.ofNil w hk 0, .nil⟩
  · simp only [List.length_map] at h ⊢
    obtain ⟨_, _, news, h1, h2, h3⟩ := h.flat ok
    exact ⟨news, Src.ofSlice w hk ad ys.length c news h1 h2 (reps_one h3), h3⟩

/-- What an append does with what comes behind. -/
structure Tail (P : Program) (w : World) (T T' e ty : TypeId) (size : Nat) (x : Value) (m : Nat) (news : List Value) : Prop where
  newsLen : news.length = m * size
  one : ∀ v ∈ news, v.oneCell' = true
  room : ∀ b off sLen sCap, sLen + m ≤ sCap → (∀ j, j < news.length → (w.cell? ⟨b, off + sLen * size + j, none⟩).isSome = true) → (∀ j, j < news.length → w.frozen? ⟨b, off + sLen * size + j, none⟩ = false) →
    (Builtin.append_ #[T, T'] ty #[.slice (some ⟨b, off, none⟩) sLen sCap, x]).run P w = .ok (.slice (some ⟨b, off, none⟩) (sLen + m) sCap) (w.setCells b (off + sLen * size) news)
  grow : ∀ i z base sLen sCap olds, P.info? e = some i → i.zero = some z → (Builtin.firstCells size sLen (.slice base sLen sCap)).run P w.drew = .ok (List.toArray olds) w.drew → sCap < sLen + m → ((sLen + m : Nat) : Int) ≤ 9223372036854775807 →
    Builtin.nextslicecap (sLen + m) sCap * i.bytes ≤ 281474976710656 → (Builtin.append_ #[T, T'] ty #[.slice base sLen sCap, x]).run P w =
      .ok (.slice (some ⟨w.heap.size, 0, none⟩) (sLen + m) (grownCap w (sLen + m) sCap e)) (w.drew.alloc (.cells ((olds ++ news).toArray ++ Builtin.zeroCells z.cells (grownCap w (sLen + m) sCap e - (sLen + m))) e))
  nils : m = 0 → ∀ base, (Builtin.append_ #[T, T'] ty #[.slice base 0 0, x]).run P w = .ok (.slice base 0 0) w

theorem Tail.ofSrc {T T' e ty : TypeId} {i : TypeInfo} {size : Nat} {x : Value} {m : Nat} {news : List Value} (hu : P.underlying T = some (.slice e)) (hi : P.info? e = some i) (hsz : i.size = size) (h : Src P size T' x m news w) : Tail P w T T' e ty size x m news where
  newsLen := h.newsLen
  one := h.one
  room b off sLen sCap hr hc hf := by
    subst hsz
    exact run_append_room_src (P := P) w T T' ty e i hu hi b off sLen sCap x m news h hr hc hf
  grow i' z base sLen sCap olds hi' hz ho hg h63 hfit := by
    subst hsz
    rw [hi] at hi'; simp at hi'; subst hi'
    exact run_append_grow_src (P := P) w T T' ty e i z hu hi hz base sLen sCap olds ho x m news h hg h63 hfit
  nils h0 base := by
    subst hsz h0
    have hn : news = [] := by simpa using h.newsLen
    subst hn
    rcases h.kind with ⟨e', hk⟩ | hk <;> cases base <;> simp [Builtin.append_, run_underlying hu, run_underlying hk, sizeOf, typeInfo, hi, h.len, h.cells, storeCells]

/-- It grows: a new row. -/
theorem append_grow (ok : CxOk cx P) (hs : SRep cx N s β F a w) {T T' e ty : TypeId} {te : TI D} {t : Ty} (_hu : P.underlying T = some (.slice e)) (he : cx.T e = some te) (hty : te.ty = some t) {base : Option Addr} {n cap m : Nat} {x : Value}
    {xs ys : List (t.den D)} {olds news : List Value} (hold : (Builtin.firstCells (sz cx t) n (.slice base n cap)).run P w.drew = .ok olds.toArray w.drew) (ho2 : All2 (Rep F w) olds (xs.flatMap (deep cx t))) (hxl : xs.length = n)
    (hsrc : Tail P w T T' e ty (sz cx t) x m news) (hn2 : All2 (Rep F w) news (ys.flatMap (deep cx t))) (hyl : ys.length = m) (hg : cap < n + m) (hroom : room te.bytes (n + m) = true) (nm : Nat) (hnm : s.u nm = false)
    {Q : PV D → St D → Prop} (hQ : Q (.own nm) (s.born nm (.row t (xs ++ ys) true))) :
    ∃ v w', (Builtin.append_ #[T, T'] ty #[.slice base n cap, x]).run P w = .ok v w' ∧ Res cx N s β F a w Q v w' := by
  obtain ⟨_, ⟨i, z, hi, his, hib, hz, _, hzs, _, hzt, _⟩, _, _⟩ := ok.ty e te he
  obtain ⟨h1, h2, h3, h4⟩ := hzt t hty
  have hroom' : (n + m) * te.bytes ≤ 140737488355328 := by simpa [room] using hroom
  have hfit := growslice_fits (old := cap) (bytes := te.bytes) hg hroom'
  have h63 : ((n + m : Nat) : Int) ≤ 9223372036854775807 := by
    have : n + m ≤ (n + m) * te.bytes := Nat.le_mul_of_pos_right _ h3
    omega
  have hrun := hsrc.grow i z base n cap olds hi hz hold hg h63 (by rw [hib]; exact hfit)
  refine ⟨_, _, hrun, Res.after (stepDrew s β F w) ?_⟩
  have hall : All2 (Rep F w) (olds ++ news) ((xs ++ ys).flatMap (deep cx t)) := by rw [List.flatMap_append]; exact ho2.append hn2
  have hlen : (olds ++ news).length = (n + m) * sz cx t := by rw [hall.length, flat_len ok, List.length_append, hxl, hyl]
  have hgc := grownCap_ge w (n + m) cap e
  have := Res.newRow (P := Q) (cx := cx) (N := N) hs.drew nm t (xs ++ ys) ((olds ++ news).toArray ++ Builtin.zeroCells z.cells (grownCap w (n + m) cap e - (n + m))) e (grownCap w (n + m) cap e) hnm
    (by rw [List.length_append]; omega) (by
      rw [Array.size_append, size_zeroCells, hzs, List.size_toArray, hlen, h1, ← Nat.add_mul]
      rw [show n + m + (grownCap w (n + m) cap e - (n + m)) = grownCap w (n + m) cap e by omega]
      exact Nat.le_refl _)
    (fun i x j y hx hy => by
      obtain ⟨u, hu', hr⟩ := flat_get ok _ _ i x hall hx j y hy
      refine ⟨u, ?_, Rep.mono (w := w) (w' := w.drew) (fun _ h => h) (fun _ _ => rfl) hr⟩
      have hlt := (List.getElem?_eq_some_iff.1 hu').1
      rw [Array.getElem?_append_left (by rw [List.size_toArray]; exact hlt)]
      simpa using hu')
    (0, 0) (by simp) (p := .own nm) (v := .slice (some ⟨w.drew.heap.size, 0, none⟩) (xs ++ ys).length (grownCap w (n + m) cap e)) (.inl ⟨rfl, rfl⟩) hQ
  rw [List.length_append, hxl, hyl] at this
  exact this

/-- There is room: the row is written behind its end. -/
theorem append_room (ok : CxOk cx P) (hs : SRep cx N s β F a w) {T T' e ty : TypeId} {te : TI D} {t : Ty} (_hu : P.underlying T = some (.slice e)) (he : cx.T e = some te) (hty : te.ty = some t) {o b off cap : Nat} {_l : Bool} {xs ys : List (t.den D)} {c : Array Value} {e' : TypeId} {fr : Nat × Nat}
    (ho : s.o o = some (.row t xs true)) (hβ : β o = some (b, off, cap)) (hR : RowAt cx F w t xs true b off cap c e' fr) {lo n off' m : Nat} {x : Value} {news : List Value} (hle : lo + n ≤ xs.length) (hoff : off' = off + lo * sz cx t ∨ (lo = cap ∧ off' ≤ off + lo * sz cx t))
    (hsrc : Tail P w T T' e ty (sz cx t) x m news) (hn2 : All2 (Rep F w) news (ys.flatMap (deep cx t))) (hyl : ys.length = m) (hg : n + m ≤ cap - lo) (nm : Nat) (hnm : s.u nm = false)
    {Q : PV D → St D → Prop} (hQ : Q (.own nm) ((s.delO o).born nm (.row t ((xs.drop lo).take n ++ ys) true))) :
    ∃ v w', (Builtin.append_ #[T, T'] ty #[.slice (some ⟨b, off', none⟩) n (cap - lo), x]).run P w = .ok v w' ∧ Res cx N s β F a w Q v w' := by
  obtain ⟨_, ⟨i, z, hi, his, hib, hz, _, hzs, _, hzt, _⟩, _, _⟩ := ok.ty e te he
  obtain ⟨h1, h2, h3, h4⟩ := hzt t hty
  have hsz1 : 0 < sz cx t := by omega
  have hlc := hR.lecap
  have hcs := hR.size
  have hml : news.length = m * sz cx t := hsrc.newsLen
  have hisz : i.size = sz cx t := by rw [his, h1]
  -- where it is written
  have hplace : off' + (cap - lo) * sz cx t ≤ c.size ∧ (off' = off + lo * sz cx t ∨ (n = 0 ∧ m = 0)) := by
    rcases hoff with rfl | ⟨rfl, h5⟩
    · have : lo * sz cx t + (cap - lo) * sz cx t = cap * sz cx t := by rw [← Nat.add_mul]; congr 1; omega
      exact ⟨by omega, .inl rfl⟩
    · simp
      exact ⟨by omega, .inr (by omega)⟩
  have hin : off' + n * sz cx t + news.length ≤ c.size := by
    have : (n + m) * sz cx t ≤ (cap - lo) * sz cx t := Nat.mul_le_mul_right _ hg
    rw [Nat.add_mul] at this; omega
  have hcell : ∀ j, j < news.length → (w.cell? ⟨b, off' + n * i.size + j, none⟩).isSome = true := by
    intro j hj
    simp [World.cell?, hR.at_, hisz]
    omega
  have hfz : ∀ j, j < news.length → w.frozen? ⟨b, off' + n * i.size + j, none⟩ = false := by
    intro j hj
    obtain ⟨lo', hi'⟩ := fr
    have := hR.free (off' + n * i.size + j) (by rw [hisz]; omega)
    simp [World.frozen?, hR.at_]
    simpa using this
  have hrun := hsrc.room b off' n (cap - lo) hg (by rw [← hisz]; exact hcell) (by rw [← hisz]; exact hfz)
  rw [← hisz] at hrun
  obtain ⟨w1, hrun1, hw1⟩ := storeCells_run (P := P) b (off' + n * i.size) e' fr news 0 w c hR.at_ hsrc.one (by rw [hisz]; omega) hR.free
  have hst := run_storeCells_cells (P := P) b (off' + n * i.size) news 0 w (by simpa using hcell) (by simpa using hfz) hsrc.one
  rw [hrun1] at hst
  simp only [Nat.add_zero, Result.ok.injEq, true_and] at hst
  rw [← hst] at hrun
  refine ⟨_, _, hrun, ?_⟩
  simp only [Nat.add_zero] at hw1
  have hwr : Wr s.o β o b := ⟨⟨_, hβ⟩, by simp [ho]⟩
  have hnF : ¬ F b := hs.hp.away o b hwr
  obtain ⟨d1, d2⟩ := hs.del o
  have hnW : ∀ k, ¬ Wr (s.delO o).o β k b := by
    intro k hk
    obtain ⟨h5, h6⟩ := Wr.del hk
    exact h5 (hs.hp.apart k o b h6 hwr)
  have dw : SRep cx N (s.delO o) β F a w1 := d1.world (fun x hx => hw1.other x (by rintro rfl; exact hnF hx)) (fun k x hx => hw1.other x (by rintro rfl; exact hnW k hx)) (Nat.le_of_eq hw1.size.symm)
  have hnm' : (s.delO o).u nm = false := hnm
  have hFw : ∀ x, F x → w1.heap[x]? = w.heap[x]? := fun x hx => hw1.other x (by rintro rfl; exact hnF hx)
  -- the new row
  have hrow : RowAt cx F w1 t ((xs.drop lo).take n ++ ys) true b off' (cap - lo) (setLs c (off' + n * i.size) news) e' fr := by
    refine ⟨hw1.at_, by simp; omega, by rw [setLs_size]; exact hplace.1, by rw [setLs_size]; exact hR.free, fun k y j q hy hq => ?_, by simp⟩
    have hj : j < sz cx t := by rw [← deep_len ok t y]; exact (List.getElem?_eq_some_iff.1 hq).1
    have hnl : ((xs.drop lo).take n).length = n := by simp; omega
    have hnew := setLs_list news c (off' + n * i.size) (by rw [hisz]; omega)
    have hget : ∀ q : Nat, (setLs c (off' + n * i.size) news)[q]? = (c.toList.take (off' + n * i.size) ++ news ++ c.toList.drop (off' + n * i.size + news.length))[q]? := by
      intro q; rw [← hnew]; simp
    by_cases hk : k < n
    · rw [List.getElem?_append_left (by omega)] at hy
      rw [List.getElem?_take, if_pos hk, List.getElem?_drop] at hy
      obtain ⟨u, hu', hr⟩ := hR.cell _ y j q hy hq
      refine ⟨u, ?_, hr.mono (fun _ h => h) hFw⟩
      rcases hplace.2 with hp | hp
      · have : (k + 1) * sz cx t ≤ n * sz cx t := Nat.mul_le_mul_right _ hk
        rw [Nat.add_mul] at this
        rw [hget, List.getElem?_append_left (by simp; rw [hisz]; omega), List.getElem?_append_left (by simp; rw [hisz]; omega), List.getElem?_take, if_pos (by rw [hisz]; omega), Array.getElem?_toList, ← hu']
        congr 1; rw [Nat.add_mul]; omega
      · omega
    · rw [List.getElem?_append_right (by omega), hnl] at hy
      obtain ⟨u, hu', hr⟩ := flat_get ok _ _ _ y hn2 hy j q hq
      refine ⟨u, ?_, hr.mono (fun _ h => h) hFw⟩
      have hlt := (List.getElem?_eq_some_iff.1 hu').1
      have e1 : (k - n) * sz cx t = k * sz cx t - n * sz cx t := Nat.sub_mul _ _ _
      have e2 : n * sz cx t ≤ k * sz cx t := Nat.mul_le_mul_right _ (by omega)
      rw [hget, List.getElem?_append_left (by simp; rw [hisz]; omega), List.getElem?_append_right (by simp; rw [hisz]; omega), ← hu']
      congr 1; simp; rw [hisz]; omega
  refine ⟨_, _, _, .own nm, dw.born nm (.row t ((xs.drop lo).take n ++ ys) true) (some (b, off', cap - lo)) hnm' (.inr ⟨b, off', cap - lo, _, e', fr, rfl, hrow⟩) (by simp [namesO]) (by
    rintro b' x hb
    simp at hb; obtain ⟨rfl, _⟩ := hb
    exact ⟨hnF, hnW⟩), ?_, ?_, ?_, hQ⟩
  · have : ((xs.drop lo).take n ++ ys).length = n + m := by simp; omega
    simp only [PRep, St.born, upd_same, shO, rowV, this]
  · simp [names, St.born, upd_same]
  · refine ⟨fun k hk => ?_, fun k hk => ?_, keptWrote hw1 ⟨o, hwr⟩, fun k x hx => ?_, fun _ h => h, fun _ h => .inl h, fun k hk => ?_⟩
    · simp [St.born, upd_eq, St.delO, hk]
    · exact upd_ne _ _ _ _ (by rintro rfl; simp [hnm] at hk)
    · by_cases hkn : k = nm
      · subst hkn
        obtain ⟨⟨q, hq⟩, _⟩ := hx
        rw [upd_same] at hq
        simp at hq
        obtain ⟨rfl, _⟩ := hq
        exact .inl ⟨o, hwr⟩
      · have : Wr (s.delO o).o β k x := by simpa [Wr, St.born, upd_ne _ _ _ _ hkn] using hx
        exact .inl ⟨k, this.del.2⟩
    · have h5 : k ≠ nm := by rintro rfl; simp [hnm] at hk
      have h6 : k ≠ o ∨ k = o := by omega
      rcases h6 with h6 | rfl
      · right; simp only [St.born, St.delO, upd_ne _ _ _ _ h5, upd_ne _ _ _ _ h6]; exact sameO_refl _
      · left; simp [St.born, St.delO, upd_ne _ _ _ _ h5, upd_same]

/-- Nothing goes behind nothing: nil stays nil. -/
theorem append_nil_nil (_ok : CxOk cx P) (hs : SRep cx N s β F a w) {T T' e ty : TypeId} {te : TI D} {t : Ty} (_hu : P.underlying T = some (.slice e)) (_he : cx.T e = some te) (_hty : te.ty = some t) {x : Value}
    (hsrc : Tail P w T T' e ty (sz cx t) x 0 []) (nm : Nat) (hnm : s.u nm = false) (base : Option Addr) {Q : PV D → St D → Prop} (hQ : Q (.own nm) (s.born nm (.row t [] true))) :
    ∃ v w', (Builtin.append_ #[T, T'] ty #[.slice base 0 0, x]).run P w = .ok v w' ∧ Res cx N s β F a w Q v w' := by
  refine ⟨_, _, hsrc.nils rfl base, _, _, _, .own nm, hs.born nm (.row t [] true) none hnm (.inl ⟨rfl, rfl⟩) (by simp [namesO]) (by simp), ?_, ?_, stepBorn s β F w w nm _ none hnm (.refl _ _) (by simp), hQ⟩
  · simp [PRep, St.born, upd_same, shO, rowV]
  · simp [names, St.born, upd_same]

theorem cast_self {t t' : Ty} {xs : List (t.den D)} {ys : List (t'.den D)} (h : cast? t t' xs = some ys) (hx : t = t') : hx ▸ xs = ys := (cast?_some h).2

/-- append(x, ys...): the cells of what comes behind are known. -/
theorem appendL_sound (ok : CxOk cx P) (hs : SRep cx N s β F a w) {T T' e ty : TypeId} {te : TI D} {t : Ty} (hu : P.underlying T = some (.slice e)) (he : cx.T e = some te) (hty : te.ty = some t) {p : PV D} {v x : Value} {ys : List (t.den D)} {news : List Value}
    (hp : PRep cx (fun m => shO cx (s.o m)) β F w p v) (hsrc : Tail P w T T' e ty (sz cx t) x ys.length news) (hn2 : All2 (Rep F w) news (ys.flatMap (deep cx t))) {nm : Nat} {K : PV D → St D → Option R} {r : R} (h : appendL t te.bytes p ys nm s K = some r) :
    ∃ u w', (Builtin.append_ #[T, T'] ty #[v, x]).run P w = .ok u w' ∧ Res cx N s β F a w (fun p s' => K p s' = some r) u w' := by
  unfold appendL at h
  obtain ⟨hb, h⟩ := chk_some h
  have hnm : s.u nm = false := by simpa using hb
  have hz : (sz cx t) = te.size ∧ 0 < te.bytes := by
    obtain ⟨_, ⟨i, z, hi, his, hib, hz, _, hzs, _, hzt, _⟩, _, _⟩ := ok.ty e te he
    obtain ⟨h1, h2, h3, h4⟩ := hzt t hty
    exact ⟨h1, h3⟩
  -- nil, or a row that is nil
  have nilCase : ∀ (s1 : St D), SRep cx N s1 β F a w → s1.u nm = false → room te.bytes ys.length = true → K (.own nm) (s1.born nm (.row t ys true)) = some r → Step s.o s.u β F w s1.o s1.u β F w → (∃ base, v = .slice base 0 0) →
      ∃ u w', (Builtin.append_ #[T, T'] ty #[v, x]).run P w = .ok u w' ∧ Res cx N s β F a w (fun p s' => K p s' = some r) u w' := by
    rintro s1 h1 h2 h3 h4 h5 ⟨base, rfl⟩
    by_cases h0 : ys.length = 0
    · have hy : ys = [] := List.eq_nil_of_length_eq_zero h0
      subst hy
      have hn0 : news = [] := by simpa using hsrc.newsLen
      subst hn0
      obtain ⟨u, w', k1, k2⟩ := append_nil_nil (ty := ty) ok h1 hu he hty hsrc nm h2 base (Q := fun p s' => K p s' = some r) h4
      exact ⟨u, w', k1, .after h5 k2⟩
    · obtain ⟨u, w', k1, k2⟩ := append_grow (ty := ty) ok h1 hu he hty (base := base) (n := 0) (cap := 0) (xs := []) (olds := []) (by cases base <;> simp [Builtin.firstCells, loadCells, loadCellsFrom]) .nil rfl hsrc hn2 rfl (by omega) (by simpa using h3) nm h2
        (Q := fun p s' => K p s' = some r) (by simpa using h4)
      exact ⟨u, w', k1, .after h5 k2⟩
  cases p with
  | nil =>
    simp only at h
    obtain ⟨hr, hK⟩ := chk_some h
    exact nilCase s hs hnm hr hK (.refl _ _ _ _ _) ⟨none, hp⟩
  | own o =>
    simp only at h
    cases ho : s.o o with
    | none => simp [ho] at h
    | some ob => cases ob with
      | box cs => simp [ho] at h
      | row t' xs l => cases l with
        | false => simp [ho] at h
        | true =>
        simp only [ho] at h
        cases hc : cast? t' t xs with
        | none => simp [hc] at h
        | some xs' =>
        simp only [hc] at h
        obtain ⟨rfl, rfl⟩ := cast?_some hc
        obtain ⟨hr, hK⟩ := chk_some h
        simp only [PRep, ho, shO] at hp
        obtain ⟨d1, d2⟩ := hs.del o
        rcases hs.hp.row o t' xs true ho with ⟨h3, h4⟩ | ⟨b, off, cap, c, e', fr, hβ, hR⟩
        · subst h4
          rw [h3] at hp
          exact nilCase (s.delO o) d1 hnm (by simpa using hr) (by simpa using hK) d2 hp
        · rw [hβ] at hp
          simp only [rowV] at hp
          subst hp
          by_cases hg : xs.length + ys.length ≤ cap
          · exact append_room (ty := ty) ok hs hu he hty (_l := true) ho hβ hR (lo := 0) (n := xs.length) (off' := off) (by omega) (.inl (by simp)) hsrc hn2 rfl (by simpa using hg) nm hnm (Q := fun p s' => K p s' = some r) (by simpa using hK)
          · obtain ⟨olds, k1, k2, k3, k4⟩ := hR.flat ok 0 xs.length (by omega)
            have hold : (Builtin.firstCells (sz cx t') xs.length (.slice (some ⟨b, off, none⟩) xs.length cap)).run P w.drew = .ok olds.toArray w.drew :=
              run_firstCells_some w.drew _ _ _ _ _ olds k1 (fun j v hj => by rw [add_at]; have := k3 j v hj; simpa using this)
            obtain ⟨u, w', m1, m2⟩ := append_grow (ty := ty) ok d1 hu he hty (xs := xs) hold (by simpa using k4) rfl hsrc hn2 rfl (by omega) hr nm hnm (Q := fun p s' => K p s' = some r) hK
            exact ⟨u, w', m1, .after d2 m2⟩
  | view o lo n =>
    simp only at h
    cases ho : s.o o with
    | none => simp [ho] at h
    | some ob => cases ob with
      | box cs => simp [ho] at h
      | row t' xs l => cases l with
        | false => simp [ho] at h
        | true =>
        simp only [ho] at h
        cases hc : cast? t' t xs with
        | none => simp [hc] at h
        | some xs' =>
        simp only [hc] at h
        obtain ⟨rfl, rfl⟩ := cast?_some hc
        obtain ⟨hr, hK⟩ := chk_some h
        simp only [PRep, ho, shO] at hp
        obtain ⟨hle, hp⟩ := hp
        obtain ⟨d1, d2⟩ := hs.del o
        rcases hs.hp.row o t' xs true ho with ⟨h3, h4⟩ | ⟨b, off, cap, c, e', fr, hβ, hR⟩
        · subst h4
          rw [h3] at hp
          simp at hle
          obtain ⟨rfl, rfl⟩ := hle
          exact nilCase (s.delO o) d1 hnm (by simpa using hr) (by simpa using hK) d2 hp
        · rw [hβ] at hp
          obtain ⟨off', rfl, hoff⟩ := hp
          have hlc := hR.lecap
          by_cases hg : n + ys.length ≤ cap - lo
          · exact append_room (ty := ty) ok hs hu he hty (_l := true) ho hβ hR hle hoff hsrc hn2 rfl hg nm hnm (Q := fun p s' => K p s' = some r) hK
          · obtain ⟨olds, k1, k2, k3, k4⟩ := hR.flat ok lo n hle
            have hold : (Builtin.firstCells (sz cx t') n (.slice (some ⟨b, off', none⟩) n (cap - lo))).run P w.drew = .ok olds.toArray w.drew := by
              rcases hoff with rfl | ⟨rfl, _⟩
              · exact run_firstCells_some w.drew _ _ _ _ _ olds k1 (fun j v hj => by rw [add_at]; exact k3 j v hj)
              · have hn0 : n = 0 := by omega
                subst hn0
                have : olds = [] := by simpa using k1
                subst this
                simp [Builtin.firstCells, loadCells, loadCellsFrom]
            obtain ⟨u, w', m1, m2⟩ := append_grow (ty := ty) ok d1 hu he hty (xs := (xs.drop lo).take n) hold k4 (by simp; omega) hsrc hn2 rfl (by omega) hr nm hnm (Q := fun p s' => K p s' = some r) hK
            exact ⟨u, w', m1, .after d2 m2⟩
  | _ => simp at h

end Go.Am

/-! Appends, makes, literals. -/
namespace Go.Am
variable {D : Nat → Type} {R : Type} {cx : Cx D} {N : Nat} {s : St D} {β : Beta} {F : Nat → Prop} {a : Act} {w w' : World} {P : Program}

/-- A row that is read while nobody writes into it any more. -/
theorem SRep.lent (hs : SRep cx N s β F a w) {p : PV D} {v : Value} (hp : PRep cx (fun m => shO cx (s.o m)) β F w p v) :
    ∃ F1, SRep cx N (frz s p) β F1 a w ∧ Step s.o s.u β F w (frz s p).o (frz s p).u β F1 w ∧ PRep cx (fun m => shO cx ((frz s p).o m)) β F1 w (settle s p) v ∧
      (∀ q u, PRep cx (fun m => shO cx (s.o m)) β F w q u → PRep cx (fun m => shO cx ((frz s p).o m)) β F1 w q u) ∧ (frz s p).u = s.u := by
  obtain ⟨F1, h1, h2, h3⟩ := hs.frzAll [p]
  have hsh : ∀ n, shO cx ((frz s p).o n) = shO cx (s.o n) := fun n => frzAll_sh (cx := cx) [p] s n
  refine ⟨F1, h1, h2, ?_, fun q u hq => PRep.mono h2.f0 (fun _ _ => rfl) _ _ (fun n _ => .inl ⟨hsh n, rfl⟩) hq, frzAll_u [p] s⟩
  exact hs.settled hp h2.f0 (fun n _ => .inl ⟨hsh n, rfl⟩) (h3 p (by simp))

theorem listOf_rep {t : Ty} {S : Nat → Option Sh} {p : PV D} {v : Value} {ys : List (t.den D)} (h : listOf t s p = some ys) (hp : PRep cx S β F w (settle s p) v) : Rep F w v (.list (sz cx t) (ys.map (deep cx t))) := by
  unfold listOf at h
  split at h
  · rename_i hs
    rw [hs] at hp
    simp at h; subst h
    cases hp; exact .nil
  · rename_i t' xs hs
    rw [hs] at hp
    obtain ⟨rfl, rfl⟩ := cast?_some h
    exact hp
  · simp at h

theorem zeroCells_flat (ok : CxOk cx P) {t : Ty} {z : Array Value} (hz : All2 (Rep F w) z.toList (deep cx t (t.zero cx))) (_hsz : 0 < sz cx t) (n : Nat) :
    All2 (Rep F w) (Builtin.zeroCells z n).toList ((List.replicate n (t.zero cx)).flatMap (deep cx t)) := by
  have hzs : z.size = sz cx t := by have := hz.length; rw [deep_len ok] at this; simpa using this
  refine flat_of_get ok _ _ (by simp [size_zeroCells, hzs]) fun m x hx j y hy => ?_
  have hm : m < n := by have := (List.getElem?_eq_some_iff.1 hx).1; simpa using this
  have hx' : x = t.zero cx := by rw [List.getElem?_replicate] at hx; simp [hm] at hx; exact hx.symm
  subst hx'
  have hj : j < sz cx t := by rw [← deep_len ok t (t.zero cx)]; exact (List.getElem?_eq_some_iff.1 hy).1
  obtain ⟨u, hu, hr⟩ := hz.get' j y hy
  refine ⟨u, ?_, hr⟩
  have hl : m * sz cx t + j < n * sz cx t := by
    have : (m + 1) * sz cx t ≤ n * sz cx t := Nat.mul_le_mul_right _ hm
    rw [Nat.add_mul] at this; omega
  have hmod : (m * sz cx t + j) % sz cx t = j := by rw [Nat.mul_comm, Nat.mul_add_mod, Nat.mod_eq_of_lt hj]
  have hju : z[j]? = some u := by simpa using hu
  have hjs : j < z.size := by omega
  rw [Array.getElem?_toList]
  simp only [Builtin.zeroCells, hzs]
  rw [Array.getElem?_map, Array.getElem?_range, if_pos hl]
  simp only [Option.map_some, hmod]
  rw [getElem!_pos z j hjs]
  rw [Array.getElem?_eq_getElem hjs] at hju
  exact hju

theorem append_sound (ok : CxOk cx P) (hs : SRep cx N s β F a w) {T T' ty : TypeId} {p q : PV D} {v x : Value} (hp : PRep cx (fun m => shO cx (s.o m)) β F w p v) (hq : PRep cx (fun m => shO cx (s.o m)) β F w q x) {nm : Nat}
    {K : PV D → St D → Option R} {r : R} (h : append cx T T' p q nm s K = some r) :
    ∃ u w', (Builtin.append_ #[T, T'] ty #[v, x]).run P w = .ok u w' ∧ Res cx N s β F a w (fun p s' => K p s' = some r) u w' := by
  unfold append at h
  cases hTI : elemTI cx T with
  | none => simp [hTI] at h
  | some tb =>
  obtain ⟨t, bytes⟩ := tb
  simp only [hTI] at h
  obtain ⟨e, te, hu, he, hty, rfl⟩ := elemTI_some ok hTI
  split at h
  · rename_i k k' n hT'
    obtain ⟨d', hu', hd⟩ := tyDesc ok hT'
    simp only [DescOk] at hd; subst hd
    cases hq
    obtain ⟨hb, h⟩ := chk_some h
    simp only [Bool.and_eq_true, decide_eq_true_eq] at hb
    obtain ⟨h0, hmax⟩ := hb
    -- zeros: their cells come out of the type
    obtain ⟨_, ⟨i, z, hi, his, hib, hz, _, hzs, _, hzt, _⟩, _, _⟩ := ok.ty e te he
    obtain ⟨g1, g2, g3, g4⟩ := hzt t hty
    obtain ⟨m, rfl⟩ := Int.eq_ofNat_of_zero_le h0
    simp only [Int.toNat_natCast] at h
    have hflat := zeroCells_flat (F := F) (w := w) ok (g4 F w) (by omega) m
    have hmax' : m * te.bytes ≤ 140737488355328 := by
      have : ((m * te.bytes : Nat) : Int) ≤ 140737488355328 := by rw [Int.natCast_mul]; exact hmax
      omega
    have hm1 : m ≤ m * te.bytes := Nat.le_mul_of_pos_right _ g3
    have hw : IntKind.i64.wrap (m : Int) = m := by rw [IntKind.wrap_i64]; omega
    have hneg : ¬ ((m : Int) < 0) := by omega
    have hbig : ¬ (281474976710656 < (m : Int) * (i.bytes : Int)) := by rw [hib, ← Int.natCast_mul]; omega
    have hisz : i.size = sz cx t := by rw [his, g1]
    have hin : i.size ≠ 0 := by omega
    have hw0 : IntKind.i64.wrap 0 = 0 := by rw [IntKind.wrap_i64]; rfl
    have hzcs : z.cells.size = sz cx t := by rw [hzs, g1]
    obtain ⟨news, hnews⟩ : ∃ news, news = (Builtin.zeroCells z.cells m).toList := ⟨_, rfl⟩
    have hna : Builtin.zeroCells z.cells m = news.toArray := by rw [hnews]
    have hnl : news.length = m * i.size := by rw [hnews, Array.length_toList, size_zeroCells, hzs, ← his]
    have hnil : m = 0 → news = [] := fun h => List.eq_nil_of_length_eq_zero (by rw [hnl, h, Nat.zero_mul])
    rw [← hnews] at hflat
    have tail : Tail P w T T' e ty (sz cx t) (.int k' m) m news := by
      rw [← hisz]
      refine ⟨hnl, reps_one hflat, fun b off sLen sCap hr hc hf => ?_, fun i' z' base sLen sCap olds hi' hz' ho hg h63 hfit => ?_, fun h00 base => ?_⟩
      · have hst := run_storeCells_cells (P := P) b (off + sLen * i.size) news 0 w (by simpa using hc) (by simpa using hf) (reps_one hflat)
        simp only [Nat.add_zero] at hst
        by_cases hm : m = 0
        · have hn0 := hnil hm
          subst hm
          rw [hn0] at hst ⊢
          simp [Builtin.append_, run_underlying hu, run_underlying hu', sizeOf, typeInfo, hi, asInt, asIntOf, hw0, (show sLen ≤ sCap by omega), add_at, hst]
        · have hmz : ¬ (m * i.size = 0) := Nat.mul_ne_zero hm hin
          simp [Builtin.append_, run_underlying hu, run_underlying hu', sizeOf, typeInfo, zeroValue, hi, hz, asInt, asIntOf, hw, hneg, hbig, hr, hmz, hna, add_at, hst]
      · rw [hi] at hi'; simp at hi'; subst hi'
        rw [hz] at hz'; simp at hz'; subst hz'
        have hn : ¬ (sLen + m ≤ sCap) := by omega
        have h63' : ¬ (9223372036854775807 < ((sLen : Int) + (m : Int))) := by omega
        have h48' : ¬ (281474976710656 < Builtin.nextslicecap (sLen + m) sCap * i.bytes) := by omega
        by_cases hm : m = 0
        · have hn0 := hnil hm
          subst hm
          rw [hn0]
          simp only [Nat.add_zero] at hn h63' h48' ⊢
          have h63'' : ¬ (9223372036854775807 < (sLen : Int)) := by omega
          simp [Builtin.append_, run_underlying hu, run_underlying hu', sizeOf, typeInfo, zeroValue, hi, hz, asInt, asIntOf, hw0, hn, h63'', h48', Question.forced, ho, newRow, grownCap]
        · have hmz : ¬ (m * i.size = 0) := Nat.mul_ne_zero hm hin
          simp [Builtin.append_, run_underlying hu, run_underlying hu', sizeOf, typeInfo, zeroValue, hi, hz, asInt, asIntOf, hw, hneg, hbig, hn, h63', h48', Question.forced, ho, newRow, grownCap, hmz, hna]
          congr 2
          apply Array.ext'
          simp [List.append_assoc]
      · subst h00
        have hnl := hnil rfl
        cases base <;> simp [Builtin.append_, run_underlying hu, run_underlying hu', sizeOf, typeInfo, hi, asInt, asIntOf, hw0, storeCells]
    obtain ⟨u, w', k1, k2⟩ := appendL_sound (ty := ty) ok hs hu he hty hp (ys := List.replicate m (t.zero cx)) (news := news) (by simpa using tail) hflat h
    exact ⟨u, w', k1, k2⟩
  · rename_i _ q e2 hT'
    obtain ⟨d', hu', hd⟩ := tyDesc ok hT'
    have hd : d' = .slice e2 := hd
    subst hd
    split at h
    · rename_i ys hl
      obtain ⟨F1, h1, h2, h3, h4, _⟩ := hs.lent hq
      obtain ⟨news, n1, n2⟩ := src_of (T' := T') ok hu' (listOf_rep hl h3)
      obtain ⟨_, ⟨i, z, hi, his, hib, hz, _, hzs, _, hzt, _⟩, _, _⟩ := ok.ty e te he
      have hisz : i.size = sz cx t := by rw [his, (hzt t hty).1]
      obtain ⟨u, w', k1, k2⟩ := appendL_sound (ty := ty) ok h1 hu he hty (h4 p v hp) (Tail.ofSrc hu hi hisz n1) n2 h
      exact ⟨u, w', k1, .after h2 k2⟩
    · simp at h
  · simp at h

end Go.Am

/-! Makes, boxes, literals. -/
namespace Go.Am
variable {D : Nat → Type} {R : Type} {cx : Cx D} {N : Nat} {s : St D} {β : Beta} {F : Nat → Prop} {a : Act} {w w' : World} {P : Program}

theorem made_zero (z : Array Value) (n m : Nat) (h : z.size = m) : madeCells z (n * m) = Builtin.zeroCells z n := by
  subst h; rfl

theorem zero_get (ok : CxOk cx P) {t : Ty} {z : Array Value} (hz : All2 (Rep F w) z.toList (deep cx t (t.zero cx))) (hsz : 0 < sz cx t) {n m : Nat} (hnm : n ≤ m) :
    ∀ i x j y, (List.replicate n (t.zero cx))[i]? = some x → (deep cx t x)[j]? = some y → ∃ u, (Builtin.zeroCells z m)[i * sz cx t + j]? = some u ∧ Rep F w u y := by
  intro i x j y hx hy
  have hi : i < n := by have := (List.getElem?_eq_some_iff.1 hx).1; simpa using this
  have hx' : (List.replicate m (t.zero cx))[i]? = some x := by
    rw [List.getElem?_replicate] at hx ⊢
    rw [if_pos (by omega)]
    rw [if_pos hi] at hx; exact hx
  obtain ⟨u, hu, hr⟩ := flat_get ok _ _ i x (zeroCells_flat ok hz hsz m) hx' j y hy
  exact ⟨u, by simpa using hu, hr⟩

theorem makeRow_sound (ok : CxOk cx P) (hs : SRep cx N s β F a w) {T : TypeId} {kl kc : IntKind} {n c : Int} {nm : Nat} {K : PV D → St D → Option R} {r : R} (h : makeRow cx T n c nm s K = some r) :
    ∃ u w', (Instr.makeSlice T (.int kl n) (.int kc c)).run P w = .ok u w' ∧ Res cx N s β F a w (fun p s' => K p s' = some r) u w' := by
  unfold makeRow at h
  split at h
  · rename_i t bytes hTI
    obtain ⟨hn, h⟩ := chk_some h
    obtain ⟨hb, hK⟩ := chk_some h
    clear h
    simp only [Bool.and_eq_true, decide_eq_true_eq] at hb
    obtain ⟨⟨h0, hnc⟩, hmax⟩ := hb
    obtain ⟨e, te, hu, he, hty, rfl⟩ := elemTI_some ok hTI
    obtain ⟨_, ⟨i, z, hi, his, hib, hz, _, hzs, _, hzt, _⟩, _, _⟩ := ok.ty e te he
    obtain ⟨g1, g2, g3, g4⟩ := hzt t hty
    obtain ⟨m, rfl⟩ := Int.eq_ofNat_of_zero_le h0
    obtain ⟨k, rfl⟩ := Int.eq_ofNat_of_zero_le (show 0 ≤ c by omega)
    simp only [Int.toNat_natCast] at hK
    have hmax' : k * te.bytes ≤ 140737488355328 := by
      have : ((k * te.bytes : Nat) : Int) ≤ 140737488355328 := by rw [Int.natCast_mul]; exact hmax
      omega
    have hk1 : k ≤ k * te.bytes := Nat.le_mul_of_pos_right _ g3
    have hb : (i.bytes : Int) * (k : Int) ≤ 281474976710656 := by rw [hib, ← Int.natCast_mul, Nat.mul_comm]; omega
    have hr := run_make (P := P) w T e i z hu hi hz kl kc m k h0 hnc hb (by omega)
    refine ⟨_, _, hr, ?_⟩
    simp only [Int.toNat_natCast]
    rw [made_zero _ _ _ (by rw [hzs, his])]
    have := Res.newRow (P := fun p s' => K p s' = some r) (cx := cx) (N := N) hs nm t (List.replicate m (t.zero cx)) (Builtin.zeroCells z.cells k) e k (by simpa using hn) (by simp; omega) (by simp [size_zeroCells, hzs, g1])
      (zero_get ok (g4 F w) (by omega) (by omega)) (0, 0) (by simp) (p := .own nm) (v := .slice (some ⟨w.heap.size, 0, none⟩) (List.replicate m (t.zero cx)).length k) (.inl ⟨rfl, rfl⟩) hK
    simpa using this
  · simp at h

theorem alloc_box (ok : CxOk cx P) (hs : SRep cx N s β F a w) {T : TypeId} {ti : TI D} (hT : cx.T T = some ti) {nm : Nat} (hn : s.u nm = false) {Q : PV D → St D → Prop} (hQ : Q (.ptr nm 0) (s.born nm (.box ti.zero))) :
    ∃ u w', (Instr.alloc T true (.tuple #[])).run P w = .ok u w' ∧ Res cx N s β F a w Q u w' := by
  obtain ⟨_, ⟨i, z, hi, his, hib, hz, hzr, hzs, _, hzt, _⟩, hzn, _⟩ := ok.ty T ti hT
  refine ⟨.pointer (some ⟨w.heap.size, 0, none⟩), w.alloc (.cells z.cells T), ?_, ?_⟩
  · simp [Instr.alloc, zeroValue, typeInfo, hi, hz, newVar, newRow]
  · exact Res.newBox hs nm ti.zero z.cells T hn (hzr _ _ _ _) (by simp [hzn]) hQ

theorem alloc_arr (ok : CxOk cx P) (hs : SRep cx N s β F a w) {T e : TypeId} {ti te : TI D} {n : Nat} {t : Ty} (hT : cx.T T = some ti) (hd : ti.desc = .arr n e) (he : cx.T e = some te) (hty : te.ty = some t) {nm : Nat} (hn : s.u nm = false) {Q : PV D → St D → Prop} (hQ : Q (.ptr nm 0) (s.born nm (.row t (List.replicate n (t.zero cx)) true))) :
    ∃ u w', (Instr.alloc T true (.tuple #[])).run P w = .ok u w' ∧ Res cx N s β F a w Q u w' := by
  obtain ⟨_, ⟨i, z, hi, his, hib, hz, hzr, hzs, _, hzt, hza⟩, hzn, _⟩ := ok.ty T ti hT
  refine ⟨.pointer (some ⟨w.heap.size, 0, none⟩), w.alloc (.cells z.cells T), ?_, ?_⟩
  · simp [Instr.alloc, zeroValue, typeInfo, hi, hz, newVar, newRow]
  · have hfl := hza n e te t hd he hty F w
    have hl := hfl.length
    rw [flat_len ok, List.length_replicate] at hl
    refine Res.newRow hs nm t (List.replicate n (t.zero cx)) z.cells T n hn (by simp) (by rw [← Array.length_toList, hl]; exact Nat.le_refl _) (fun i x j y hx hy => ?_) (0, 0) (by simp) (.inr ⟨rfl, rfl, by simp⟩) hQ
    obtain ⟨u, hu, hr⟩ := flat_get ok _ _ i x hfl hx j y hy
    exact ⟨u, by simpa using hu, hr⟩

theorem alloc_sound (ok : CxOk cx P) (hs : SRep cx N s β F a w) {T : TypeId} {nm : Nat} {K : PV D → St D → Option R} {r : R} (h : allocV cx T nm s K = some r) :
    ∃ u w', (Instr.alloc T true (.tuple #[])).run P w = .ok u w' ∧ Res cx N s β F a w (fun p s' => K p s' = some r) u w' := by
  unfold allocV at h
  split at h
  · rename_i ti hT
    obtain ⟨hn, h⟩ := chk_some h
    have hn : s.u nm = false := by simpa using hn
    split at h
    · rename_i n e hd
      split at h
      · rename_i t ht
        obtain ⟨te, he, hty⟩ := Option.bind_eq_some_iff.1 ht
        exact alloc_arr ok hs hT hd he hty hn h
      · exact alloc_box ok hs hT hn h
    · exact alloc_box ok hs hT hn h
  · simp at h

theorem box_sound (ok : CxOk cx P) (hs : SRep cx N s β F a w) {T : TypeId} {q : PV D} {v : Value} (hq : PRep cx (fun m => shO cx (s.o m)) β F w q v) (hqu : ∀ n ∈ names q, s.u n = true) {nm : Nat} {K : PV D → St D → Option R} {r : R} (h : boxV cx T q nm s K = some r) :
    ∃ u w', (Instr.box T v).run P w = .ok u w' ∧ Res cx N s β F a w (fun p s' => K p s' = some r) u w' := by
  unfold boxV at h
  cases hT : cx.T T with
  | none => simp [hT] at h
  | some ti =>
    simp only [hT] at h
    obtain ⟨hn, h⟩ := chk_some h
    have hn : s.u nm = false := by simpa using hn
    refine ⟨.pointer (some ⟨w.heap.size, 0, none⟩), w.alloc (.cells v.cells T), by simp [Instr.box, newVar, newRow], ?_⟩
    have key : chk (Nat.blt 0 ti.size && Nat.beq (cellsOf cx q).length ti.size && (cellsOf cx q).all solid) (K (.ptr nm 0) (s.born nm (.box (cellsOf cx q)))) = some r → Res cx N s β F a w (fun p s' => K p s' = some r) (.pointer (some ⟨w.heap.size, 0, none⟩)) (w.alloc (.cells v.cells T)) := by
      intro h
      obtain ⟨hc, h⟩ := chk_some h
      simp only [Bool.and_eq_true, Nat.blt_eq] at hc
      obtain ⟨⟨hc1, hc2⟩, hc3⟩ := hc
      have hc2 := Nat.eq_of_beq_eq_true hc2
      exact Res.newBox hs nm (cellsOf cx q) v.cells T hn ((PReps_all2 ..).2 (cellsOf_rep ok hc3 (by intro h0; simp [h0] at hc2; omega) hq)) (fun n hn => hqu n (cellsOf_names ok hn)) h
    cases q with
    | arr t xs =>
      obtain ⟨cs, rfl, hfl⟩ := hq
      have hl := hfl.length
      rw [flat_len ok] at hl
      refine Res.newRow hs nm t xs cs T xs.length hn (Nat.le_refl _) (by rw [← Array.length_toList, hl]; exact Nat.le_refl _) (fun i x j y hx hy => ?_) (0, 0) (by simp) (.inr ⟨rfl, rfl, rfl⟩) h
      obtain ⟨u, hu, hr⟩ := flat_get ok _ _ i x hfl hx j y hy
      exact ⟨u, by simpa using hu, hr⟩
    | _ => exact key h

end Go.Am

/-! Literals, copies. -/
namespace Go.Am
variable {D : Nat → Type} {R : Type} {cx : Cx D} {N : Nat} {s : St D} {β : Beta} {F : Nat → Prop} {a : Act} {w w' : World} {P : Program}

theorem fold_set (off : Nat) (vs : Array Value) (c : Array Value) : (vs.zipIdx.foldl (fun cs (x : Value × Nat) => cs.setIfInBounds (off + x.2) x.1) c) = setLs c off vs.toList := by
  have key : ∀ (l : List Value) (s : Nat) (c : Array Value), ((l.zipIdx s).foldl (fun cs (x : Value × Nat) => cs.setIfInBounds (off + x.2) x.1) c) = setLs c (off + s) l := by
    intro l
    induction l with
    | nil => intro s c; rfl
    | cons v l ih => intro s c; simp only [List.zipIdx_cons, List.foldl_cons]; rw [ih]; rfl
  rw [← Array.foldl_toList, Array.toList_zipIdx]
  exact key _ 0 _

theorem fill_sound (ok : CxOk cx P) {S : Nat → Option Sh} {fs : List (Nat × Nat × Bool)} {place : Nat → Option (Nat × Nat)} (hpl : ∀ i off size ag, fs[i]? = some (off, size, ag) → place i = some (off, size) ∧ 0 < size) :
    ∀ (ps : List (Nat × PV D)) (vs : List (Nat × Value)) (cs cs' : List (PV D)) (c : Array Value), All2 (fun p v => p.1 = v.1 ∧ PRep cx S β F w p.2 v.2) ps vs → All2 (PRep cx S β F w) cs c.toList → putAll cx fs ps cs = some cs' →
      ∃ c', Instr.fill place c vs = some c' ∧ All2 (PRep cx S β F w) cs' c'.toList ∧ ∀ n ∈ names.go cs', n ∈ names.go cs ∨ ∃ p ∈ ps, n ∈ names p.2
  | _, _, cs, cs', c, .nil, hc, h => by
    simp [putAll] at h; subst h
    exact ⟨c, rfl, hc, fun n hn => .inl hn⟩
  | (i, p) :: ps, (j, v) :: vs, cs, cs', c, .cons ⟨hij, hp⟩ hps, hc, h => by
    simp only at hij hp
    subst hij
    unfold putAll at h
    split at h
    · rename_i off size ag hf
      obtain ⟨h1, h2⟩ := hpl i off size ag hf
      cases hb : (Nat.beq (cellsOf cx p).length size && (cellsOf cx p).all solid && Nat.ble (off + size) cs.length) with
      | false => simp [hb] at h
      | true =>
        simp only [hb, cond_true] at h
        simp only [Bool.and_eq_true, Nat.ble_eq] at hb
        obtain ⟨⟨b1, b2⟩, b3⟩ := hb
        have b1 := Nat.eq_of_beq_eq_true b1
        have hcr := cellsOf_rep ok b2 (by intro h0; simp [h0] at b1; omega) hp
        have hvl : v.cells.size = size := by have := hcr.length; rw [b1] at this; simpa using this.symm
        have hcl : cs.length = c.size := by have := hc.length; simpa using this
        have hsp := hc.splice hcr off
        have hset := setLs_list v.cells.toList c off (by simp; omega)
        have hc2 : All2 (PRep cx S β F w) (splice cs off (cellsOf cx p)) (setLs c off v.cells.toList).toList := by
          rw [hset]
          exact hsp
        obtain ⟨c', k1, k2, k3⟩ := fill_sound ok hpl ps vs _ cs' _ hps hc2 h
        refine ⟨c', ?_, k2, fun n hn => ?_⟩
        · unfold Instr.fill
          rw [h1]
          simp only
          rw [if_neg (by simp; omega), fold_set]
          exact k1
        · rcases k3 n hn with k | ⟨p', hp', k⟩
          · rcases names_splice k with k | k
            · exact .inl k
            · exact .inr ⟨(i, p), by simp, cellsOf_names ok k⟩
          · exact .inr ⟨p', by simp [hp'], k⟩
    · simp at h


/-- The parts of a literal. -/
theorem parts_rep (hs : SRep cx N s β F a w) (ps : Array (Nat × Operand)) :
    All2 (fun (p : Nat × PV D) (v : Nat × Value) => p.1 = v.1 ∧ PRep cx (fun m => shO cx (s.o m)) β F w p.2 v.2) (ps.toList.map fun (i, x) => (i, ev s x)) (ps.map fun (i, x) => (i, a.eval x)).toList := by
  rw [Array.toList_map]
  induction ps.toList with
  | nil => exact .nil
  | cons p l ih => exact .cons ⟨rfl, hs.ev p.2⟩ ih

theorem places_some {fs : List (Nat × Nat × Bool)} : ∀ {fs : List (Nat × Nat × Bool)} {gs : List Field}, All2 (FieldOk cx P) fs gs → gs.mapM (fun f => (P.info? f.type).map fun i => (f.offset, i.size)) = some (fs.map fun f => (f.1, f.2.1))
  | _, _, .nil => rfl
  | _, _, .cons h k => by
    obtain ⟨i, hi, hsz⟩ := h.size
    simp [List.mapM_cons, hi, hsz, h.off, places_some (fs := fs) k]

theorem buildStruct_sound (ok : CxOk cx P) (hs : SRep cx N s β F a w) {T : TypeId} {ti : TI D} {fs : List (Nat × Nat × Bool)} (hT : cx.T T = some ti) (hd : ti.desc = .struct fs) (ps : Array (Nat × Operand)) {cs : List (PV D)}
    (h : putAll cx fs (ps.toList.map fun (i, x) => (i, ev s x)) ti.zero = some cs) {Q : PV D → St D → Prop} (hQ : Q (.agg cs) s) :
    ∃ u w', (Instr.build T (ps.map fun (i, x) => (i, a.eval x))).run P w = .ok u w' ∧ Res cx N s β F a w Q u w' := by
  obtain ⟨⟨d, hu, hdd, _⟩, ⟨i, z, hi, his, hib, hz, hzr, hzs, _, hzt, hza⟩, hzn, _⟩ := ok.ty T ti hT
  rw [hd] at hdd
  obtain ⟨gs, rfl, hfs⟩ := hdd
  have hpl : ∀ (i off size : Nat) (ag : Bool), fs[i]? = some (off, size, ag) → (fun i => (fs.map fun f => (f.1, f.2.1)).toArray[i]?) i = some (off, size) ∧ 0 < size := by
    intro i off size ag hf
    refine ⟨by simp [hf], ?_⟩
    obtain ⟨g, _, hg⟩ := hfs.get i _ hf
    exact hg.pos
  obtain ⟨c', k1, k2, k3⟩ := fill_sound ok hpl _ _ _ _ z.cells (parts_rep hs ps) ((PReps_all2 ..).1 (hzr _ _ _ _)) h
  have hb : P.built T (ps.map fun (i, x) => (i, a.eval x)).toList = some c' := by
    simp only [Program.built, hi, hu, hz, places_some (fs := fs) hfs]
    exact k1
  refine ⟨_, w, run_build w T _ c' hb, .same (p := .agg cs) hs ⟨c', rfl, (PReps_all2 ..).2 k2⟩ (fun n hn => ?_) hQ⟩
  rcases k3 n hn with k | ⟨p, hp, k⟩
  · simp [hzn] at k
  · simp only [List.mem_map] at hp
    obtain ⟨x, _, rfl⟩ := hp
    exact hs.evU x.2 n k

theorem CI_solid {p : PV D} {x : IV} (h : CI cx (settle s p) x) : solid p = true := by
  cases p <;> first | rfl | exact h.elim

theorem All2.mem {α β : Type} {Rl : α → β → Prop} {l : List α} {m : List β} (h : All2 Rl l m) {a : α} (ha : a ∈ l) : ∃ b, Rl a b := by
  obtain ⟨i, hi⟩ := List.getElem?_of_mem ha
  obtain ⟨b, _, hb⟩ := h.get i a hi
  exact ⟨b, hb⟩

/-- Elements, settled. -/
theorem elems_rep (ok : CxOk cx P) (hs : SRep cx N s β F a w) {t : Ty} (hsz : 0 < sz cx t) {F' : Nat → Prop} (hF : ∀ b, F b → F' b) : ∀ (qs : List (PV D)) (vs : List Value) (xs : List (t.den D)), All2 (PRep cx (fun m => shO cx (s.o m)) β F w) qs vs →
    (∀ p ∈ qs.flatMap (cellsOf cx), ∀ o, (p = .own o ∨ ∃ lo n, p = .view o lo n) → ∀ b, frzF s β F o b → F' b) → decAll cx t (qs.map fun q => (cellsOf cx q).map (settle s)) = some xs →
      vs.length = xs.length ∧ ∀ (i : Nat) v x, vs[i]? = some v → xs[i]? = some x → All2 (Rep F' w) v.cells.toList (deep cx t x)
  | _, _, xs, .nil, _, h => by simp [decAll] at h; subst h; simp
  | q :: qs, v :: vs, xs, .cons hq hqs, hf, h => by
    simp only [List.map_cons, decAll] at h
    split at h
    · simp at h
    · rename_i x hx
      split at h
      · simp at h
      · rename_i ys hy
        simp at h; subst h
        obtain ⟨k1, k2⟩ := elems_rep ok hs hsz hF qs vs ys hqs (fun p hp => hf p (by simp only [List.flatMap_cons, List.mem_append]; exact .inr hp)) hy
        refine ⟨by simp [k1], fun i u y hu hy' => ?_⟩
        cases i with
        | succ i => exact k2 i u y (by simpa using hu) (by simpa using hy')
        | zero =>
          simp at hu hy'; subst hu hy'
          have hci := decC_ok ok t _ _ hx
          have hsol : (cellsOf cx q).all solid = true := by
            rw [List.all_eq_true]
            intro p hp
            obtain ⟨y, hy⟩ := hci.mem (List.mem_map_of_mem hp)
            exact CI_solid hy
          have hne : cellsOf cx q ≠ [] := by
            intro h0
            have := hci.length
            rw [deep_len ok, h0] at this
            simp at this; omega
          have hc := cellsOf_rep ok hsol hne hq
          have hst := hs.settledAll hc hF (fun _ => rfl) (fun p hp => hf p (by simp only [List.flatMap_cons, List.mem_append]; exact .inl hp))
          exact All2.comp (R := CI cx) (S := PRep cx (fun m => shO cx (s.o m)) β F' w) (U := fun x v => Rep F' w v x) (fun a b c h1 h2 => Rep_of_PRep h1 h2) hci hst |>.flip

/-- Parts, densely. -/
theorem zip_parts (k : Nat) : ∀ (l : List (Nat × Value)) (n i0 : Nat), l.map (·.1) = (List.range' i0 n) → l = ((l.map (·.2)).zipIdx i0).map fun x => (x.2, x.1)
  | [], _, _, _ => rfl
  | (i, v) :: l, 0, i0, h => by simp at h
  | (i, v) :: l, n + 1, i0, h => by
    simp only [List.map_cons, List.range'_succ, List.cons.injEq] at h
    obtain ⟨h1, h2⟩ := h
    subst h1
    simp only [List.map_cons, List.zipIdx_cons]
    rw [← zip_parts k l n (i + 1) h2]

theorem dense_rep (ok : CxOk cx P) {t : Ty} (hsz : 0 < sz cx t) {vs : List Value} {xs : List (t.den D)} {c r : Array Value} (hl : vs.length = xs.length) (hc : c.size = vs.length * sz cx t) (hrs : r.size = c.size)
    (hr : ∀ (i : Nat) v x, vs[i]? = some v → xs[i]? = some x → All2 (Rep F w) v.cells.toList (deep cx t x))
    (hk : ∀ k : Nat, r[k]? = if 0 * sz cx t ≤ k ∧ k < (0 + vs.length) * sz cx t then (vs[k / sz cx t - 0]?).bind (fun v => v.cells[k % sz cx t]?) else c[k]?) : All2 (Rep F w) r.toList (xs.flatMap (deep cx t)) := by
  refine flat_of_get ok _ _ (by simp [hrs, hc, hl]) fun m x hx j y hy => ?_
  have hj : j < sz cx t := by rw [← deep_len ok t x]; exact (List.getElem?_eq_some_iff.1 hy).1
  have hm : m < xs.length := (List.getElem?_eq_some_iff.1 hx).1
  have hv : vs[m]? = some vs[m] := List.getElem?_eq_getElem (by omega)
  obtain ⟨u, hu, hrep⟩ := (hr m _ x hv hx).get' j y hy
  refine ⟨u, ?_, hrep⟩
  have hlt : m * sz cx t + j < vs.length * sz cx t := by
    have : (m + 1) * sz cx t ≤ vs.length * sz cx t := Nat.mul_le_mul_right _ (by omega)
    rw [Nat.add_mul] at this; omega
  have e1 : (m * sz cx t + j) / sz cx t = m := by rw [Nat.mul_comm, Nat.mul_add_div (by omega), Nat.div_eq_of_lt hj]; omega
  have e2 : (m * sz cx t + j) % sz cx t = j := by rw [Nat.mul_comm, Nat.mul_add_mod, Nat.mod_eq_of_lt hj]
  rw [Array.getElem?_toList, hk, if_pos ⟨by omega, by simpa using hlt⟩, e1, e2]
  simp only [Nat.sub_zero, hv, Option.bind_some]
  simpa using hu

theorem dense_fill (ok : CxOk cx P) (hs : SRep cx N s β F a w) {t : Ty} (hsz : 0 < sz cx t) {ps : Array (Nat × Operand)} {n : Nat} {xs : List (t.den D)} (hx : decAll cx t (ps.toList.map fun (_, x) => (cellsOf cx (ev s x)).map (settle s)) = some xs) (hn : ps.toList.map (·.1) = List.range n)
    {c : Array Value} (hc : c.size = n * sz cx t) {F' : Nat → Prop} (hF : ∀ b, F b → F' b) (hf : ∀ p ∈ (ps.toList.flatMap fun (_, x) => cellsOf cx (ev s x)), ∀ o, (p = .own o ∨ ∃ lo n, p = .view o lo n) → ∀ b, frzF s β F o b → F' b) :
    xs.length = n ∧ ∃ r, Instr.fill (fun i => some (i * sz cx t, sz cx t)) c (ps.map fun (i, x) => (i, a.eval x)).toList = some r ∧ r.size = c.size ∧ All2 (Rep F' w) r.toList (xs.flatMap (deep cx t)) := by
  have hq : All2 (PRep cx (fun m => shO cx (s.o m)) β F w) (ps.toList.map fun (_, x) => ev s x) (ps.toList.map fun (_, x) => a.eval x) := by
    induction ps.toList with
    | nil => exact .nil
    | cons p l ih => exact .cons (hs.ev p.2) ih
  obtain ⟨k1, k2⟩ := elems_rep ok hs hsz hF _ _ xs hq (by simpa [List.flatMap_map] using hf) (by simpa [List.map_map, Function.comp_def] using hx)
  have hpl : ps.toList.length = n := by have := congrArg List.length hn; simpa using this
  have hxl : xs.length = n := by rw [← k1]; simpa using hpl
  have hz := zip_parts 0 (ps.map fun (i, x) => (i, a.eval x)).toList n 0 (by rw [Array.toList_map, List.map_map, ← List.range_eq_range', ← hn]; rfl)
  have hvs : (ps.map fun (i, x) => (i, a.eval x)).toList.map (·.2) = ps.toList.map fun (_, x) => a.eval x := by rw [Array.toList_map, List.map_map]; rfl
  rw [hvs] at hz
  obtain ⟨r, r1, r2, r3⟩ := Great.fill_dense hsz (ps.toList.map fun (_, x) => a.eval x) 0 c (fun v hv => by
    obtain ⟨i, hi⟩ := List.getElem?_of_mem hv
    have hil : i < xs.length := by have := (List.getElem?_eq_some_iff.1 hi).1; omega
    have := (k2 i v _ hi (List.getElem?_eq_getElem hil)).length
    rw [deep_len ok] at this
    simpa using this) (by rw [hc, Nat.zero_add, k1, hxl]; exact Nat.le_refl _)
  refine ⟨hxl, r, by rw [hz]; exact r1, r2, dense_rep ok hsz k1 (by rw [hc, k1, hxl]) r2 k2 r3⟩

end Go.Am

/-! Literals of many parts, copies, strings and bytes. -/
namespace Go.Am
variable {D : Nat → Type} {R : Type} {cx : Cx D} {N : Nat} {s : St D} {β : Beta} {F : Nat → Prop} {a : Act} {w w' : World} {P : Program}

theorem tyElem (ok : CxOk cx P) {e : TypeId} {te : TI D} {t : Ty} (he : cx.T e = some te) (hty : te.ty = some t) : ∃ i z, P.info? e = some i ∧ i.zero = some z ∧ i.size = sz cx t ∧ i.bytes = te.bytes ∧ z.cells.size = sz cx t ∧ 0 < sz cx t ∧ 0 < te.bytes := by
  obtain ⟨_, ⟨i, z, hi, his, hib, hz, _, hzs, _, hzt, _⟩, _, _⟩ := ok.ty e te he
  obtain ⟨h1, h2, h3, h4⟩ := hzt t hty
  exact ⟨i, z, hi, hz, by omega, hib, by omega, by omega, h3⟩

theorem buildArr_sound (ok : CxOk cx P) (hs : SRep cx N s β F a w) {T e : TypeId} {ti te : TI D} {n : Nat} {t : Ty} (hT : cx.T T = some ti) (hd : ti.desc = .arr n e) (he : cx.T e = some te) (hty : te.ty = some t) (ps : Array (Nat × Operand)) {xs : List (t.den D)}
    (hx : decAll cx t (ps.toList.map fun (_, x) => (cellsOf cx (ev s x)).map (settle s)) = some xs) (hn : ps.toList.map (·.1) = List.range n) {Q : PV D → St D → Prop} (hQ : Q (.arr t xs) (frzAll s (ps.toList.flatMap fun (_, x) => cellsOf cx (ev s x)))) :
    ∃ u w', (Instr.build T (ps.map fun (i, x) => (i, a.eval x))).run P w = .ok u w' ∧ Res cx N s β F a w Q u w' := by
  obtain ⟨⟨d, hu, hdd, _⟩, ⟨i, z, hi, his, hib, hz, hzr, hzs, _, hzt, hza⟩, hzn, _⟩ := ok.ty T ti hT
  rw [hd] at hdd
  have hdd : d = .array n e := hdd
  subst hdd
  obtain ⟨ie, ze, hie, hze, hies, _, hzes, hsz, _⟩ := tyElem ok he hty
  have hl := (hza n e te t hd he hty F w).length
  rw [flat_len ok, List.length_replicate, Array.length_toList] at hl
  obtain ⟨F1, h1, h2, h3⟩ := hs.frzAll (ps.toList.flatMap fun (_, x) => cellsOf cx (ev s x))
  obtain ⟨hxl, r, r1, r2, r3⟩ := dense_fill ok hs hsz hx hn hl h2.f0 h3
  have hb : P.built T (ps.map fun (i, x) => (i, a.eval x)).toList = some r := by
    simp only [Program.built, hi, hu, hz, hie, hies]
    exact r1
  exact ⟨_, w, run_build w T _ r hb, _, _, _, .arr t xs, h1, ⟨r, rfl, r3⟩, by simp [names], h2, hQ⟩

theorem madeRange (z : Array Value) (n : Nat) : ((Array.range n).map (z[· % z.size]!)).size = n := by simp

theorem buildSlice_sound (ok : CxOk cx P) (hs : SRep cx N s β F a w) {T : TypeId} {n bytes : Nat} {t : Ty} (hT : elemTI cx T = some (t, bytes)) (ps : Array (Nat × Operand)) {xs : List (t.den D)}
    (hx : decAll cx t (ps.toList.map fun (_, x) => (cellsOf cx (ev s x)).map (settle s)) = some xs) (hn : ps.toList.map (·.1) = List.range n) {nm : Nat} (hnm : s.u nm = false) (hmax : n * sz cx t ≤ 16777216)
    {Q : PV D → St D → Prop} (hQ : Q (.own nm) ((frzAll s (ps.toList.flatMap fun (_, x) => cellsOf cx (ev s x))).born nm (.row t xs true))) :
    ∃ u w', (Instr.buildSlice T n (ps.map fun (i, x) => (i, a.eval x))).run P w = .ok u w' ∧ Res cx N s β F a w Q u w' := by
  obtain ⟨e, te, hu, he, hty, rfl⟩ := elemTI_some ok hT
  obtain ⟨ie, ze, hie, hze, hies, _, hzes, hsz, _⟩ := tyElem ok he hty
  obtain ⟨F1, h1, h2, h3⟩ := hs.frzAll (ps.toList.flatMap fun (_, x) => cellsOf cx (ev s x))
  by_cases h0 : n * sz cx t = 0
  · have hn0 : n = 0 := by rcases Nat.mul_eq_zero.1 h0 with h | h <;> omega
    subst hn0
    have hps : ps.toList = [] := by simpa using hn
    have hps : ps = #[] := by rw [← Array.toList_inj]; simpa using hps
    subst hps
    have hx0 : xs = [] := by simp [decAll] at hx; exact hx
    subst hx0
    refine ⟨.slice (some ⟨w.heap.size, 0, none⟩) 0 0, w.alloc (.cells #[] e), by simp [Instr.buildSlice, run_underlying hu, sizeOf, typeInfo, hie, Instr.fill, newRow, Array.range_zero'], ?_⟩
    exact Res.newRow hs nm t [] #[] e 0 hnm (by simp) (by simp) (by simp) (0, 0) (by simp) (.inl ⟨rfl, rfl⟩) (by simpa [frzAll] using hQ)
  · obtain ⟨hxl, r, r1, r2, r3⟩ := dense_fill ok hs hsz hx hn (c := (Array.range (n * ie.size)).map (ze.cells[· % ze.cells.size]!)) (by rw [madeRange, hies]) h2.f0 h3
    refine ⟨_, _, run_buildSlice w T e n _ r ie ze hu hie hze (by rw [hies]; omega) (by rw [hies]; exact h0) (by rw [hies]; rw [hies] at r1; exact r1), .after h2 ?_⟩
    have := Res.newRow (P := Q) (cx := cx) (N := N) h1 nm t xs r e n (by rw [frzAll_u]; exact hnm) (by omega) (by rw [r2, madeRange, hies]; exact Nat.le_refl _) (fun i x j y hx hy => by
      obtain ⟨u, hu, hr⟩ := flat_get ok _ _ i x r3 hx j y hy
      exact ⟨u, by simpa using hu, hr⟩) (0, 0) (by simp) (p := .own nm) (v := .slice (some ⟨w.heap.size, 0, none⟩) xs.length n) (.inl ⟨rfl, rfl⟩) hQ
    rw [hxl] at this
    exact this

theorem flat_rep {α β : Type} {Rl : α → β → Prop} {l : List α} {m : List β} (h : All2 Rl l m) : ∀ n, All2 Rl ((List.replicate n l).flatten) ((List.replicate n m).flatten)
  | 0 => .nil
  | n + 1 => by simp only [List.replicate_succ, List.flatten_cons]; exact h.append (flat_rep h n)

theorem range_flat (z : Array Value) (hz : 0 < z.size) : ∀ n, ((Array.range (n * z.size)).map (z[· % z.size]!)).toList = (List.replicate n z.toList).flatten
  | 0 => by simp
  | n + 1 => by
    rw [List.replicate_succ', List.flatten_append, ← range_flat z hz n]
    apply List.ext_getElem?
    intro k
    rw [List.getElem?_append]
    simp only [Array.toList_map, Array.toList_range, List.getElem?_map, List.length_map, List.length_range]
    split
    · rename_i hk
      rw [List.getElem?_range hk, List.getElem?_range (by rw [Nat.add_mul]; omega)]
    · rename_i hk
      by_cases hk2 : k < (n + 1) * z.size
      · rw [List.getElem?_range hk2]
        have h1 : k - n * z.size < z.size := by rw [Nat.add_mul] at hk2; omega
        have h2 : k % z.size = k - n * z.size := by
          have : k = z.size * n + (k - n * z.size) := by rw [Nat.mul_comm]; omega
          conv => lhs; rw [this]
          rw [Nat.mul_add_mod, Nat.mod_eq_of_lt h1]
        simp [h2, h1]
      · rw [List.getElem?_eq_none (by simp; omega)]
        symm
        simp only [List.flatten_cons, List.flatten_nil, List.append_nil, Option.map_none]
        rw [List.getElem?_eq_none (by rw [Nat.add_mul] at hk2; simp; omega)]

/-- A literal of records that are no plain data: a box. -/
theorem buildBox_sound (ok : CxOk cx P) (hs : SRep cx N s β F a w) {T e : TypeId} {ti te : TI D} {n : Nat} (hT : cx.T T = some ti) (hd : ti.desc = .slice e) (he : cx.T e = some te) (ps : Array (Nat × Operand)) {cs : List (PV D)}
    (h : putAll cx ((List.range n).map fun i => (i * te.size, te.size, false)) (ps.toList.map fun (i, x) => (i, ev s x)) ((List.replicate n te.zero).flatten) = some cs) {nm : Nat} (hnm : s.u nm = false) (hz0 : 0 < te.size) (hn0 : 0 < n) (hmax : n * te.size ≤ 16777216)
    {Q : PV D → St D → Prop} (hQ : Q (.view nm 0 n) (s.born nm (.box cs))) :
    ∃ u w', (Instr.buildSlice T n (ps.map fun (i, x) => (i, a.eval x))).run P w = .ok u w' ∧ Res cx N s β F a w Q u w' := by
  obtain ⟨⟨d, hu, hdd, _⟩, _⟩ := ok.ty T ti hT
  rw [hd] at hdd
  have hdd : d = .slice e := hdd
  subst hdd
  obtain ⟨_, ⟨i, z, hi, his, hib, hz, hzr, hzs, _, _, _⟩, hzn, _⟩ := ok.ty e te he
  have hpl : ∀ (k off size : Nat) (ag : Bool), ((List.range n).map fun i => (i * te.size, te.size, false))[k]? = some (off, size, ag) → (fun k => some (k * i.size, i.size)) k = some (off, size) ∧ 0 < size := by
    intro k off size ag hf
    simp only [List.getElem?_map, Option.map_eq_some_iff, Prod.mk.injEq] at hf
    obtain ⟨q, hq, rfl, rfl, _⟩ := hf
    have : q = k := by
      by_cases hk : k < n
      · rw [List.getElem?_range hk] at hq; exact (Option.some.inj hq).symm
      · rw [List.getElem?_eq_none (by simp; omega)] at hq; simp at hq
    subst this
    exact ⟨by simp [his], hz0⟩
  have hzc : All2 (PRep cx (fun m => shO cx (s.o m)) β F w) ((List.replicate n te.zero).flatten) ((Array.range (n * i.size)).map (z.cells[· % z.cells.size]!)).toList := by
    have e1 : i.size = z.cells.size := by omega
    rw [e1, range_flat z.cells (by omega) n]
    exact flat_rep ((PReps_all2 ..).1 (hzr _ _ _ _)) n
  obtain ⟨c', k1, k2, k3⟩ := fill_sound ok hpl _ _ _ _ _ (parts_rep hs ps) hzc h
  have hne : n * i.size ≠ 0 := by rw [his]; exact Nat.pos_iff_ne_zero.1 (Nat.mul_pos hn0 hz0)
  refine ⟨_, _, run_buildSlice w T e n _ c' i z hu hi hz (by rw [his]; omega) hne k1, ?_⟩
  have hnames : ∀ m ∈ names.go cs, s.u m = true := by
    intro m hm
    rcases k3 m hm with k | ⟨p, hp, k⟩
    · exfalso
      rw [mem_names_go] at k
      obtain ⟨p, hp, k⟩ := k
      simp only [List.mem_flatten, List.mem_replicate] at hp
      obtain ⟨l, ⟨_, rfl⟩, hp⟩ := hp
      have : m ∈ names.go te.zero := mem_names_go.2 ⟨p, hp, k⟩
      rw [hzn] at this; simp at this
    · simp only [List.mem_map] at hp
      obtain ⟨x, _, rfl⟩ := hp
      exact hs.evU x.2 m k
  obtain ⟨s', β', F', p, r1, r2, r3, r4, r5, r6⟩ := Res.newBox (P := fun p s' => p = .ptr nm 0 ∧ s' = s.born nm (.box cs)) hs nm cs c' e hnm ((PReps_all2 ..).2 k2) hnames ⟨rfl, rfl⟩
  subst r5 r6
  refine ⟨_, β', F', .view nm 0 n, r1, ?_, by simpa [names] using r3, r4, hQ⟩
  simp only [PRep, St.born, upd_same, shO] at r2 ⊢
  obtain ⟨b, o0, c, h1, h2⟩ := r2
  simp only [Value.pointer.injEq, Option.some.injEq, Addr.mk.injEq] at h2
  obtain ⟨rfl, rfl, _⟩ := h2
  exact ⟨_, _, c, n, h1, rfl⟩

def Cells (cx : Cx D) (F : Nat → Prop) (w : World) (t : Ty) (v : Value) (ys : List (t.den D)) : Prop :=
  ∃ ad c, v = .slice ad ys.length c ∧ (ad = none → ys = []) ∧ ∃ news : List Value, news.length = ys.length * sz cx t ∧ (∀ d, ad = some d → ∀ (j : Nat) v, news[j]? = some v → w.cell? (d.add j) = some v) ∧ All2 (Rep F w) news (ys.flatMap (deep cx t))

/-- The cells of what is copied, or appended. -/
theorem src_cells (ok : CxOk cx P) (hs : SRep cx N s β F a w) {t : Ty} {q : PV D} {v : Value} {ys : List (t.den D)} (hq : PRep cx (fun m => shO cx (s.o m)) β F w q v) (h : listOf t s q = some ys) : Cells cx F w t v ys := by
  unfold listOf at h
  have lst : ∀ (t' : Ty) (xs : List (t'.den D)), Rep F w v (.list (sz cx t') (xs.map (deep cx t'))) → cast? t' t xs = some ys → Cells cx F w t v ys := fun t' xs hr hc => by
    obtain ⟨rfl, rfl⟩ := cast?_some hc
    rcases Rep.list_shape hr with ⟨rfl, h0⟩ | ⟨ad, c, rfl⟩
    · simp at h0; subst h0; exact ⟨none, 0, rfl, fun _ => rfl, [], by simp, by simp, .nil⟩
    · have hr' : Rep F w (.slice (some ad) xs.length c) (.list (sz cx t') (xs.map (deep cx t'))) := PRep_list (S := fun _ => none) (β := fun _ => none) hr
      obtain ⟨_, _, news, n1, n2, n3⟩ := hr'.flat ok
      exact ⟨some ad, c, by simp, by simp, news, n1, fun d hd => by simp at hd; subst hd; exact n2, n3⟩
  have emp : ∀ ad, v = .slice ad 0 0 → ys = [] → Cells cx F w t v ys := by
    rintro ad rfl rfl
    exact ⟨ad, 0, rfl, fun _ => rfl, [], by simp, by simp, .nil⟩
  cases q with
  | own o =>
    simp only [settle] at h
    cases ho : s.o o with
    | none => simp [ho] at h
    | some ob => cases ob with
      | box cs => simp [ho] at h
      | row t' xs l =>
        simp only [ho] at h
        obtain ⟨rfl, rfl⟩ := cast?_some h
        simp only [PRep, ho, shO] at hq
        rcases hs.hp.row o t' xs l ho with ⟨h3, h4⟩ | ⟨b, off, cap, c, e', fr, hβ, hR⟩
        · subst h4; rw [h3] at hq; obtain ⟨ad, hq⟩ := hq; exact emp ad hq rfl
        · rw [hβ] at hq; simp only [rowV] at hq; subst hq
          obtain ⟨olds, k1, k2, k3, k4⟩ := hR.flat ok 0 xs.length (by omega)
          exact ⟨_, _, rfl, by simp, olds, k1, fun d hd j v hj => by simp at hd; subst hd; rw [add_at]; have := k3 j v hj; simpa using this, by simpa using k4⟩
  | view o lo n =>
    simp only [settle] at h
    cases ho : s.o o with
    | none => simp [ho] at h
    | some ob => cases ob with
      | box cs => simp [ho] at h
      | row t' xs l =>
        simp only [ho] at h
        obtain ⟨rfl, rfl⟩ := cast?_some h
        simp only [PRep, ho, shO] at hq
        obtain ⟨hle, hq⟩ := hq
        rcases hs.hp.row o t' xs l ho with ⟨h3, h4⟩ | ⟨b, off, cap, c, e', fr, hβ, hR⟩
        · subst h4; rw [h3] at hq; simp at hle; obtain ⟨rfl, rfl⟩ := hle; obtain ⟨ad, hq⟩ := hq; exact emp ad hq (by simp)
        · rw [hβ] at hq
          obtain ⟨off', rfl, hoff⟩ := hq
          have hlc := hR.lecap
          obtain ⟨olds, k1, k2, k3, k4⟩ := hR.flat ok lo n hle
          have hl : ((xs.drop lo).take n).length = n := by simp; omega
          refine ⟨_, _, by simp only; rw [hl], by simp, olds, by simp only; rw [hl]; exact k1, fun d hd j v hj => ?_, k4⟩
          simp at hd; subst hd
          rcases hoff with rfl | ⟨rfl, _⟩
          · rw [add_at]; exact k3 j v hj
          · have hn0 : n = 0 := by omega
            subst hn0
            have : olds = [] := by simpa using k1
            subst this
            simp at hj
  | list t' xs =>
    simp only [settle] at h
    exact lst t' xs hq h
  | full t' xs =>
    simp only [settle] at h
    exact lst t' xs hq.2 h
  | opt t' xs b =>
    simp only [settle] at h
    exact lst t' xs hq.2 h
  | nil =>
    simp [settle] at h; subst h
    exact emp none hq rfl
  | _ => simp [settle] at h


theorem RowAt.over (ok : CxOk cx P) {t : Ty} {xs ys : List (t.den D)} {l : Bool} {b off cap : Nat} {c : Array Value} {e : TypeId} {fr : Nat × Nat} (hR : RowAt cx F w t xs l b off cap c e fr) {lo m off' : Nat} {news : List Value}
    (hle : lo + m ≤ xs.length) (hm : ys.length = m) (hn : All2 (Rep F w) news (ys.flatMap (deep cx t))) (hoff : off' = off + lo * sz cx t ∨ m = 0) (hfit : off' + news.length ≤ c.size) :
    ∀ (i : Nat) x (j : Nat) y, (xs.take lo ++ ys ++ xs.drop (lo + m))[i]? = some x → (deep cx t x)[j]? = some y → ∃ u, (setLs c off' news)[off + (i * sz cx t + j)]? = some u ∧ Rep F w u y := by
  intro i x j y hx hy
  have hj : j < sz cx t := by rw [← deep_len ok t x]; exact (List.getElem?_eq_some_iff.1 hy).1
  have hnl : news.length = m * sz cx t := by rw [hn.length, flat_len ok, hm]
  have hcs := hR.size
  have hcap := hR.lecap
  have hset := setLs_list news c off' hfit
  have hget : ∀ q : Nat, (setLs c off' news)[q]? = (c.toList.take off' ++ news ++ c.toList.drop (off' + news.length))[q]? := by
    intro q; rw [← hset]; simp
  rw [hget]
  rcases Nat.eq_zero_or_pos m with h0 | h0
  · have hy0 : ys = [] := List.eq_nil_of_length_eq_zero (by omega)
    have hn0 : news = [] := List.eq_nil_of_length_eq_zero (by rw [hnl, h0]; simp)
    subst hy0 hn0
    subst h0
    simp only [List.append_nil, List.length_nil, Nat.add_zero, List.take_append_drop] at hx ⊢
    obtain ⟨u, hu, hr⟩ := hR.cell i x j y hx hy
    exact ⟨u, by simpa using hu, hr⟩
  have hoff : off' = off + lo * sz cx t := by rcases hoff with h | h <;> omega
  subst hoff
  have hsm : (lo + m) * sz cx t ≤ xs.length * sz cx t := Nat.mul_le_mul_right _ hle
  have hsc : xs.length * sz cx t ≤ cap * sz cx t := Nat.mul_le_mul_right _ hcap
  rw [Nat.add_mul] at hsm
  by_cases h1 : i < lo
  · rw [List.getElem?_append_left (by simp; omega), List.getElem?_append_left (by simp; omega), List.getElem?_take, if_pos h1] at hx
    obtain ⟨u, hu, hr⟩ := hR.cell i x j y hx hy
    refine ⟨u, ?_, hr⟩
    have : (i + 1) * sz cx t ≤ lo * sz cx t := Nat.mul_le_mul_right _ h1
    rw [Nat.add_mul] at this
    rw [List.getElem?_append_left (by simp; omega), List.getElem?_append_left (by simp; omega), List.getElem?_take, if_pos (by omega), Array.getElem?_toList, hu]
  · by_cases h2 : i < lo + m
    · rw [List.getElem?_append_left (by simp; omega), List.getElem?_append_right (by simp; omega)] at hx
      have hxl : (xs.take lo).length = lo := by simp; omega
      rw [hxl] at hx
      obtain ⟨u, hu, hr⟩ := flat_get ok _ _ (i - lo) x hn hx j y hy
      refine ⟨u, ?_, hr⟩
      have hlt := (List.getElem?_eq_some_iff.1 hu).1
      have e1 : (i - lo) * sz cx t = i * sz cx t - lo * sz cx t := Nat.sub_mul _ _ _
      have e2 : lo * sz cx t ≤ i * sz cx t := Nat.mul_le_mul_right _ (by omega)
      rw [List.getElem?_append_left (by simp; omega), List.getElem?_append_right (by simp; omega), ← hu]
      congr 1; simp; omega
    · have hil : (xs.take lo ++ ys).length = lo + m := by simp; omega
      rw [List.getElem?_append_right (by omega), hil, List.getElem?_drop] at hx
      rw [show lo + m + (i - (lo + m)) = i by omega] at hx
      obtain ⟨u, hu, hr⟩ := hR.cell i x j y hx hy
      refine ⟨u, ?_, hr⟩
      have : (lo + m) * sz cx t ≤ i * sz cx t := Nat.mul_le_mul_right _ (by omega)
      rw [Nat.add_mul] at this
      rw [List.getElem?_append_right (by simp; omega), List.getElem?_drop, Array.getElem?_toList, ← hu]
      congr 1; simp; omega

theorem copy_at (ok : CxOk cx P) (hs : SRep cx N s β F a w) {T T' ty e : TypeId} {te : TI D} {t : Ty} (hu : P.underlying T = some (.slice e)) (he : cx.T e = some te) (hty : te.ty = some t) {o b off cap off' n c' lo : Nat} {xs ys : List (t.den D)} {c : Array Value} {e' : TypeId} {fr : Nat × Nat}
    (ho : s.o o = some (.row t xs true)) (hβ : β o = some (b, off, cap)) (hR : RowAt cx F w t xs true b off cap c e' fr) (hle : lo + n ≤ xs.length) (hoff : off' = off + lo * sz cx t ∨ (lo = cap ∧ off' ≤ off + lo * sz cx t)) {x : Value} (hx : Cells cx F w t x ys) {K : PV D → St D → Option R} {r : R}
    (h : K (.int .i64 (min ys.length n : Nat)) (s.setO o (.row t (xs.take lo ++ ys.take (min ys.length n) ++ xs.drop (lo + min ys.length n)) true)) = some r) :
    ∃ u w', (Builtin.copy_ #[T, T'] ty #[.slice (some ⟨b, off', none⟩) n c', x]).run P w = .ok u w' ∧ Res cx N s β F a w (fun p s' => K p s' = some r) u w' := by
  obtain ⟨ie, ze, hie, hze, hies, _, hzes, hsz, _⟩ := tyElem ok he hty
  obtain ⟨ad, cx', rfl, hnil, news, n1, n2, n3⟩ := hx
  obtain ⟨m, hm⟩ : ∃ m, m = min ys.length n := ⟨_, rfl⟩
  rw [← hm] at h
  have hmn : Nat.min ys.length n = m := hm.symm
  have hnews : news = news.take (m * sz cx t) ++ news.drop (m * sz cx t) := (List.take_append_drop _ _).symm
  have hn3 : All2 (Rep F w) (news.take (m * sz cx t)) ((ys.take m).flatMap (deep cx t)) := by
    have h1 := n3.take (m * sz cx t)
    have h2 : (ys.flatMap (deep cx t)).take (m * sz cx t) = (ys.take m).flatMap (deep cx t) := by
      conv => lhs; rw [← List.take_append_drop m ys, List.flatMap_append]
      rw [List.take_append_of_le_length (by rw [flat_len ok]; simp; rw [Nat.min_eq_left (by omega)]; exact Nat.le_refl _), List.take_of_length_le (by rw [flat_len ok]; simp; exact Nat.mul_le_mul_right _ (by omega))]
    rwa [h2] at h1
  have hlen : (news.take (m * sz cx t)).length = m * sz cx t := by
    have : m * sz cx t ≤ ys.length * sz cx t := Nat.mul_le_mul_right _ (by omega)
    simp; omega
  have hfirst : (Builtin.firstCells (sz cx t) m (.slice ad ys.length cx')).run P w = .ok (news.take (m * sz cx t)).toArray w := by
    cases ad with
    | none =>
      have := hnil rfl
      subst this
      have : m = 0 := by simp at hm; omega
      subst this
      simp [Builtin.firstCells]
    | some d =>
      exact run_firstCells_some w _ _ _ _ _ (news.take (m * sz cx t)) hlen (fun j v hj => n2 d rfl j v (by rw [List.getElem?_take] at hj; split at hj <;> first | exact hj | simp at hj))
  have hcs := hR.size
  have hcap := hR.lecap
  have hfit : off' + (news.take (m * sz cx t)).length ≤ c.size := by
    rw [hlen]
    have h1 : (lo + m) * sz cx t ≤ cap * sz cx t := Nat.mul_le_mul_right _ (by omega)
    rw [Nat.add_mul] at h1
    rcases hoff with rfl | ⟨rfl, _⟩ <;> omega
  obtain ⟨w1, hrun1, hw1⟩ := storeCells_run (P := P) b off' e' fr (news.take (m * sz cx t)) 0 w c hR.at_ (reps_one hn3) (by simpa using hfit) hR.free
  simp only [Nat.add_zero] at hw1
  have hset := hs.rowSet ho hβ hw1 (ys := xs.take lo ++ ys.take m ++ xs.drop (lo + m)) (by simp; omega) hR (setLs_size _ _ _) (hR.over ok (by omega) (by simp; omega) hn3 (by
    rcases hoff with h | ⟨h5, _⟩
    · exact .inl h
    · right; omega) hfit)
  refine ⟨goInt m, w1, ?_, _, _, _, .int .i64 m, hset.1, rfl, by simp [names], hset.2, h⟩
  simp [Builtin.copy_, run_underlying hu, Builtin.lenOf, hmn, sizeOf, typeInfo, hie, hies, hfirst, hrun1]

theorem copy_sound (ok : CxOk cx P) (hs : SRep cx N s β F a w) {T T' ty : TypeId} {t0 : Ty} {bytes : Nat} (hTI : elemTI cx T = some (t0, bytes)) {p q : PV D} {v x : Value} (hp : PRep cx (fun m => shO cx (s.o m)) β F w p v) (hq : PRep cx (fun m => shO cx (s.o m)) β F w q x)
    {K : PV D → St D → Option R} {r : R} (h : copyV t0 p q s K = some r) :
    ∃ u w', (Builtin.copy_ #[T, T'] ty #[v, x]).run P w = .ok u w' ∧ Res cx N s β F a w (fun p s' => K p s' = some r) u w' := by
  obtain ⟨e, te, hu, he, hty, rfl⟩ := elemTI_some ok hTI
  obtain ⟨ie, ze, hie, hze, hies, _, hzes, hsz, _⟩ := tyElem ok he hty
  unfold copyV at h
  have zero : ∀ (o : Nat) (t : Ty) (xs ys : List (t.den D)) ad, s.o o = some (.row t xs true) → v = .slice ad 0 0 → Cells cx F w t x ys → K (.int .i64 (0 : Nat)) s = some r →
      ∃ u w', (Builtin.copy_ #[T, T'] ty #[v, x]).run P w = .ok u w' ∧ Res cx N s β F a w (fun p s' => K p s' = some r) u w' := by
    rintro o t xs ys ad ho rfl ⟨d, c, rfl, hnil, _⟩ hK
    have hm : Nat.min ys.length 0 = 0 := Nat.min_eq_right (Nat.zero_le _)
    refine ⟨goInt 0, w, ?_, .same (p := .int .i64 (0 : Nat)) hs rfl (by simp [names]) hK⟩
    cases d <;> cases ad <;> simp [Builtin.copy_, run_underlying hu, Builtin.lenOf, sizeOf, typeInfo, hie, Builtin.firstCells, loadCells, loadCellsFrom, storeCells]
  have setSame : ∀ (o : Nat) (t : Ty), s.o o = some (.row t [] true) → s.setO o (.row t [] true) = s := by
    intro o t ho
    have : upd s.o o (some (.row t [] true)) = s.o := by
      funext i
      by_cases hi : i = o
      · subst hi; rw [upd_same, ho]
      · rw [upd_ne _ _ _ _ hi]
    cases s; simp only [St.setO] at this ⊢; rw [this]
  split at h
  · rename_i o
    split at h
    · rename_i t xs ho
      obtain ⟨htt, h9⟩ := chk_some h
      clear h
      · split at h9
        · rename_i ys hl
          have h := h9
          have hc := src_cells ok hs hq hl
          simp only [PRep, ho, shO] at hp
          have htt : t = t0 := by simpa using htt
          subst htt
          rcases hs.hp.row o t xs true ho with ⟨h3, h4⟩ | ⟨b, off, cap, c, e', fr, hβ, hR⟩
          · subst h4
            rw [h3] at hp
            obtain ⟨ad, hp⟩ := hp
            simp at h
            rw [setSame o t ho] at h
            exact zero o t [] ys ad ho hp hc h
          · rw [hβ] at hp
            simp only [rowV] at hp
            subst hp
            exact copy_at (lo := 0) ok hs hu he hty ho hβ hR (by omega) (.inl (by simp)) hc (by simpa using h)
        · simp at h9
    · simp at h
  · rename_i o lo n
    split at h
    · rename_i t xs ho
      obtain ⟨htt, h9⟩ := chk_some h
      clear h
      · split at h9
        · rename_i ys hl
          have h := h9
          have hc := src_cells ok hs hq hl
          simp only [PRep, ho, shO] at hp
          have htt : t = t0 := by simpa using htt
          subst htt
          obtain ⟨hle, hp⟩ := hp
          rcases hs.hp.row o t xs true ho with ⟨h3, h4⟩ | ⟨b, off, cap, c, e', fr, hβ, hR⟩
          · subst h4
            rw [h3] at hp
            obtain ⟨ad, hp⟩ := hp
            simp at hle
            obtain ⟨rfl, rfl⟩ := hle
            simp at h
            rw [setSame o t ho] at h
            exact zero o t [] ys ad ho hp hc h
          · rw [hβ] at hp
            obtain ⟨off', rfl, hoff⟩ := hp
            exact copy_at ok hs hu he hty ho hβ hR hle hoff hc h
        · simp at h9
    · simp at h
  · simp at h


theorem clear_sound (ok : CxOk cx P) (hs : SRep cx N s β F a w) {T ty : TypeId} {t0 : Ty} {bytes : Nat} (hTI : elemTI cx T = some (t0, bytes)) {p : PV D} {v : Value} (hp : PRep cx (fun m => shO cx (s.o m)) β F w p v)
    {K : PV D → St D → Option R} {r : R} (h : clearV cx t0 p s K = some r) :
    ∃ u w', (Builtin.clear_ #[T] ty #[v]).run P w = .ok u w' ∧ Res cx N s β F a w (fun p s' => K p s' = some r) u w' := by
  obtain ⟨e, te, hu, he, hty, rfl⟩ := elemTI_some ok hTI
  obtain ⟨_, ⟨i, z, hi, his, hib, hz, _, hzs, _, hzt, _⟩, _, _⟩ := ok.ty e te he
  obtain ⟨g1, g2, g3, g4⟩ := hzt t0 hty
  have setSame : ∀ (o : Nat) (t : Ty) (xs : List (t.den D)), s.o o = some (.row t xs true) → s.setO o (.row t xs true) = s := by
    intro o t xs ho
    have : upd s.o o (some (.row t xs true)) = s.o := by
      funext i
      by_cases hi : i = o
      · subst hi; rw [upd_same, ho]
      · rw [upd_ne _ _ _ _ hi]
    cases s; simp only [St.setO] at this ⊢; rw [this]
  have zero : ∀ ad c, v = .slice ad 0 c → K (.tup []) s = some r → ∃ u w', (Builtin.clear_ #[T] ty #[v]).run P w = .ok u w' ∧ Res cx N s β F a w (fun p s' => K p s' = some r) u w' := by
    rintro ad c rfl hK
    refine ⟨.tuple #[], w, ?_, .same (p := .tup []) hs ⟨#[], rfl, trivial⟩ (by simp [names, names.go]) hK⟩
    cases ad <;> simp [Builtin.clear_, run_underlying hu]
  unfold clearV at h
  split at h
  · rename_i o lo n
    split at h
    · rename_i t xs ho
      obtain ⟨htt, h9⟩ := chk_some h
      clear h
      have h := h9
      clear h9
      have htt : t = t0 := by simpa using htt
      subst htt
      simp only [PRep, ho, shO] at hp
      obtain ⟨hle, hp⟩ := hp
      rcases hs.hp.row o t xs true ho with ⟨h3, h4⟩ | ⟨b, off, cap, c, e', fr, hβ, hR⟩
      · subst h4
        rw [h3] at hp
        obtain ⟨ad, hp⟩ := hp
        simp at hle
        obtain ⟨rfl, rfl⟩ := hle
        simp at h
        rw [setSame o t _ ho] at h
        exact zero ad 0 hp h
      · rw [hβ] at hp
        obtain ⟨off', rfl, hoff⟩ := hp
        by_cases hn : n = 0
        · subst hn
          simp only [List.replicate_zero, List.append_nil, Nat.add_zero, List.take_append_drop] at h
          rw [setSame o t _ ho] at h
          exact zero _ _ rfl h
        · have hcap := hR.lecap
          have hcs := hR.size
          have hoff : off' = off + lo * sz cx t := by
            rcases hoff with h5 | ⟨h5, _⟩
            · exact h5
            · omega
          subst hoff
          have hzl : (Builtin.zeroCells z.cells n).toList = (List.replicate n z.cells.toList).flatten := range_flat z.cells (by omega) n
          have hn3 : All2 (Rep F w) (Builtin.zeroCells z.cells n).toList ((List.replicate n (t.zero cx)).flatMap (deep cx t)) := by
            rw [hzl]
            have := flat_rep (g4 F w) n
            rwa [show (List.replicate n (t.zero cx)).flatMap (deep cx t) = (List.replicate n (deep cx t (t.zero cx))).flatten by rw [List.flatMap_def, List.map_replicate]]
          have hlen : (Builtin.zeroCells z.cells n).toList.length = n * sz cx t := by
            rw [hn3.length, flat_len ok, List.length_replicate]
          have hfit : off + lo * sz cx t + (Builtin.zeroCells z.cells n).toList.length ≤ c.size := by
            rw [hlen]
            have h1 : (lo + n) * sz cx t ≤ cap * sz cx t := Nat.mul_le_mul_right _ (by omega)
            rw [Nat.add_mul] at h1
            omega
          obtain ⟨w1, hrun1, hw1⟩ := storeCells_run (P := P) b (off + lo * sz cx t) e' fr (Builtin.zeroCells z.cells n).toList 0 w c hR.at_ (reps_one hn3) (by simpa using hfit) hR.free
          simp only [Nat.add_zero] at hw1
          have hset := hs.rowSet ho hβ hw1 (ys := xs.take lo ++ List.replicate n (t.zero cx) ++ xs.drop (lo + n)) (by simp; omega) hR (setLs_size _ _ _) (hR.over ok (by omega) (by simp) hn3 (.inl rfl) hfit)
          refine ⟨.tuple #[], w1, ?_, _, _, _, .tup [], hset.1, ⟨#[], rfl, trivial⟩, by simp [names, names.go], hset.2, h⟩
          obtain ⟨m, rfl⟩ : ∃ m, n = m + 1 := ⟨n - 1, by omega⟩
          simp [Builtin.clear_, run_underlying hu, zeroValue, typeInfo, hi, hz, hrun1]
    · simp at h
  · simp at h

end Go.Am

/-! Strings and bytes; what every operation comes to, calls left out. -/
namespace Go.Am
variable {D : Nat → Type} {R : Type} {cx : Cx D} {N : Nat} {s : St D} {β : Beta} {F : Nat → Prop} {a : Act} {w w' : World} {P : Program}

theorem ints_of {vs : List Value} {k : IntKind} {ys : List Int} (h : All2 (Rep F w) vs (ys.flatMap (deep cx (.int k)))) : vs = ys.map (Value.int k) := by
  induction ys generalizing vs with
  | nil => cases h; rfl
  | cons y ys ih =>
    simp only [List.flatMap_cons, deep, List.singleton_append] at h
    cases h with
    | cons h1 h2 =>
      cases h1
      simp only [List.map_cons]
      rw [ih h2]

theorem bytesString_sound (ok : CxOk cx P) (hs : SRep cx N s β F a w) {src dst e : TypeId} (hsrc : (cx.T src).map TI.desc = some (.slice e)) (hdst : (cx.T dst).map TI.desc = some .str) (he : (cx.T e).map TI.desc = some (.int .u8)) {q : PV D} {v : Value} {ys : List Int}
    (hq : PRep cx (fun m => shO cx (s.o m)) β F w q v) (h : listOf (.int .u8) s q = some ys) {K : PV D → Option R} {r : R} (hK : K (.str ⟨(ys.map fun n => UInt8.ofNat n.toNat).toArray⟩) = some r) : Got cx P s β F w (convert src dst v) K r := by
  obtain ⟨d1, hu1, hd1⟩ := tyDesc ok hsrc
  obtain ⟨d2, hu2, hd2⟩ := tyDesc ok hdst
  obtain ⟨d3, hu3, hd3⟩ := tyDesc ok he
  have hd1 : d1 = .slice e := hd1
  have hd2 : d2 = .string := hd2
  have hd3 : d3 = .int .u8 := hd3
  subst hd1 hd2 hd3
  obtain ⟨ad, c, rfl, hnil, news, n1, n2, n3⟩ := src_cells ok hs hq h
  refine .plain ?_ hK rfl rfl
  rw [run_convert_bytes_string w src dst e ad _ c hu1 hu3 hu2]
  cases ad with
  | none =>
    have := hnil rfl
    subst this
    simp [Conv.bytesToString, ByteArray.empty, ByteArray.emptyWithCapacity]
    rfl
  | some d =>
    have hn := ints_of n3
    have hl : (loadCells d ys.length).run P w = .ok (ys.map (Value.int .u8)).toArray w := by
      have := run_loadCells_list (P := P) w d (ys.map (Value.int .u8)) (fun j v hj => n2 d rfl j v (by rw [hn]; exact hj))
      simpa using this
    rw [run_bytesToString w d _ c ys hl, foldl_push_bytes]
    simp [ByteArray.empty, ByteArray.emptyWithCapacity]
    rfl

theorem stringBytes_sound (ok : CxOk cx P) (hs : SRep cx N s β F a w) {src dst e : TypeId} {te : TI D} (hsrc : (cx.T src).map TI.desc = some .str) (hdst : (cx.T dst).map TI.desc = some (.slice e)) (he : cx.T e = some te) (hd : te.desc = .int .u8) (_hty : te.ty = some (.int .u8)) {b : ByteArray} {v : Value}
    (hq : PRep cx (fun m => shO cx (s.o m)) β F w (.str b) v) {nm : Nat} (hnm : s.u nm = false) {K : PV D → St D → Option R} {r : R} (hK : K (.own nm) (s.born nm (.row (.int .u8) (b.data.toList.map fun c => (c.toNat : Int)) true)) = some r) :
    ∃ u w', (convert src dst v).run P w = .ok u w' ∧ Res cx N s β F a w (fun p s' => K p s' = some r) u w' := by
  obtain ⟨d1, hu1, hd1⟩ := tyDesc ok hsrc
  obtain ⟨d2, hu2, hd2⟩ := tyDesc ok hdst
  obtain ⟨d3, hu3, hd3⟩ := tyDesc' ok he
  rw [hd] at hd3
  have hd1 : d1 = .string := hd1
  have hd2 : d2 = .slice e := hd2
  have hd3 : d3 = .int .u8 := hd3
  subst hd1 hd2 hd3
  cases hq
  refine ⟨_, _, run_bytes_of_string w src dst e b hu1 hu2 hu3, Res.after (stepDrew s β F w) ?_⟩
  have hge := grownCap_ge w b.size 0 e
  have hbs : b.size = b.data.size := rfl
  have hlen : (b.data.toList.map fun c => (c.toNat : Int)).length = b.size := by rw [hbs, List.length_map, Array.length_toList]
  have hsz : (bytesRow b (grownCap w b.size 0 e)).size = grownCap w b.size 0 e := by
    simp only [bytesRow, Array.size_append, Array.size_map, Array.size_replicate, ← hbs]
    omega
  have := Res.newRow (P := fun p s' => K p s' = some r) (cx := cx) (N := N) hs.drew nm (.int .u8) (b.data.toList.map fun c => (c.toNat : Int)) (bytesRow b (grownCap w b.size 0 e)) e (grownCap w b.size 0 e) hnm (by rw [hlen]; exact hge) (by rw [hsz]; simp [sz])
    (fun i x j y hx hy => by
      simp only [deep] at hy
      have hj : j = 0 := by have := (List.getElem?_eq_some_iff.1 hy).1; simp at this; exact this
      subst hj
      simp at hy; subst hy
      have hi : i < b.size := by have := (List.getElem?_eq_some_iff.1 hx).1; rwa [hlen] at this
      refine ⟨.int .u8 x, ?_, .int⟩
      simp only [List.getElem?_map, Option.map_eq_some_iff] at hx
      obtain ⟨c, hc, rfl⟩ := hx
      simp only [sz, Nat.mul_one, Nat.add_zero, bytesRow]
      rw [Array.getElem?_append_left (by rw [Array.size_map, ← hbs]; exact hi), Array.getElem?_map]
      rw [Array.getElem?_toList] at hc
      simp [hc])
    ((bytesRow b (grownCap w b.size 0 e)).size, (bytesRow b (grownCap w b.size 0 e)).size + 1) (fun j hj => by omega) (p := .own nm) (v := .slice (some ⟨w.drew.heap.size, 0, none⟩) (b.data.toList.map fun c => (c.toNat : Int)).length (grownCap w b.size 0 e)) (.inl ⟨rfl, rfl⟩) hK
  rw [hlen] at this
  exact this

theorem Out.of {o : Oper} {RS : Value → World → Prop} {S : Sem Value} (he : execOp a.eval o = (do pure (.value (← S)))) (h : ∃ u w', S.run P w = .ok u w' ∧ RS u w') : Out P o a w RS := by
  obtain ⟨u, w', h1, h2⟩ := h
  exact .value (by rw [he]; simp [h1]) h2

theorem Out.got (hs : SRep cx N s β F a w) {o : Oper} {S : Sem Value} {K : PV D → St D → Option R} {r : R} (he : execOp a.eval o = (do pure (.value (← S)))) (h : Got cx P s β F w S (fun v => K v s) r) : Out P o a w (Res cx N s β F a w fun p s' => K p s' = some r) := by
  obtain ⟨u, q, h1, h2, h3, h4⟩ := h
  exact .of he ⟨u, w, h1, .same hs h3 h4 h2⟩

/-- A slice whose room is nothing. -/
theorem void_sound (ok : CxOk cx P) (hs : SRep cx N s β F a w) {T : TypeId} {t : Ty} {bytes : Nat} (hT : elemTI cx T = some (t, bytes)) {q : PV D} {v : Value} (hq : PRep cx (fun m => shO cx (s.o m)) β F w q v) (hsl : isSl s q = true) {vlo : Option Value} {k k' k'' : IntKind} (hlo : vlo = none ∨ vlo = some (.int k 0))
    {nm : Nat} (hnm : s.u nm = false) {Q : PV D → St D → Prop} (hQ : Q (.own nm) (s.born nm (.row t [] true))) :
    ∃ u w', (Instr.sliceAt T v vlo (some (.int k' 0)) (some (.int k'' 0))).run P w = .ok u w' ∧ Res cx N s β F a w Q u w' := by
  obtain ⟨e, te, hu, he, hty, _⟩ := elemTI_some ok hT
  have hz := elemSize (w := w) ok he hty
  have hv : ∃ ad n c, v = .slice ad n c ∧ n ≤ c := by
    cases q with
    | list t xs =>
      rcases Rep.list_shape hq with ⟨rfl, h0⟩ | ⟨ad, c, rfl⟩
      · exact ⟨_, _, _, rfl, Nat.le_refl _⟩
      · have hr' : Rep F w (.slice (some ad) xs.length c) (.list (sz cx t) (xs.map (deep cx t))) := PRep_list (S := fun _ => none) (β := fun _ => none) hq
        exact ⟨_, _, _, rfl, by simpa using hr'.list_inv.2.1⟩
    | nil => exact ⟨_, _, _, hq, Nat.le_refl _⟩
    | own o =>
      cases ho : s.o o with
      | none => simp [isSl, ho] at hsl
      | some ob => cases ob with
        | box cs => simp [isSl, ho] at hsl
        | row t xs l =>
          simp only [PRep, ho, shO] at hq
          rcases hs.hp.row o t xs l ho with ⟨h3, h4⟩ | ⟨b, off, cap, c, e', fr, hβ, hR⟩
          · rw [h3] at hq; obtain ⟨ad, rfl⟩ := hq; exact ⟨_, _, _, rfl, Nat.le_refl _⟩
          · rw [hβ] at hq; exact ⟨_, _, _, hq, hR.lecap⟩
    | view o lo n =>
      cases ho : s.o o with
      | none => simp [isSl, ho] at hsl
      | some ob => cases ob with
        | box cs => simp [isSl, ho] at hsl
        | row t xs l =>
          simp only [PRep, ho, shO] at hq
          obtain ⟨hle, hq⟩ := hq
          rcases hs.hp.row o t xs l ho with ⟨h3, h4⟩ | ⟨b, off, cap, c, e', fr, hβ, hR⟩
          · rw [h3] at hq; obtain ⟨ad, rfl⟩ := hq; exact ⟨_, _, _, rfl, Nat.le_refl _⟩
          · rw [hβ] at hq; obtain ⟨off', rfl, _⟩ := hq; exact ⟨_, _, _, rfl, by have := hR.lecap; omega⟩
    | _ => simp [isSl] at hsl
  obtain ⟨ad, n, c, rfl, hnc⟩ := hv
  have hb : (Instr.sliceBounds true n c vlo (some (.int k' 0)) (some (.int k'' 0))).run P w = .ok (0, 0, 0) w := by
    rcases hlo with rfl | rfl <;> simp [Instr.sliceBounds, Instr.sliceBound, asIntOf]
  refine ⟨.slice ad 0 0, w, ?_, _, _, _, .own nm, hs.born nm (.row t [] true) none hnm (.inl ⟨rfl, rfl⟩) (by simp [namesO]) (by simp), ?_, by simp [names, St.born, upd_same], stepBorn s β F w w nm _ none hnm (.refl _ _) (by simp), hQ⟩
  · simp [Instr.sliceAt, Instr.slice, run_underlying hu, hb, hz.1]
  · simp only [PRep, St.born, upd_same, shO, rowV]
    exact ⟨ad, rfl⟩

end Go.Am

/-! Every operation. -/
namespace Go.Am
variable {D : Nat → Type} {R : Type} {cx : Cx D} {orc : Orc D R} {keep : FuncId → List Bool} {N : Nat} {s : St D} {β : Beta} {F : Nat → Prop} {a : Act} {w w' : World} {P : Program}

/-- What a called function comes to. -/
def CallOut (P : Program) (f : FuncId) (vals : Array Value) (w : World) (RS : Value → World → Prop) : Prop :=
  (∃ v w', (callFunc f vals).run P w = .ok (.value v) w' ∧ RS v w') ∨ ((callFunc f vals).run P w = .ok (.enter f vals) w ∧ Calls P f vals w fun e w'' => ∃ v, e = .returned v ∧ RS v w'')

theorem reps_ev (hs : SRep cx N s β F a w) (xs : List Operand) : PReps cx (fun m => shO cx (s.o m)) β F w (xs.map (ev s)) (xs.map a.eval) := by
  induction xs with
  | nil => trivial
  | cons x xs ih => exact ⟨hs.ev x, ih⟩

theorem names_ev (hs : SRep cx N s β F a w) (xs : List Operand) : ∀ n ∈ names.go (xs.map (ev s)), s.u n = true := by
  intro n hn
  obtain ⟨p, hp, hn⟩ := mem_names_go.1 hn
  simp only [List.mem_map] at hp
  obtain ⟨x, _, rfl⟩ := hp
  exact hs.evU x n hn

theorem reps_append {S : Nat → Option Sh} {l l' : List (PV D)} {m m' : List Value} (h : PReps cx S β F w l m) (h' : PReps cx S β F w l' m') : PReps cx S β F w (l ++ l') (m ++ m') :=
  (PReps_all2 ..).2 (((PReps_all2 ..).1 h).append ((PReps_all2 ..).1 h'))

theorem names_go_append (l l' : List (PV D)) : names.go (l ++ l') = names.go l ++ names.go l' := by
  induction l with
  | nil => rfl
  | cons p l ih => simp [names.go, ih]

theorem Out.callee {o : Oper} {RS : Value → World → Prop} {f : FuncId} {vals : Array Value} (he : (execOp a.eval o).run P w = (callFunc f vals).run P w) (h : CallOut P f vals w RS) : Out P o a w RS := by
  rcases h with ⟨v, w', h1, h2⟩ | ⟨h1, h2⟩
  · exact .value (by rw [he, h1]) h2
  · exact .call (by rw [he, h1]) h2

theorem Out.of' {o : Oper} {RS : Value → World → Prop} {S : Sem Value} (he : (execOp a.eval o).run P w = ((do pure (.value (← S))) : Sem Next).run P w) (h : ∃ u w', S.run P w = .ok u w' ∧ RS u w') : Out P o a w RS := by
  obtain ⟨u, w', h1, h2⟩ := h
  exact .value (by rw [he]; simp [h1]) h2
theorem Out.got' (hs : SRep cx N s β F a w) {o : Oper} {S : Sem Value} {K : PV D → St D → Option R} {r : R} (he : (execOp a.eval o).run P w = ((do pure (.value (← S))) : Sem Next).run P w) (h : Got cx P s β F w S (fun v => K v s) r) : Out P o a w (Res cx N s β F a w fun p s' => K p s' = some r) := by
  obtain ⟨u, q, h1, h2, h3, h4⟩ := h
  exact .of' he ⟨u, w, h1, .same hs h3 h4 h2⟩

theorem args_one {xs : Array Operand} {p : PV D} (h : xs.toList.map (ev s) = [p]) : ∃ x, xs = #[x] ∧ ev s x = p := by
  cases hx : xs.toList with
  | nil => simp [hx] at h
  | cons x l =>
    simp [hx] at h
    obtain ⟨h1, rfl⟩ := h
    exact ⟨x, by rw [← Array.toList_inj, hx], h1⟩
theorem args_two {xs : Array Operand} {p q : PV D} (h : xs.toList.map (ev s) = [p, q]) : ∃ x y, xs = #[x, y] ∧ ev s x = p ∧ ev s y = q := by
  cases hx : xs.toList with
  | nil => simp [hx] at h
  | cons x l =>
    cases l with
    | nil => simp [hx] at h
    | cons y l =>
      simp [hx] at h
      obtain ⟨h1, h2, rfl⟩ := h
      exact ⟨x, y, by rw [← Array.toList_inj, hx], h1, h2⟩
theorem types_one {xs : Array TypeId} {t : TypeId} (h : xs.toList = [t]) : xs = #[t] := by rw [← Array.toList_inj, h]
theorem types_two {xs : Array TypeId} {t t' : TypeId} (h : xs.toList = [t, t']) : xs = #[t, t'] := by rw [← Array.toList_inj, h]

theorem call_sound (ok : CxOk cx P) (hs : SRep cx N s β F a w) {dst : Option Tmp} {c : Call} {type : TypeId} {pos : String} {after : Array Edge} {guard : Option (Nat × Bool)} {nm : Nat} {K : PV D → St D → Option R} {r : R}
    (hc : ∀ g args vals, call cx orc keep g args nm s K = some r → PReps cx (fun m => shO cx (s.o m)) β F w args vals → (∀ n ∈ names.go args, s.u n = true) → CallOut P g vals.toArray w (Res cx N s β F a w fun p s' => K p s' = some r))
    (h : op1 cx orc keep ⟨dst, .call c, type, pos, after, guard⟩ nm s K = some r) : Out P ⟨dst, .call c, type, pos, after, guard⟩ a w (Res cx N s β F a w fun p s' => K p s' = some r) := by
  obtain ⟨callee, args, argTypes⟩ := c
  unfold op1 at h
  cases callee with
  | invoke x nme => simp at h
  | value f =>
    simp only at h
    split at h
    · rename_i g caps hv
      have hf := hs.ev f
      have hfu := hs.evU f
      rw [hv] at hf hfu
      obtain ⟨cs, h1, h2⟩ := hf
      refine .callee (f := g) (vals := (args.toList.map a.eval ++ cs.toList).toArray) ?_ (hc g _ (args.toList.map a.eval ++ cs.toList) h (reps_append (reps_ev hs _) h2) ?_)
      · have he : (args.toList.map a.eval ++ cs.toList).toArray = args.map a.eval ++ cs := by
          apply Array.ext'
          simp
        rw [he]
        simp [execOp, resolve, h1, Deferred.ofValue, invoke]
      · intro n hn
        rw [names_go_append] at hn
        rcases List.mem_append.1 hn with hn | hn
        · exact names_ev hs _ n hn
        · exact hfu n (by simpa [names] using hn)
    · simp at h
  | builtin b =>
    cases b <;> simp only at h <;> try (simp at h; done)
    case len =>
      split at h
      · rename_i T x ht hx
        obtain ⟨x', rfl, rfl⟩ := args_one hx
        have := types_one ht
        subst this
        refine .got' hs (S := Builtin.len_ #[T] type #[a.eval x']) (by simp [execOp, resolve, invoke, builtin]) ?_
        have hp := hs.ev x'
        split at h
        · simp at h
        · rename_i e hd hns
          obtain ⟨d', hu, hd'⟩ := tyDesc ok hd
          have hd' : d' = .slice e := hd'
          subst hd'
          obtain ⟨ad, n, c, hv, hK⟩ := len_of hs h hp (by intro b hb; first | exact hns _ _ hd hb | exact hns _ b hb | (exact hns b hb))
          exact .plain (u := goInt n) (by rw [hv]; simp [Builtin.len_, run_underlying hu]) hK rfl rfl
        · rename_i b hd hv
          obtain ⟨d', hu, hd'⟩ := tyDesc ok hd
          have hd' : d' = .string := hd'
          subst hd'
          rw [hv] at hp
          have hp : a.eval x' = .string b := hp
          exact .plain (u := goInt b.size) (by rw [hp]; simp [Builtin.len_, run_underlying hu]) h rfl rfl
        · rename_i n e hd
          obtain ⟨d', hu, hd'⟩ := tyDesc ok hd
          have hd' : d' = .array n e := hd'
          subst hd'
          exact .plain (u := goInt n) (by simp [Builtin.len_, run_underlying hu]) h rfl rfl
        · simp at h
      · simp at h
    case cap =>
      split at h
      · rename_i T ht hx
        obtain ⟨x', rfl, hv⟩ := args_one hx
        have := types_one ht
        subst this
        refine .got' hs (S := Builtin.cap_ #[T] type #[a.eval x']) (by simp [execOp, resolve, invoke, builtin]) ?_
        have hp := hs.ev x'
        rw [hv] at hp
        have hp : a.eval x' = .slice none 0 0 := hp
        split at h
        · rename_i e hd
          obtain ⟨d', hu, hd'⟩ := tyDesc ok hd
          have hd' : d' = .slice e := hd'
          subst hd'
          exact .plain (u := goInt (0 : Nat)) (by rw [hp]; simp [Builtin.cap_, run_underlying hu]) h rfl rfl
        · simp at h
      · simp at h
    case append =>
      split at h
      · rename_i T T' x y ht hx
        obtain ⟨x', y', rfl, rfl, rfl⟩ := args_two hx
        have := types_two ht
        subst this
        exact .of' (S := Builtin.append_ #[T, T'] type #[a.eval x', a.eval y']) (by simp [execOp, resolve, invoke, builtin]) (append_sound ok hs (hs.ev x') (hs.ev y') h)
      · simp at h
    case copy =>
      split at h
      · rename_i T T' x y ht hx
        obtain ⟨x', y', rfl, rfl, rfl⟩ := args_two hx
        have := types_two ht
        subst this
        split at h
        · rename_i t bytes hTI
          exact .of' (S := Builtin.copy_ #[T, T'] type #[a.eval x', a.eval y']) (by simp [execOp, resolve, invoke, builtin]) (copy_sound ok hs hTI (hs.ev x') (hs.ev y') h)
        · simp at h
      · simp at h
    case clear =>
      split at h
      · rename_i T x ht hx
        obtain ⟨x', rfl, rfl⟩ := args_one hx
        have := types_one ht
        subst this
        split at h
        · rename_i t bytes hTI
          exact .of' (S := Builtin.clear_ #[T] type #[a.eval x']) (by simp [execOp, resolve, invoke, builtin]) (clear_sound ok hs hTI (hs.ev x') h)
        · simp at h
      · simp at h
    case max =>
      split at h
      · rename_i k m k' n hx
        obtain ⟨x', y', rfl, h1, h2⟩ := args_two hx
        cases hk : decide (k = k') with
        | false => simp [hk] at h
        | true =>
          simp only [hk, cond_true] at h
          have hp := hs.ev x'
          have hq := hs.ev y'
          rw [h1] at hp
          rw [h2] at hq
          have hp : a.eval x' = .int k m := hp
          have hq : a.eval y' = .int k' n := hq
          refine .got' hs (S := Builtin.max_ argTypes type #[a.eval x', a.eval y']) (by simp [execOp, resolve, invoke, builtin]) ?_
          rw [hp, hq]
          exact .plain (u := .int k (if m < n then n else m)) (by simp [Builtin.max_, Builtin.max2]) h rfl rfl
      · simp at h
    case min =>
      split at h
      · rename_i k m k' n hx
        obtain ⟨x', y', rfl, h1, h2⟩ := args_two hx
        cases hk : decide (k = k') with
        | false => simp [hk] at h
        | true =>
          simp only [hk, cond_true] at h
          have hp := hs.ev x'
          have hq := hs.ev y'
          rw [h1] at hp
          rw [h2] at hq
          have hp : a.eval x' = .int k m := hp
          have hq : a.eval y' = .int k' n := hq
          refine .got' hs (S := Builtin.min_ argTypes type #[a.eval x', a.eval y']) (by simp [execOp, resolve, invoke, builtin]) ?_
          rw [hp, hq]
          exact .plain (u := .int k (if n < m then n else m)) (by simp [Builtin.min_, Builtin.min2]) h rfl rfl
      · simp at h

theorem op1_sound (ok : CxOk cx P) (hs : SRep cx N s β F a w) {o : Oper} {nm : Nat} {K : PV D → St D → Option R} {r : R}
    (hc : ∀ g args vals, call cx orc keep g args nm s K = some r → PReps cx (fun m => shO cx (s.o m)) β F w args vals → (∀ n ∈ names.go args, s.u n = true) → CallOut P g vals.toArray w (Res cx N s β F a w fun p s' => K p s' = some r))
    (h : op1 cx orc keep o nm s K = some r) : Out P o a w (Res cx N s β F a w fun p s' => K p s' = some r) := by
  obtain ⟨dst, op, type, pos, after, guard⟩ := o
  unfold op1 at h
  cases op with
  | move x => exact .value (by simp only [execOp]; rfl) (.same hs (hs.ev x) (hs.evU x) h)
  | assign x => exact .value (by simp only [execOp]; rfl) (.same hs (hs.ev x) (hs.evU x) h)
  | pick c x y =>
    simp only at h
    have hcv := hs.ev c
    split at h
    · rename_i hb
      rw [hb] at hcv
      have hcv : a.eval c = .bool true := hcv
      exact .value (v := a.eval x) (by simp [execOp, hcv, asBool]) (.same hs (hs.ev x) (hs.evU x) h)
    · rename_i hb
      rw [hb] at hcv
      have hcv : a.eval c = .bool false := hcv
      exact .value (v := a.eval y) (by simp [execOp, hcv, asBool]) (.same hs (hs.ev y) (hs.evU y) h)
    · simp at h
  | alloc T => exact .of rfl (alloc_sound ok hs h)
  | box T x => exact .of rfl (box_sound ok hs (hs.ev x) (hs.evU x) h)
  | build T ps =>
    simp only at h
    cases hT : cx.T T with
    | none => simp [hT] at h
    | some ti =>
      simp only [hT] at h
      split at h
      · rename_i fs hd
        split at h
        · rename_i cs hp
          exact .of rfl (buildStruct_sound ok hs hT hd ps hp h)
        · simp at h
      · rename_i n e hd
        split at h
        · rename_i t ht
          obtain ⟨te, he, hty⟩ := Option.bind_eq_some_iff.1 ht
          split at h
          · rename_i xs hx
            obtain ⟨hb, hK⟩ := chk_some h
            exact .of rfl (buildArr_sound ok hs hT hd he hty ps hx (by simpa using hb) hK)
          · simp at h
        · simp at h
      · simp at h
  | buildSlice T n ps =>
    simp only at h
    split at h
    · rename_i t bytes hT
      split at h
      · rename_i xs hx
        obtain ⟨hnm, h⟩ := chk_some h
        obtain ⟨hb, hK⟩ := chk_some h
        simp only [Bool.and_eq_true, Nat.ble_eq] at hb
        exact .of rfl (buildSlice_sound ok hs hT ps hx (by simpa using hb.1) (by simpa using hnm) hb.2 hK)
      · simp at h
    · split at h
      · rename_i ti hT
        split at h
        · rename_i e hd
          split at h
          · rename_i te he
            split at h
            · rename_i cs hp
              obtain ⟨hnm, h⟩ := chk_some h
              obtain ⟨hb, hK⟩ := chk_some h
              simp only [Bool.and_eq_true, Nat.ble_eq, Nat.blt_eq] at hb
              exact .of rfl (buildBox_sound ok hs hT hd he ps hp (by simpa using hnm) hb.1.1 hb.1.2 hb.2 hK)
            · simp at h
          · simp at h
        · simp at h
      · simp at h
  | load T x =>
    obtain ⟨u, q, h1, h2, h3, h4⟩ := load_sound ok h hs (hs.ev x)
    exact .of rfl ⟨u, w, h1, .same hs h3 h4 h2⟩
  | store T x y =>
    obtain ⟨w', h1, h2⟩ := store_sound ok h hs (hs.ev x) (hs.ev y) (hs.evU y)
    refine .skip (w' := w') (by simp [execOp, h1]) ?_
    obtain ⟨s', β', F', p, k1, k2, k3, k4, rfl, k5⟩ := h2
    exact ⟨s', β', F', .skip, k1, k2, k3, k4, k5⟩
  | nilCheck x =>
    simp only at h
    have hx := hs.ev x
    have hu := hs.evU x
    split at h
    · rename_i o off hv
      rw [hv] at hx hu
      exact .value (nilCheck_ptr (x := x) rfl rfl (.inl (ptr_shape hx))) (.same hs hx hu h)
    · rename_i o i off hv
      rw [hv] at hx hu
      exact .value (nilCheck_ptr (x := x) rfl rfl (.inl (elem_shape hx))) (.same hs hx hu h)
    · rename_i t xs i off hv
      rw [hv] at hx hu
      obtain ⟨h1, ad, c, h2, h3⟩ := hx
      exact .value (nilCheck_ptr (x := x) rfl rfl (.inl ⟨_, h3⟩)) (.same (p := .lelem t xs i off) hs ⟨h1, ad, c, h2, h3⟩ hu h)
    · rename_i f c hv
      rw [hv] at hx hu
      obtain ⟨cs, h1, h2⟩ := hx
      exact .value (nilCheck_ptr (x := x) rfl rfl (.inr ⟨_, _, h1⟩)) (.same (p := .fn f c) hs ⟨cs, h1, h2⟩ hu h)
    · simp at h
  | binOp op T x y t => exact .got hs rfl (binX_sound ok h (hs.ev x) (hs.ev y))
  | unOp op T x =>
    simp only at h
    have hx := hs.ev x
    refine .got hs (S := Op.unary op (a.eval x)) rfl ?_
    split at h
    · rename_i k n hv
      rw [hv] at hx
      have hx : a.eval x = .int k n := hx
      rw [hx]
      exact .plain (by simp [Op.unary, Op.intArith]) h rfl rfl
    · rename_i k n hv
      rw [hv] at hx
      have hx : a.eval x = .int k n := hx
      rw [hx]
      exact .plain (by simp [Op.unary, Op.intBits]; rfl) h rfl rfl
    · rename_i b hv
      rw [hv] at hx
      have hx : a.eval x = .bool b := hx
      rw [hx]
      exact .plain (by simp [Op.unary]) h rfl rfl
    · simp at h
  | convert src dst x =>
    simp only at h
    have hx := hs.ev x
    split at h
    · rename_i h1 h2 h3
      rw [h3] at hx
      exact .got hs rfl (convInt_sound ok h1 h2 hx h)
    · rename_i h1 h2 h3
      rw [h3] at hx
      exact .got hs rfl (convStr_sound ok h1 h2 hx h)
    · split at h
      · rename_i h4 h5
        exact .got hs rfl (bytesString_sound ok hs (by assumption) (by assumption) h4 hx h5 h)
      · simp at h
    · rename_i h1 h2 h3
      rw [h3] at hx
      split at h
      · rename_i te he
        split at h
        · rename_i hd hty
          obtain ⟨hnm, hK⟩ := chk_some h
          exact .of rfl (stringBytes_sound ok hs h1 h2 he hd hty hx (by simpa using hnm) hK)
        · simp at h
      · simp at h
    · simp at h
  | makeInterface T x =>
    simp only at h
    split at h
    · simp at h
    · rename_i d hd hT
      obtain ⟨d', hu, hdo⟩ := tyDesc ok hT
      refine .got hs (S := Instr.makeInterface T (a.eval x)) rfl ⟨.iface T (a.eval x), .ifc T (ev s x), ?_, h, ⟨_, rfl, hs.ev x⟩, by simpa [names] using hs.evU x⟩
      simp only [Instr.makeInterface, Sem.run_bind, run_underlying hu, Result.andThen_ok]
      cases d' <;> simp [DescOk] at hdo ⊢
      cases d <;> simp at hdo hd
    · simp at h
  | makeFunc fn fs cs =>
    cases fn with
    | func f =>
      simp only at h
      cases hb : Nat.beq fs.size 0 with
      | false => simp [hb] at h
      | true =>
        simp only [hb, cond_true] at h
        have h0 : fs = #[] := by
          have := Nat.eq_of_beq_eq_true hb
          exact Array.eq_empty_of_size_eq_zero this
        subst h0
        refine .got hs (S := Instr.makeFunc (.func f) (#[].map a.eval) (cs.map a.eval)) rfl ⟨_, .fn f (cs.toList.map (ev s)), rfl, h, ⟨cs.map a.eval, by simp, ?_⟩, ?_⟩
        · rw [Array.toList_map]; exact reps_ev hs _
        · simpa [names] using names_ev hs _
    | _ => simp at h
  | makeSlice T l c =>
    simp only at h
    split at h
    · rename_i kl n kc m h1 h2
      have hl := hs.ev l
      have hcv := hs.ev c
      rw [h1] at hl
      rw [h2] at hcv
      have hl : a.eval l = .int kl n := hl
      have hcv : a.eval c = .int kc m := hcv
      refine .of (S := Instr.makeSlice T (a.eval l) (a.eval c)) rfl ?_
      rw [hl, hcv]
      exact makeRow_sound ok hs h
    · simp at h
  | slice T x lo hi mx =>
    cases mx with
    | none =>
      have h : sliceV cx T (ev s x) (lo.map (ev s)) (hi.map (ev s)) s (fun v => K v s) = some r := by cases hi <;> exact h
      refine .got hs rfl (slice_sound ok h hs (hs.ev x) ?_ ?_ ?_ ?_ (hs.evU x))
      · rintro y k n hy rfl
        cases lo with
        | none => simp at hy
        | some l =>
          simp at hy
          have hl := hs.ev l
          rw [hy] at hl
          have hl : a.eval l = .int k n := hl
          simp [hl]
      · intro hy; cases lo <;> simp_all
      · rintro y k n hy rfl
        cases hi with
        | none => simp at hy
        | some l =>
          simp at hy
          have hl := hs.ev l
          rw [hy] at hl
          have hl : a.eval l = .int k n := hl
          simp [hl]
      · intro hy; cases hi <;> simp_all
    | some mx =>
      cases hi with
      | none => simp at h
      | some hi =>
        simp only at h
        split at h
        · rename_i t bytes hT
          split at h
          · rename_i k1 k2 k3 h1 h2 h3
            obtain ⟨hb, hK⟩ := chk_some h
            simp only [Bool.and_eq_true] at hb
            have hh := hs.ev hi
            have hm := hs.ev mx
            rw [h2] at hh
            rw [h3] at hm
            have hh : a.eval hi = .int k2 0 := hh
            have hm : a.eval mx = .int k3 0 := hm
            refine .of (S := Instr.sliceAt T (a.eval x) (lo.map a.eval) (some (a.eval hi)) (some (a.eval mx))) rfl ?_
            rw [hh, hm]
            refine void_sound (k := k1) ok hs hT (hs.ev x) hb.2 ?_ (by simpa using hb.1) hK
            cases lo with
            | none => exact .inl rfl
            | some l =>
              simp only at h1
              have hl := hs.ev l
              rw [h1] at hl
              have hl : a.eval l = .int k1 0 := hl
              exact .inr (by simp [hl])
          · simp at h
        · simp at h
  | fieldAddr T x f =>
    simp only at h
    split at h
    · rename_i fs hd
      split at h
      · rename_i off size ag hf
        exact .got hs rfl (fieldAddr_sound ok hd hf (hs.ev x) h (hs.evU x))
      · simp at h
    · simp at h
  | field T x f =>
    simp only at h
    split at h
    · rename_i fs cs hd hv
      split at h
      · rename_i off size ag hf
        obtain ⟨hb, hK⟩ := chk_some h
        have hx := hs.ev x
        have hu := hs.evU x
        rw [hv] at hx hu
        exact .got hs rfl (field_sound ok hd hf hx (by simpa using hb) hK hu)
      · simp at h
    · simp at h
  | indexAddr T x i => exact .got hs rfl (indexAddr_sound ok h hs (hs.evG x) (hs.ev i) (hs.evGU x))
  | index T x i =>
    simp only at h
    have hx := hs.ev x
    have hi := hs.ev i
    split at h
    · rename_i ti t xs k m hT h1 h2
      rw [h1] at hx
      rw [h2] at hi
      have hi : a.eval i = .int k m := hi
      split at h
      · rename_i n e hd
        split at h
        · rename_i te he
          obtain ⟨hb, hK⟩ := chk_some h
          simp only [Bool.and_eq_true] at hb
          obtain ⟨⟨b1, b2⟩, b3⟩ := hb
          refine .got hs (S := Instr.index T (a.eval x) (a.eval i)) rfl ?_
          rw [hi]
          exact index_arr_sound ok (by rw [hT]; simp [hd]) he hx (inb_iff.1 b1).1 (inb_iff.1 b1).2 (by have := (inb_iff.1 b2).2; simpa using this) (Nat.eq_of_beq_eq_true b3) hK
        · simp at h
      · simp at h
    · rename_i ti b k m hT h1 h2
      rw [h1] at hx
      rw [h2] at hi
      have hi : a.eval i = .int k m := hi
      split at h
      · rename_i hd
        obtain ⟨hb, hK⟩ := chk_some h
        refine .got hs (S := Instr.index T (a.eval x) (a.eval i)) rfl ?_
        rw [hi]
        exact index_str_sound ok (by rw [hT]; simp [hd]) hx (inb_iff.1 hb).1 (inb_iff.1 hb).2 hK
      · simp at h
    · simp at h
  | extract x i =>
    simp only at h
    split at h
    · rename_i l hv
      split at h
      · rename_i v hl
        have hx := hs.ev x
        have hu := hs.evU x
        rw [hv] at hx hu
        obtain ⟨cs, h1, h2⟩ := hx
        obtain ⟨u, hu1, hu2⟩ := ((PReps_all2 ..).1 h2).get i v hl
        refine .got hs (S := Instr.extract (a.eval x) i) rfl ⟨u, v, ?_, h, hu2, fun n hn => hu n ?_⟩
        · have : cs[i]? = some u := by simpa using hu1
          rw [h1]; simp [Instr.extract, this]
        · simp only [names]
          exact mem_names_go.2 ⟨v, List.mem_of_getElem? hl, hn⟩
      · simp at h
    · simp at h
  | call c => exact call_sound ok hs hc h
  | _ => simp at h

end Go.Am

/-! Other names for the same objects. -/
namespace Go.Am
variable {D : Nat → Type} {R : Type} {cx : Cx D} {N : Nat} {s : St D} {β β' : Beta} {F F' : Nat → Prop} {S S' : Nat → Option Sh} {a : Act} {w w' : World} {P : Program}

theorem memN_iff {l : List Nat} {n : Nat} : memN l n = true ↔ n ∈ l := by
  induction l with
  | nil => simp [memN]
  | cons m ms ih =>
    cases h : Nat.beq m n with
    | true => have := Nat.eq_of_beq_eq_true h; subst this; simp [memN]
    | false =>
      have : m ≠ n := by rintro rfl; simp at h
      simp only [memN, h, cond_false, List.mem_cons, ih]
      constructor
      · exact .inr
      · rintro (h1 | h1)
        · exact absurd h1.symm this
        · exact h1
theorem memN_not {l : List Nat} {n : Nat} : memN l n = false ↔ n ∉ l := by
  rw [← memN_iff]; simp

theorem nub_iff {l : List Nat} : nub l = true ↔ l.Nodup := by
  induction l with
  | nil => simp [nub]
  | cons n ns ih => simp [nub, ih, memN_not]

theorem idx_lt {ns : List Nat} {n : Nat} (h : n ∈ ns) : idx ns n < ns.length ∧ ns[idx ns n]? = some n := by
  induction ns with
  | nil => simp at h
  | cons m ms ih =>
    cases hb : Nat.beq m n with
    | true => have := Nat.eq_of_beq_eq_true hb; subst this; simp [idx]
    | false =>
      have hne : m ≠ n := by rintro rfl; simp at hb
      simp only [idx, hb, cond_false, List.length_cons]
      rcases List.mem_cons.1 h with h | h
      · exact absurd h.symm hne
      · obtain ⟨h1, h2⟩ := ih h
        exact ⟨by omega, by simpa using h2⟩

theorem idx_get {ns : List Nat} (hn : ns.Nodup) {j n : Nat} (h : ns[j]? = some n) : idx ns n = j := by
  obtain ⟨h1, h2⟩ := idx_lt (List.mem_of_getElem? h)
  have hj := (List.getElem?_eq_some_iff.1 h).1
  have : ns[idx ns n]'h1 = ns[j]'hj := by
    rw [List.getElem?_eq_getElem h1] at h2
    rw [List.getElem?_eq_getElem hj] at h
    simp at h2 h
    rw [h2, h]
  exact (List.getElem_inj hn).1 this

theorem back_lt {ns : List Nat} {nm j n : Nat} (h : ns[j]? = some n) : back ns nm j = n := by
  induction ns generalizing j with
  | nil => simp at h
  | cons m ms ih =>
    cases j with
    | zero => simpa [back] using h
    | succ j => simp at h; simp only [back]; exact ih h
theorem back_ge {ns : List Nat} {nm j : Nat} (h : ns.length ≤ j) : back ns nm j = nm + (j - ns.length) := by
  induction ns generalizing j with
  | nil => simp [back]
  | cons m ms ih =>
    cases j with
    | zero => simp at h
    | succ j => simp only [back]; rw [ih (by simpa using h)]; simp

mutual
theorem names_ren (f : Nat → Nat) : ∀ p : PV D, names (ren f p) = (names p).map f
  | .undef | .skip | .int _ _ | .bool _ | .str _ | .nilI | .arr _ _ | .nil | .list _ _ | .lelem _ _ _ _ | .nilp | .nilf | .full _ _ | .opt _ _ _ => rfl
  | .own o | .view o _ _ | .ptr o _ | .elem o _ _ => rfl
  | .ifc t p => by simpa [ren, names] using names_ren f p
  | .agg l => by simpa [ren, names] using names_renGo f l
  | .tup l => by simpa [ren, names] using names_renGo f l
  | .fn g caps => by simpa [ren, names] using names_renGo f caps
theorem names_renGo (f : Nat → Nat) : ∀ l : List (PV D), names.go (ren.go f l) = (names.go l).map f
  | [] => rfl
  | p :: ps => by simp [ren.go, names.go, names_ren f p, names_renGo f ps]
end

mutual
theorem PRep.ren {f : Nat → Nat} : ∀ (p : PV D) (v : Value), (∀ n ∈ names p, S' (f n) = S n ∧ β' (f n) = β n) → PRep cx S β F w p v → PRep cx S' β' F w (ren f p) v
  | .undef, v, _, h => trivial
  | .skip, v, _, h => h
  | .int k n, v, _, h => h
  | .bool b, v, _, h => h
  | .str s, v, _, h => h
  | .nilI, v, _, h => h
  | .arr t xs, v, _, h => h
  | .nil, v, _, h => h
  | .list t xs, v, _, h => h
  | .lelem t xs i off, v, _, h => h
  | .nilp, v, _, h => h
  | .nilf, v, _, h => h
  | .full t xs, v, _, h => h
  | .opt t xs b, v, _, h => h
  | .own o, v, hn, h => by
    obtain ⟨h1, h2⟩ := hn o (by simp [names])
    simpa only [Am.ren, PRep, h1, h2] using h
  | .view o lo n, v, hn, h => by
    obtain ⟨h1, h2⟩ := hn o (by simp [names])
    simpa only [Am.ren, PRep, h1, h2] using h
  | .ptr o off, v, hn, h => by
    obtain ⟨h1, h2⟩ := hn o (by simp [names])
    simpa only [Am.ren, PRep, h1, h2] using h
  | .elem o i off, v, hn, h => by
    obtain ⟨h1, h2⟩ := hn o (by simp [names])
    simpa only [Am.ren, PRep, h1, h2] using h
  | .ifc t p, v, hn, h => by
    obtain ⟨u, rfl, h⟩ := h
    exact ⟨u, rfl, PRep.ren p u (fun n hm => hn n (by simpa [names] using hm)) h⟩
  | .agg l, v, hn, h => by
    obtain ⟨cs, rfl, h⟩ := h
    exact ⟨cs, rfl, PReps.ren l cs.toList (fun n hm => hn n (by simpa [names] using hm)) h⟩
  | .tup l, v, hn, h => by
    obtain ⟨cs, rfl, h⟩ := h
    exact ⟨cs, rfl, PReps.ren l cs.toList (fun n hm => hn n (by simpa [names] using hm)) h⟩
  | .fn g caps, v, hn, h => by
    obtain ⟨cs, rfl, h⟩ := h
    exact ⟨cs, rfl, PReps.ren caps cs.toList (fun n hm => hn n (by simpa [names] using hm)) h⟩
theorem PReps.ren {f : Nat → Nat} : ∀ (l : List (PV D)) (m : List Value), (∀ n ∈ names.go l, S' (f n) = S n ∧ β' (f n) = β n) → PReps cx S β F w l m → PReps cx S' β' F w (ren.go f l) m
  | [], [], _, h => h
  | [], _ :: _, _, h => h
  | _ :: _, [], _, h => h
  | p :: ps, v :: vs, hn, h =>
    ⟨PRep.ren p v (fun n hm => hn n (by simp [names.go, hm])) h.1, PReps.ren ps vs (fun n hm => hn n (by simp [names.go, hm])) h.2⟩
end

mutual
theorem PRep.noList : ∀ (p : PV D) (v : Value), hasList p = false → PRep cx S β F w p v → PRep cx S β F' w' p v
  | .undef, v, _, h => trivial
  | .skip, v, _, h => h
  | .int k n, v, _, h => h
  | .bool b, v, _, h => h
  | .str s, v, _, h => h
  | .nilI, v, _, h => h
  | .nil, v, _, h => h
  | .nilp, v, _, h => h
  | .nilf, v, _, h => h
  | .own o, v, _, h => h
  | .view o lo n, v, _, h => h
  | .ptr o off, v, _, h => h
  | .elem o i off, v, _, h => h
  | .arr t xs, v, hl, _ => by simp [hasList] at hl
  | .list t xs, v, hl, _ => by simp [hasList] at hl
  | .full t xs, v, hl, _ => by simp [hasList] at hl
  | .opt t xs b, v, hl, _ => by simp [hasList] at hl
  | .lelem t xs i off, v, hl, _ => by simp [hasList] at hl
  | .ifc t p, v, hl, h => by
    obtain ⟨u, rfl, h⟩ := h
    exact ⟨u, rfl, PRep.noList p u (by simpa [hasList] using hl) h⟩
  | .agg l, v, hl, h => by
    obtain ⟨cs, rfl, h⟩ := h
    exact ⟨cs, rfl, PReps.noList l cs.toList (by simpa [hasList] using hl) h⟩
  | .tup l, v, hl, h => by
    obtain ⟨cs, rfl, h⟩ := h
    exact ⟨cs, rfl, PReps.noList l cs.toList (by simpa [hasList] using hl) h⟩
  | .fn g caps, v, hl, h => by
    obtain ⟨cs, rfl, h⟩ := h
    exact ⟨cs, rfl, PReps.noList caps cs.toList (by simpa [hasList] using hl) h⟩
theorem PReps.noList : ∀ (l : List (PV D)) (m : List Value), hasList.go l = false → PReps cx S β F w l m → PReps cx S β F' w' l m
  | [], [], _, h => h
  | [], _ :: _, _, h => h
  | _ :: _, [], _, h => h
  | p :: ps, v :: vs, hl, h => by
    simp only [hasList.go, Bool.or_eq_false_iff] at hl
    exact ⟨PRep.noList p v hl.1 h.1, PReps.noList ps vs hl.2 h.2⟩
end

theorem shO_map (f : Nat → Nat) (o : Option (Obj D)) : shO cx (mapO f o) = shO cx o := by
  cases o with
  | none => rfl
  | some ob => cases ob <;> rfl
theorem namesO_map (f : Nat → Nat) (o : Option (Obj D)) : namesO (mapO f o) = (namesO o).map f := by
  cases o with
  | none => rfl
  | some ob => cases ob with
    | box cs => simp [mapO, renO, namesO, names_renGo]
    | row t xs l => rfl
theorem Wr_map {O O' : Nat → Option (Obj D)} {f : Nat → Nat} {i j b : Nat} (hO : O' j = mapO f (O i)) (hβ : β' j = β i) : Wr O' β' j b ↔ Wr O β i b := by
  unfold Wr
  rw [hO, hβ]
  cases O i with
  | none => exact Iff.rfl
  | some ob => cases ob <;> exact Iff.rfl
theorem sameO_map {f g : Nat → Nat} {o o' : Option (Obj D)} (h : sameO o o') : sameO (mapO f o) (mapO g o') := by
  cases o with
  | none => cases sameO_none h; trivial
  | some ob => cases o' with
    | none => cases ob <;> exact h.elim
    | some ob' => cases ob <;> cases ob' <;> exact h
theorem sameO_map' {f : Nat → Nat} {o o' : Option (Obj D)} (h : sameO (mapO f o) o') : sameO o o' := by
  cases o with
  | none => exact h
  | some ob => cases o' with
    | none => cases ob <;> exact h.elim
    | some ob' => cases ob <;> cases ob' <;> exact h

theorem ORep.ren {f : Nat → Nat} {p : Option (Nat × Nat × Nat)} {ob : Obj D} (h : ORep cx S β F w p ob) (hn : ∀ n ∈ namesO (some ob), S' (f n) = S n ∧ β' (f n) = β n) : ORep cx S' β' F w p (renO f ob) := by
  cases ob with
  | box cs =>
    obtain ⟨b, c, e, fr, hb, hB⟩ := h
    exact ⟨b, c, e, fr, hb, hB.at_, hB.free, PReps.ren _ _ hn hB.reps⟩
  | row t xs l => exact h

theorem HRep.of_orep {O : Nat → Option (Obj D)} (h1 : ∀ n ob, O n = some ob → ORep cx (fun m => shO cx (O m)) β F w (β n) ob) (h2 : ∀ n m b, Wr O β n b → Wr O β m b → n = m) (h3 : ∀ n b, Wr O β n b → ¬ F b) (h4 : ∀ b, F b → b < w.heap.size) (h5 : GInv cx F w) : HRep cx O β F w where
  box n _cs ho := h1 n _ ho
  row n _t _xs _l ho := h1 n _ ho
  apart := h2
  away := h3
  fin := h4
  gl := h5

/-- The same objects under other names. -/
theorem HRep.pull {O O' : Nat → Option (Obj D)} (h : HRep cx O β F w) (g f : Nat → Nat) (dom : Nat → Prop)
    (hO : ∀ j, O' j = none ∨ (dom j ∧ O' j = mapO f (O (g j)) ∧ β' j = β (g j)))
    (hn : ∀ j, dom j → ∀ n ∈ namesO (O (g j)), O' (f n) = mapO f (O n) ∧ β' (f n) = β n) (inj : ∀ i j, dom i → dom j → g i = g j → i = j) : HRep cx O' β' F w := by
  have wr : ∀ j b, Wr O' β' j b → dom j ∧ Wr O β (g j) b := by
    intro j b hw
    rcases hO j with h0 | ⟨h1, h2, h3⟩
    · obtain ⟨_, h5⟩ := hw; simp [h0] at h5
    · exact ⟨h1, (Wr_map h2 h3).1 hw⟩
  refine .of_orep (fun j ob hj => ?_) (fun i j b h1 h2 => ?_) (fun j b h1 => h.away _ b (wr j b h1).2) h.fin h.gl
  · rcases hO j with h0 | ⟨h1, h2, h3⟩
    · simp [h0] at hj
    · rw [hj] at h2
      cases ho : O (g j) with
      | none => simp [ho, mapO] at h2
      | some ob0 =>
        rw [ho] at h2
        simp only [mapO, Option.some.injEq] at h2
        subst h2
        rw [h3]
        refine (h.obj ho).ren fun n hm => ?_
        obtain ⟨k1, k2⟩ := hn j h1 n (by rw [ho]; exact hm)
        exact ⟨by simp only [k1, shO_map], k2⟩
  · obtain ⟨d1, w1⟩ := wr i b h1
    obtain ⟨d2, w2⟩ := wr j b h2
    exact inj i j d1 d2 (h.apart _ _ b w1 w2)

end Go.Am

/-! Calls. -/
namespace Go.Am
variable {D : Nat → Type} {R : Type} {cx : Cx D} {orc : Orc D R} {keep : FuncId → List Bool} {N : Nat} {s : St D} {β β' : Beta} {F F' : Nat → Prop} {S S' : Nat → Option Sh} {a : Act} {w w' : World} {P : Program}

def atL (os : List (Option (Obj D))) (n : Nat) : Option (Obj D) := os.getD n none

def below (n m : Nat) : Bool := Nat.blt m n
theorem below_iff {n m : Nat} : below n m = true ↔ m < n := by simp [below]

/-- What a called function leaves. -/
structure Ret (cx : Cx D) (os : List (Obj D)) (β : Beta) (F : Nat → Prop) (w : World) (v : Value) (w' : World) (rv : RV D) (β' : Beta) (F' : Nat → Prop) : Prop where
  len : os.length ≤ rv.os.length
  vs : ∀ n ∈ names rv.vs, n < rv.os.length
  obs : ∀ m, ∀ n ∈ namesO (atL rv.os m), n < rv.os.length
  hp : HRep cx (atL rv.os) β' F' w'
  rep : PRep cx (fun m => shO cx (atL rv.os m)) β' F' w' rv.vs v
  step : Step (atL (os.map some)) (below os.length) β F w (atL rv.os) (below rv.os.length) β' F' w'

/-- What a function owes that is said to go on with K. -/
def Owes (P : Program) (cx : Cx D) (f : FuncId) (args : List (PV D)) (os : List (Obj D)) (K : RV D → Option R) (r : R) : Prop :=
  ∀ β F w vals, HRep cx (atL (os.map some)) β F w → PReps cx (fun m => shO cx (atL (os.map some) m)) β F w args vals → (∀ n ∈ names.go args, n < os.length) → (∀ m, ∀ n ∈ namesO (atL (os.map some) m), n < os.length) →
    CallOut P f vals.toArray w fun v w' => ∃ rv β' F', K rv = some r ∧ Ret cx os β F w v w' rv β' F'

def OrcSound (P : Program) (cx : Cx D) (orc : Orc D R) : Prop :=
  ∀ f args os K r, orc f args os K = some r → Owes P cx f args os K r

theorem objsAt_some {f : Nat → Nat} : ∀ {ns : List Nat} {os : List (Obj D)}, objsAt s f ns = some os → os.length = ns.length ∧ ∀ j n, ns[j]? = some n → atL (os.map some) j = mapO f (s.o n) ∧ s.o n ≠ none
  | [], os, h => by simp [objsAt] at h; subst h; simp
  | n :: ns, os, h => by
    unfold objsAt at h
    split at h
    · rename_i o os' h1 h2
      simp at h; subst h
      obtain ⟨k1, k2⟩ := objsAt_some h2
      refine ⟨by simp [k1], fun j m hm => ?_⟩
      cases j with
      | zero => simp at hm; subst hm; simp [atL, mapO, h1]
      | succ j => simp at hm; have := k2 j m hm; simpa [atL] using this
    · simp at h

theorem atL_none {os : List (Option (Obj D))} {n : Nat} (h : os.length ≤ n) : atL os n = none := by simp [atL, List.getElem?_eq_none h]

theorem sameO_mapR {g : Nat → Nat} {o o' : Option (Obj D)} (h : sameO o o') : sameO o (mapO g o') := by
  cases o with
  | none => cases sameO_none h; trivial
  | some ob => cases o' with
    | none => cases ob <;> exact h.elim
    | some ob' => cases ob <;> cases ob' <;> exact h

section merge
variable {ns : List Nat} {nm : Nat} {Oc Oc' : Nat → Option (Obj D)} {βc βc' : Beta} {Fb F1 F2 : Nat → Prop} {os' : List (Option (Obj D))}

theorem newB_iff {i : Nat} : newB ns nm os' i = true ↔ nm ≤ i ∧ i < nm + (os'.length - ns.length) := by simp [newB]

def mergeβ (ns : List Nat) (nm : Nat) (os' : List (Option (Obj D))) (β βc' : Beta) : Beta := fun i => bif newB ns nm os' i then βc' (ns.length + (i - nm)) else β i

/-- What a name is, after a call: what was handed in or made, or what it was. -/
theorem putO_cases (_hnd : ns.Nodup) (hnew : ∀ i, newB ns nm os' i = true → i ∉ ns) (hlen : ns.length ≤ os'.length) (s : St D) (β βc' : Beta) (hβ : ∀ j n, ns[j]? = some n → βc' j = β n) (n : Nat) :
    (∃ j, j < os'.length ∧ back ns nm j = n ∧ (putO ns nm os' s).o n = mapO (back ns nm) (atL os' j) ∧ mergeβ ns nm os' β βc' n = βc' j ∧ (j < ns.length → ns[j]? = some n)) ∨ (n ∉ ns ∧ newB ns nm os' n = false ∧ (putO ns nm os' s).o n = s.o n ∧ mergeβ ns nm os' β βc' n = β n) := by
  by_cases h1 : n ∈ ns
  · left
    obtain ⟨k1, k2⟩ := idx_lt h1
    have hnb : newB ns nm os' n = false := by rw [Bool.eq_false_iff]; intro h; exact hnew n h h1
    refine ⟨idx ns n, by omega, back_lt k2, ?_, ?_, fun _ => k2⟩
    · simp only [putO, memN_iff.2 h1, cond_true]; rfl
    · simp only [mergeβ, hnb, cond_false]; exact (hβ _ _ k2).symm
  · cases h2 : newB ns nm os' n with
    | true =>
      left
      obtain ⟨k1, k2⟩ := newB_iff.1 h2
      refine ⟨ns.length + (n - nm), by omega, ?_, ?_, ?_, fun h => by omega⟩
      · rw [back_ge (by omega)]; omega
      · simp only [putO, memN_not.2 h1, h2, cond_false, cond_true]; rfl
      · simp only [mergeβ, h2, cond_true]
    | false =>
      right
      exact ⟨h1, rfl, by simp only [putO, memN_not.2 h1, h2, cond_false], by simp only [mergeβ, h2, cond_false]⟩

/-- What a place of the callee's is called here. -/
theorem putO_back (hnd : ns.Nodup) (hnew : ∀ i, newB ns nm os' i = true → i ∉ ns) (s : St D) (β βc' : Beta) (hβ : ∀ j n, ns[j]? = some n → βc' j = β n) {j : Nat} (hj : j < os'.length) :
    (putO ns nm os' s).o (back ns nm j) = mapO (back ns nm) (atL os' j) ∧ mergeβ ns nm os' β βc' (back ns nm j) = βc' j ∧ ((putO ns nm os' s).u (back ns nm j) = true ∨ back ns nm j ∈ ns) := by
  by_cases h : j < ns.length
  · have h1 : ns[j]? = some ns[j] := List.getElem?_eq_getElem h
    have hm := List.mem_of_getElem? h1
    rw [back_lt h1]
    have hnb : newB ns nm os' ns[j] = false := by rw [Bool.eq_false_iff]; intro h; exact hnew _ h hm
    refine ⟨?_, ?_, .inr hm⟩
    · simp only [putO, memN_iff.2 hm, cond_true, idx_get hnd h1]; rfl
    · simp only [mergeβ, hnb, cond_false]; exact (hβ _ _ h1).symm
  · rw [back_ge (by omega)]
    have h2 : newB ns nm os' (nm + (j - ns.length)) = true := newB_iff.2 ⟨by omega, by omega⟩
    have h1 := hnew _ h2
    have he : ns.length + (nm + (j - ns.length) - nm) = j := by omega
    refine ⟨?_, ?_, .inl ?_⟩
    · simp only [putO, memN_not.2 h1, h2, cond_false, cond_true, he]; rfl
    · simp only [mergeβ, h2, cond_true, he]
    · simp [putO, h2]

theorem merge (hs : SRep cx N s β Fb a w) (hnd : ns.Nodup) (hsome : ∀ n ∈ ns, s.o n ≠ none) (hfresh : ∀ i, newB ns nm os' i = true → s.u i = false) (hlen : ns.length ≤ os'.length)
    {f : Nat → Nat} (hOc : ∀ j n, ns[j]? = some n → Oc j = mapO f (s.o n) ∧ βc j = β n) (hOn : ∀ j, ns.length ≤ j → Oc j = none)
    (hF1 : ∀ b, Fb b → F1 b) (hcan : HRep cx Oc βc F1 w) (hce : HRep cx (atL os') βc' F' w') (hst : Step Oc (below ns.length) βc F1 w (atL os') (below os'.length) βc' F' w')
    (hobs : ∀ m, ∀ n ∈ namesO (atL os' m), n < os'.length) (h2a : ∀ b, Fb b → F2 b) (h2b : ∀ b, F2 b → F' b) (h2c : ∀ b, F2 b → Fb b ∨ (∃ m, Wr Oc βc m b) ∨ w.heap.size ≤ b)
    (hfl : ∀ r, cx.fl r = true → ∀ v, ∀ x ∈ cx.deep r v, x.flat = true) (hl : (∀ b, F' b → F2 b) ∨ ∀ j, hasListO cx (atL os' j) = false ∧ liveO (atL os' j) = true) :
    SRep cx N (putO ns nm os' s) (mergeβ ns nm os' β βc') F2 a w' ∧ Step s.o s.u β Fb w (putO ns nm os' s).o (putO ns nm os' s).u (mergeβ ns nm os' β βc') F2 w' := by
  have hus : ∀ n ∈ ns, s.u n = true := fun n hn => hs.uo n (hsome n hn)
  have hnew : ∀ i, newB ns nm os' i = true → i ∉ ns := fun i hi hm => by have := hus i hm; rw [hfresh i hi] at this; simp at this
  have hβ : ∀ j n, ns[j]? = some n → βc' j = β n := fun j n hj => by
    have hjl := (List.getElem?_eq_some_iff.1 hj).1
    rw [hst.beta j (below_iff.2 hjl), (hOc j n hj).2]
  have pc := putO_cases hnd hnew hlen s β βc' hβ
  have pb := fun {j : Nat} (hj : j < os'.length) => putO_back hnd hnew s β βc' hβ hj
  -- writable blocks
  have wrC : ∀ m b, Wr Oc βc m b → ∃ n, ns[m]? = some n ∧ Wr s.o β n b := by
    intro m b hw
    by_cases hm : m < ns.length
    · have h1 : ns[m]? = some ns[m] := List.getElem?_eq_getElem hm
      exact ⟨_, h1, (Wr_map (hOc m _ h1).1 (hOc m _ h1).2).1 hw⟩
    · obtain ⟨_, h5⟩ := hw; simp [hOn m (by omega)] at h5
  have keepF : ∀ b, Fb b → w'.heap[b]? = w.heap[b]? := fun b hb =>
    hst.kept.block b (hs.hp.fin b hb) (by rintro ⟨m, hm⟩; exact hcan.away m b hm (hF1 b hb))
  have keepW : ∀ n b, n ∉ ns → Wr s.o β n b → w'.heap[b]? = w.heap[b]? := fun n b hn hw =>
    hst.kept.block b (hs.hp.lt hw) (by
      rintro ⟨m, hm⟩
      obtain ⟨n', h1, h2⟩ := wrC m b hm
      have := hs.hp.apart _ _ b hw h2
      subst this
      exact hn (List.mem_of_getElem? h1))
  -- names of old: the same, or gone
  have old : ∀ n, s.u n = true → (shO cx ((putO ns nm os' s).o n) = shO cx (s.o n) ∧ mergeβ ns nm os' β βc' n = β n) ∨ shO cx ((putO ns nm os' s).o n) = none := by
    intro n hu
    rcases pc n with ⟨j, hj, hb, h1, h2, h3⟩ | ⟨h1, h2, h3, h4⟩
    · by_cases hjn : j < ns.length
      · have hn := h3 hjn
        rcases hst.sh j (below_iff.2 hjn) with h4 | h4
        · right; rw [h1, h4]; rfl
        · left
          refine ⟨?_, h2.trans (hβ j n hn)⟩
          rw [h1, shO_map, sameO_sh h4, (hOc j n hn).1, shO_map]
      · have : newB ns nm os' n = true := by
          rw [← hb, back_ge (by omega)]; exact newB_iff.2 ⟨by omega, by omega⟩
        rw [hfresh n this] at hu; simp at hu
    · left; exact ⟨by rw [h3], h4⟩
  have wrN : ∀ n b, Wr (putO ns nm os' s).o (mergeβ ns nm os' β βc') n b → (∃ j, j < os'.length ∧ back ns nm j = n ∧ Wr (atL os') βc' j b) ∨ (n ∉ ns ∧ Wr s.o β n b) := by
    intro n b hw
    rcases pc n with ⟨j, hj, hb, h1, h2, h3⟩ | ⟨h1, h2, h3, h4⟩
    · exact .inl ⟨j, hj, hb, (Wr_map h1 h2).1 hw⟩
    · right
      obtain ⟨k1, k2⟩ := hw
      rw [h4] at k1
      rw [h3] at k2
      exact ⟨h1, k1, k2⟩
  have usedB : ∀ j, j < os'.length → (putO ns nm os' s).u (back ns nm j) = true := by
    intro j hj
    rcases (pb hj).2.2 with h | h
    · exact h
    · simp [putO, hus _ h]
  have used : ∀ n, s.u n = true → (putO ns nm os' s).u n = true := fun n hu => by simp [putO, hu]
  have hp2 : HRep cx (putO ns nm os' s).o (mergeβ ns nm os' β βc') F2 w' := by
    refine .of_orep (fun n ob hn => ?_) (fun n m b h1 h2 => ?_) (fun n b h1 h2 => ?_) (fun b hb => hce.fin b (h2b b hb)) (hs.hp.gl.mono h2a keepF)
    · rcases pc n with ⟨j, hj, hb, h1, h2, h3⟩ | ⟨h1, h2, h3, h4⟩
      · rw [hn] at h1
        cases ho : atL os' j with
        | none => simp [ho, mapO] at h1
        | some ob0 =>
          rw [ho] at h1
          simp only [mapO, Option.some.injEq] at h1
          subst h1
          rw [h2]
          have h5 := hce.obj ho
          have hnm : ∀ m ∈ namesO (some ob0), m < os'.length := fun m hm => hobs j m (by rw [ho]; exact hm)
          have h6 : ORep cx (fun m => shO cx (atL os' m)) βc' F2 w' (βc' j) ob0 := by
            rcases hl with hl | hl
            · exact h5.mono hl (fun _ _ => rfl) (fun _ _ _ => rfl) (fun m _ => .inl ⟨rfl, rfl⟩)
            · obtain ⟨l1, l2⟩ := hl j
              rw [ho] at l1 l2
              cases ob0 with
              | box cs =>
                obtain ⟨b, c, e, fr, hb, hB⟩ := h5
                exact ⟨b, c, e, fr, hb, hB.at_, hB.free, PReps.noList _ _ l1 hB.reps⟩
              | row t xs l =>
                rcases h5 with h5 | ⟨b, off, cap, c, e, fr, hb, hR⟩
                · exact .inl h5
                · refine .inr ⟨b, off, cap, c, e, fr, hb, hR.at_, hR.lecap, hR.size, hR.free, fun i x k y hx hy => ?_, fun hl => ?_⟩
                  · obtain ⟨u, hu, hr⟩ := hR.cell i x k y hx hy
                    refine ⟨u, hu, ?_⟩
                    have hflat : Ty.flatC cx t = true := by simpa [hasListO] using l1
                    have hyf := flat_iv hfl t x y hflat (List.mem_of_getElem? hy)
                    cases hr <;> first | (simp [IV.flat] at hyf; done) | constructor
                  · simp [liveO, hl] at l2
          refine h6.ren fun m hm => ?_
          obtain ⟨k1, k2, _⟩ := pb (hnm m hm)
          exact ⟨by simp only [k1, shO_map], k2⟩
      · rw [h3] at hn
        rw [h4]
        refine (hs.hp.obj hn).mono h2a keepF (fun b x hb => ?_) (fun m hm => old m (hs.ub n m (by rw [hn]; exact hm)))
        cases ob with
        | box cs => exact keepW n b h1 ⟨⟨x, hb⟩, by simp [hn]⟩
        | row t xs l =>
          cases l with
          | true => exact keepW n b h1 ⟨⟨x, hb⟩, by simp [hn]⟩
          | false =>
            rcases hs.hp.row n t xs false hn with ⟨h5, _⟩ | ⟨b', off, cap, c, e, fr, hb', hR⟩
            · rw [h5] at hb; simp at hb
            · rw [hb'] at hb; simp at hb; obtain ⟨rfl, _⟩ := hb; exact keepF _ (hR.still rfl)
    · rcases wrN n b h1 with ⟨i, hi, hbi, wi⟩ | ⟨hn, wi⟩ <;> rcases wrN m b h2 with ⟨j, hj, hbj, wj⟩ | ⟨hm, wj⟩
      · rw [← hbi, ← hbj, hce.apart i j b wi wj]
      · exfalso
        rcases hst.wr i b wi with ⟨k, hk⟩ | hk
        · obtain ⟨n', e1, e2⟩ := wrC k b hk
          have := hs.hp.apart _ _ b wj e2
          subst this
          exact hm (List.mem_of_getElem? e1)
        · have := hs.hp.lt wj; omega
      · exfalso
        rcases hst.wr j b wj with ⟨k, hk⟩ | hk
        · obtain ⟨n', e1, e2⟩ := wrC k b hk
          have := hs.hp.apart _ _ b wi e2
          subst this
          exact hn (List.mem_of_getElem? e1)
        · have := hs.hp.lt wi; omega
      · exact hs.hp.apart n m b wi wj
    · rcases wrN n b h1 with ⟨i, hi, hbi, wi⟩ | ⟨hn, wi⟩
      · exact hce.away i b wi (h2b b h2)
      · rcases h2c b h2 with h5 | ⟨k, hk⟩ | h5
        · exact hs.hp.away n b wi h5
        · obtain ⟨n', e1, e2⟩ := wrC k b hk
          have := hs.hp.apart _ _ b wi e2
          subst this
          exact hn (List.mem_of_getElem? e1)
        · have := hs.hp.lt wi; omega
  refine ⟨hs.objs hp2 h2a keepF old used (fun m n hm => ?_) (fun m hm => ?_), ⟨used, fun n hu => ?_, ⟨hst.kept.os, hst.kept.tape, hst.kept.output, hst.kept.size, fun b hb hw => hst.kept.block b hb ?_⟩, fun n b hw => ?_, h2a, fun b hb => ?_, fun n hu => ?_⟩⟩
  · replace hm : n ∈ namesO ((putO ns nm os' s).o m) := hm
    show (putO ns nm os' s).u n = true
    rcases pc m with ⟨j, hj, hb, h1, h2, h3⟩ | ⟨h1, h2, h3, h4⟩
    · rw [h1, namesO_map] at hm
      obtain ⟨k, hk, rfl⟩ := List.mem_map.1 hm
      exact usedB k (hobs j k hk)
    · rw [h3] at hm; exact used n (hs.ub m n hm)
  · replace hm : (putO ns nm os' s).o m ≠ none := hm
    show (putO ns nm os' s).u m = true
    rcases pc m with ⟨j, hj, hb, h1, h2, h3⟩ | ⟨h1, h2, h3, h4⟩
    · rw [← hb]; exact usedB j hj
    · rw [h3] at hm; exact used m (hs.uo m hm)
  · have hnb : newB ns nm os' n = false := by rw [Bool.eq_false_iff]; intro h; rw [hfresh n h] at hu; simp at hu
    simp only [mergeβ, hnb, cond_false]
  · rintro ⟨m, hm⟩
    obtain ⟨n', _, e2⟩ := wrC m b hm
    exact hw ⟨n', e2⟩
  · rcases wrN n b hw with ⟨i, hi, hbi, wi⟩ | ⟨hn, wi⟩
    · rcases hst.wr i b wi with ⟨k, hk⟩ | hk
      · obtain ⟨n', _, e2⟩ := wrC k b hk
        exact .inl ⟨n', e2⟩
      · exact .inr hk
    · exact .inl ⟨n, wi⟩
  · rcases h2c b hb with h5 | ⟨k, hk⟩ | h5
    · exact .inl h5
    · obtain ⟨n', _, e2⟩ := wrC k b hk
      exact .inr (.inl ⟨n', e2⟩)
    · exact .inr (.inr h5)
  · rcases pc n with ⟨j, hj, hb, h1, h2, h3⟩ | ⟨h1, h2, h3, h4⟩
    · by_cases hjn : j < ns.length
      · have hn := h3 hjn
        rw [h1]
        rcases hst.sh j (below_iff.2 hjn) with h4 | h4
        · left; rw [h4]; rfl
        · right
          rw [(hOc j n hn).1] at h4
          exact sameO_mapR (sameO_map' h4)
      · have : newB ns nm os' n = true := by
          rw [← hb, back_ge (by omega)]; exact newB_iff.2 ⟨by omega, by omega⟩
        rw [hfresh n this] at hu; simp at hu
    · right; rw [h3]; exact sameO_refl _
end merge

end Go.Am

/-! A call, whole. -/
namespace Go.Am
variable {D : Nat → Type} {R : Type} {cx : Cx D} {orc : Orc D R} {keep : FuncId → List Bool} {N : Nat} {s : St D} {β β' : Beta} {F F' : Nat → Prop} {S S' : Nat → Option Sh} {a : Act} {w w' : World} {P : Program}

theorem frzNs_all : ∀ (l : List Nat) (s : St D), frzNs s l = frzAll s (l.map PV.own)
  | [], _ => rfl
  | n :: ns, s => by simp only [frzNs, List.map_cons, frzAll, frz]; exact frzNs_all ns _

theorem frzN_ne {n m : Nat} (h : n ≠ m) (s : St D) : (frzN s m).o n = s.o n := by
  unfold frzN; split
  · simp [St.setO, upd_ne _ _ _ _ h]
  · rfl
theorem frzNs_ne : ∀ (l : List Nat) (s : St D) {n : Nat}, n ∉ l → (frzNs s l).o n = s.o n
  | [], _, _, _ => rfl
  | m :: ms, s, n, h => by
    simp only [frzNs]
    rw [frzNs_ne ms _ (fun hm => h (by simp [hm])), frzN_ne (fun hm => h (by simp [hm]))]

theorem borrow_rep (hs : SRep cx N s β F a w) {p : PV D} {v : Value} (hp : PRep cx (fun m => shO cx (s.o m)) β F w p v) {F1 : Nat → Prop} (hF : ∀ b, F b → F1 b) (hB : ∀ o ∈ lentN.rowsN p, ∀ b, frzF s β F o b → F1 b) (hS : ∀ n, S' n = shO cx (s.o n)) :
    PRep cx S' β F1 w (borrow s p) v := by
  have one : ∀ q u, PRep cx (fun m => shO cx (s.o m)) β F w q u → (∀ o ∈ lentN.rowN q, ∀ b, frzF s β F o b → F1 b) → PRep cx S' β F1 w (settle s q) u := fun q u hq hb =>
    hs.settled hq hF (fun n _ => .inl ⟨hS n, rfl⟩) (by
      rintro o (rfl | ⟨lo, n, rfl⟩) b hf
      · exact hb o (by simp [lentN.rowN]) b hf
      · exact hb o (by simp [lentN.rowN]) b hf)
  cases p with
  | agg l =>
    obtain ⟨cs, rfl, h⟩ := hp
    refine ⟨cs, rfl, ?_⟩
    have hB' : ∀ q ∈ l, ∀ o ∈ lentN.rowN q, ∀ b, frzF s β F o b → F1 b := fun q hq o ho => hB o (by simp only [lentN.rowsN, List.mem_flatMap]; exact ⟨q, hq, ho⟩)
    clear hB
    revert h hB'
    generalize cs.toList = m
    intro h hB'
    induction l generalizing m with
    | nil => cases m with
      | nil => trivial
      | cons => exact h.elim
    | cons q l ih => cases m with
      | nil => exact h.elim
      | cons u m => exact ⟨one q u h.1 (hB' q (by simp)), ih m h.2 fun q hq => hB' q (by simp [hq])⟩
  | _ => exact one _ v hp hB

theorem lend_rep (hs : SRep cx N s β F a w) {F1 : Nat → Prop} (hF : ∀ b, F b → F1 b) (hS : ∀ n, S' n = shO cx (s.o n)) : ∀ (ks : List Bool) (ps : List (PV D)) (vs : List Value), PReps cx (fun m => shO cx (s.o m)) β F w ps vs →
    (∀ o ∈ lentN ks ps, ∀ b, frzF s β F o b → F1 b) → PReps cx S' β F1 w (lend s ks ps) vs
  | ks, [], [], h, _ => by cases ks <;> exact h
  | ks, [], _ :: _, h, _ => h.elim
  | ks, _ :: _, [], h, _ => h.elim
  | [], p :: ps, v :: vs, h, hB => ⟨borrow_rep hs h.1 hF (fun o ho => hB o (by simp [lentN, ho])) hS, lend_rep hs hF hS [] ps vs h.2 fun o ho => hB o (by simp [lentN, ho])⟩
  | k :: ks, p :: ps, v :: vs, h, hB => by
    refine ⟨?_, lend_rep hs hF hS ks ps vs h.2 fun o ho => hB o (by simp [lentN, ho])⟩
    cases k with
    | true => exact PRep.mono hF (fun _ _ => rfl) _ _ (fun n _ => .inl ⟨hS n, rfl⟩) h.1
    | false => exact borrow_rep hs h.1 hF (fun o ho => hB o (by simp [lentN, ho])) hS

theorem freshB_iff {nm : Nat} : ∀ {k : Nat}, freshB s nm k = true → ∀ i, i < k → s.u (nm + i) = false
  | 0, _, i, hi => by omega
  | k + 1, h, i, hi => by
    simp only [freshB, Bool.and_eq_true, Bool.not_eq_true'] at h
    by_cases hik : i = k
    · subst hik; exact h.1
    · exact freshB_iff h.2 i (by omega)

theorem CallOut.mono {f : FuncId} {vals : Array Value} {RS RS' : Value → World → Prop} (h : CallOut P f vals w RS) (k : ∀ v w', RS v w' → RS' v w') : CallOut P f vals w RS' := by
  rcases h with ⟨v, w', h1, h2⟩ | ⟨h1, h2⟩
  · exact .inl ⟨v, w', h1, k _ _ h2⟩
  · exact .inr ⟨h1, h2.mono fun e w'' ⟨v, he, hr⟩ => ⟨v, he, k _ _ hr⟩⟩

theorem call_out (ok : CxOk cx P) (horc : OrcSound P cx orc) (hs : SRep cx N s β F a w) {g : FuncId} {args : List (PV D)} {vals : List Value} {nm : Nat} {K : PV D → St D → Option R} {r : R} (h : call cx orc keep g args nm s K = some r)
    (hr : PReps cx (fun m => shO cx (s.o m)) β F w args vals) : CallOut P g vals.toArray w (Res cx N s β F a w fun p s' => K p s' = some r) := by
  unfold call at h
  obtain ⟨ln, hln⟩ : ∃ ln, ln = lentN (keep g) args := ⟨_, rfl⟩
  obtain ⟨lent, hlent⟩ : ∃ lent, lent = lend s (keep g) args := ⟨_, rfl⟩
  obtain ⟨ns, hns⟩ : ∃ ns, ns = reach s 1000 (names.go lent) [] := ⟨_, rfl⟩
  simp only [← hln, ← hlent] at h
  simp only [← hns] at h
  obtain ⟨hc, h⟩ := chk_some h
  simp only [Bool.and_eq_true, List.all_eq_true, memN_iff, Bool.not_eq_true', memN_not] at hc
  obtain ⟨⟨⟨c1, c2⟩, c3⟩, c4⟩ := hc
  have hnd := nub_iff.1 c2
  clear hns
  split at h
  · simp at h
  · rename_i os hos
    obtain ⟨ol, oo⟩ := objsAt_some hos
    have horc' := horc _ _ _ _ _ h
    clear h
    -- the lent rows stay as they are
    obtain ⟨F1, f1, f2, f3⟩ := hs.frzAll (ln.map PV.own)
    rw [← frzNs_all] at f1 f2
    have hne : ∀ n, n ∈ ns → (frzNs s ln).o n = s.o n := fun n hn => frzNs_ne ln s fun hm => c4 n hm hn
    have hsh : ∀ n, shO cx ((frzNs s ln).o n) = shO cx (s.o n) := fun n => by rw [frzNs_all]; exact frzAll_sh _ _ _
    have hu1 : (frzNs s ln).u = s.u := by rw [frzNs_all]; exact frzAll_u _ _
    have hlr : PReps cx (fun m => shO cx ((frzNs s ln).o m)) β F1 w lent vals := by
      rw [hlent]
      exact lend_rep hs f2.f0 hsh _ _ _ hr (fun o ho b hb => f3 (.own o) (by rw [hln]; exact List.mem_map_of_mem ho) o (.inl rfl) b hb)
    -- what the callee is handed
    let βc : Beta := fun j => if j < ns.length then β (ns.getD j 0) else none
    have hget : ∀ {j n : Nat}, ns[j]? = some n → ns.getD j 0 = n := fun h => by simp [h]
    have hOc : ∀ j n, ns[j]? = some n → atL (os.map some) j = mapO (idx ns) (s.o n) ∧ βc j = β n := fun j n hj => by
      have hjl := (List.getElem?_eq_some_iff.1 hj).1
      exact ⟨(oo j n hj).1, by simp only [βc, if_pos hjl]; rw [hget hj]⟩
    have hOn : ∀ j, ns.length ≤ j → atL (os.map some) j = none := fun j hj => atL_none (by simpa [ol] using hj)
    have hsome : ∀ n ∈ ns, s.o n ≠ none := fun n hn => (oo _ n (idx_lt hn).2).2
    have hcan : HRep cx (atL (os.map some)) βc F1 w := by
      refine f1.hp.pull (fun j => ns.getD j 0) (idx ns) (fun j => j < ns.length) (fun j => ?_) (fun j hj n hn => ?_) (fun i j hi hj he => ?_)
      · by_cases hj : j < ns.length
        · have h1 : ns[j]? = some ns[j] := List.getElem?_eq_getElem hj
          obtain ⟨k1, k2⟩ := hOc j _ h1
          exact .inr ⟨hj, by simp only [hget h1, hne _ (List.mem_of_getElem? h1)]; exact k1, by simp only [hget h1]; exact k2⟩
        · exact .inl (hOn j (by omega))
      · have h1 : ns[j]? = some ns[j] := List.getElem?_eq_getElem hj
        have hm := List.mem_of_getElem? h1
        simp only [hget h1, hne _ hm] at hn
        have hn' := c3 _ hm n hn
        obtain ⟨k1, k2⟩ := idx_lt hn'
        obtain ⟨k3, k4⟩ := hOc _ _ k2
        exact ⟨by rw [k3, hne n hn'], k4⟩
      · have h1 : ns[i]? = some ns[i] := List.getElem?_eq_getElem hi
        have h2 : ns[j]? = some ns[j] := List.getElem?_eq_getElem hj
        simp only [hget h1, hget h2] at he
        exact (List.getElem_inj hnd).1 he
    have hrun := horc' βc F1 w vals hcan (hlr.ren _ _ fun n hn => by
      have hn' := c1 n hn
      obtain ⟨k1, k2⟩ := idx_lt hn'
      obtain ⟨k3, k4⟩ := hOc _ _ k2
      exact ⟨by simp only [k3, shO_map, hne n hn'], k4⟩) (fun n hn => by
      rw [names_renGo] at hn
      obtain ⟨m, hm, rfl⟩ := List.mem_map.1 hn
      rw [ol]; exact (idx_lt (c1 m hm)).1) (fun m n hn => by
      by_cases hm : m < ns.length
      · have h1 : ns[m]? = some ns[m] := List.getElem?_eq_getElem hm
        rw [(hOc m _ h1).1, namesO_map] at hn
        obtain ⟨k, hk, rfl⟩ := List.mem_map.1 hn
        rw [ol]; exact (idx_lt (c3 _ (List.mem_of_getElem? h1) k hk)).1
      · rw [hOn m (by omega)] at hn; simp [namesO] at hn)
    refine hrun.mono ?_
    rintro v w' ⟨rv, βc', F', hK, hR⟩
    have hce := hR.hp
    have hpv := hR.rep
    have hst := hR.step
    rw [ol] at hst
    obtain ⟨hfr, hK⟩ := chk_some hK
    have hfresh : ∀ i, newB ns nm rv.os i = true → s.u i = false := by
      intro i hi
      obtain ⟨h1, h2⟩ := newB_iff.1 hi
      have := freshB_iff hfr (i - nm) (by omega)
      rwa [show nm + (i - nm) = i by omega] at this
    have hlen : ns.length ≤ rv.os.length := by rw [← ol]; exact hR.len
    -- from the callee's names to ours
    have finish : ∀ (sb : St D) (Fb F2 : Nat → Prop), SRep cx N sb β Fb a w → sb.u = s.u → (∀ n ∈ ns, sb.o n = s.o n) → (∀ b, Fb b → F1 b) → (∀ b, Fb b → F2 b) → (∀ b, F2 b → F' b) → (∀ b, F2 b → Fb b ∨ (∃ m, Wr (atL (os.map some)) βc m b) ∨ w.heap.size ≤ b) →
        ((∀ b, F' b → F2 b) ∨ (hasList rv.vs = false ∧ ∀ j, hasListO cx (atL rv.os j) = false ∧ liveO (atL rv.os j) = true)) → Step s.o s.u β F w sb.o sb.u β Fb w → K (Am.ren (back ns nm) rv.vs) (putO ns nm rv.os sb) = some r → Res cx N s β F a w (fun p s' => K p s' = some r) v w' := by
      intro sb Fb F2 b1 b2 b3 b4 b5 b6 b7 b8 b9 bK
      have hfr' : ∀ i, newB ns nm rv.os i = true → sb.u i = false := fun i hi => by rw [b2]; exact hfresh i hi
      obtain ⟨m1, m2⟩ := merge (nm := nm) (os' := rv.os) b1 hnd (fun n hn => by rw [b3 n hn]; exact hsome n hn) hfr' hlen (f := idx ns) (fun j n hj => by rw [b3 n (List.mem_of_getElem? hj)]; exact hOc j n hj) hOn b4 hcan hce hst hR.obs b5 b6 b7 ok.fl (b8.imp id (fun h => h.2))
      have hus : ∀ n ∈ ns, sb.u n = true := fun n hn => b1.uo n (by rw [b3 n hn]; exact hsome n hn)
      have hnew : ∀ i, newB ns nm rv.os i = true → i ∉ ns := fun i hi hm => by have := hus i hm; rw [hfr' i hi] at this; simp at this
      have hβ : ∀ j n, ns[j]? = some n → βc' j = β n := fun j n hj => by
        have hjl := (List.getElem?_eq_some_iff.1 hj).1
        rw [hst.beta j (below_iff.2 hjl), (hOc j n hj).2]
      refine ⟨_, _, F2, Am.ren (back ns nm) rv.vs, m1, ?_, ?_, b9.trans m2, bK⟩
      · have hpv' : PRep cx (fun m => shO cx (atL rv.os m)) βc' F2 w' rv.vs v := by
          rcases b8 with h | ⟨h, _⟩
          · exact PRep.mono h (fun _ _ => rfl) _ _ (fun n _ => .inl ⟨rfl, rfl⟩) hpv
          · exact PRep.noList _ _ h hpv
        refine hpv'.ren _ _ fun n hn => ?_
        obtain ⟨k1, k2, _⟩ := putO_back hnd hnew sb β βc' hβ (hR.vs n hn)
        exact ⟨by simp only [k1, shO_map], k2⟩
      · intro n hn
        rw [names_ren] at hn
        obtain ⟨m, hm, rfl⟩ := List.mem_map.1 hn
        obtain ⟨_, _, k3⟩ := putO_back hnd hnew sb β βc' hβ (hR.vs m hm)
        rcases k3 with k3 | k3
        · exact k3
        · exact m2.used _ (hus _ k3)
    cases hcond : (hasList rv.vs || rv.os.any (hasListO cx) || !rv.os.all liveO) with
    | true =>
      rw [hcond] at hK
      exact finish (frzNs s ln) F1 F' f1 hu1 hne (fun _ h => h) hst.f0 (fun _ h => h) hst.f1 (.inl fun _ h => h) f2 hK
    | false =>
      rw [hcond] at hK
      simp only [Bool.or_eq_false_iff, Bool.not_eq_false', List.any_eq_false, List.all_eq_true] at hcond
      obtain ⟨⟨d1, d2⟩, d3⟩ := hcond
      refine finish s F F hs rfl (fun _ _ => rfl) f2.f0 (fun _ h => h) (fun b hb => hst.f0 b (f2.f0 b hb)) (fun b hb => .inl hb) (.inr ⟨d1, fun j => ?_⟩) (.refl _ _ _ _ _) hK
      unfold atL
      rw [List.getD_eq_getElem?_getD]
      cases hj : rv.os[j]? with
      | none => exact ⟨rfl, rfl⟩
      | some ob =>
        have hm := List.mem_of_getElem? hj
        exact ⟨by simpa using d2 ob hm, d3 ob hm⟩

end Go.Am
