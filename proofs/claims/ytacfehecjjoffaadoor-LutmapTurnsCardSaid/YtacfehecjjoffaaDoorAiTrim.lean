/- Resources that fall away; what leaves a call. -/
import Derived.Test.YtacfehecjjoffaaDoorAiStep2
set_option linter.unusedVariables false
set_option linter.unusedSimpArgs false
namespace Go.AI
open Go

variable {c : Cfg} {E E1 E' : Env} {st st1 : St} {w w1 : World} {n : Nat}

theorem take_get {r : Nat} (h : r < n) : (st.take n)[r]? = st[r]? := by rw [List.getElem?_take, if_pos h]
theorem take_get_some {r : Nat} {x : Res} (h : (st.take n)[r]? = some x) : r < n ∧ st[r]? = some x := by
  rw [List.getElem?_take] at h
  split at h
  · rename_i hr; exact ⟨hr, h⟩
  · simp at h

theorem belowAll_get : ∀ (l : List Cell), Cell.refs.belowAll n l = true → ∀ (i : Nat) (x : Cell), l[i]? = some x → x.refs n = true
  | [], _, i, x, h => by simp at h
  | y :: l, hb, i, x, h => by
    simp only [Cell.refs.belowAll, Bool.and_eq_true] at hb
    cases i with
    | zero => simp at h; subst h; exact hb.1
    | succ i => exact belowAll_get l hb.2 i x (by simpa using h)
theorem all_get : ∀ (l : List AV), AV.refs.all n l = true → ∀ (i : Nat) (x : AV), l[i]? = some x → x.refs n = true
  | [], _, i, x, h => by simp at h
  | y :: l, hb, i, x, h => by
    simp only [AV.refs.all, Bool.and_eq_true] at hb
    cases i with
    | zero => simp at h; subst h; exact hb.1
    | succ i => exact all_get l hb.2 i x (by simpa using h)

theorem CC.take (hn : n ≤ st.length) {x : Cell} {v : Value} (h : CC E st x v) (hr : x.refs n = true) : CC E (st.take n) x v := by
  have hlen : (st.take n).length = n := by simp; omega
  induction h with
  | pure x v hp ht =>
    refine .pure x v hp fun tok e rows hx => ?_
    have := ht tok e rows hx
    subst hx
    cases tok with
    | no => trivial
    | exact => exact this
    | tail r =>
      have hrn : r < n := by simpa [Cell.refs] using hr
      exact ⟨by omega, fun m e' hm => this.2 m e' (by rw [← take_get hrn]; exact hm)⟩
  | own r g esz cp off len A cap h1 h2 h3 h4 h5 =>
    have hrn : r < n := by simpa [Cell.refs] using hr
    exact .own r g esz cp off len A cap (by omega) h2 h3 (fun t g' cells hx => h4 t g' cells (by rw [← take_get hrn]; exact hx)) (fun t g' hx => h5 t g' (by rw [← take_get hrn]; exact hx))
  | ptr r g off a h1 h2 h3 =>
    have hrn : r < n := by simpa [Cell.refs] using hr
    exact .ptr r g off a (by omega) (fun t g' cells hx => h2 t g' cells (by rw [← take_get hrn]; exact hx)) (fun t g' hx => h3 t g' (by rw [← take_get hrn]; exact hx))
  | fp cells b o vs h1 h2 => exact .fp cells b o vs h1 h2
  | map r m h1 h2 =>
    have hrn : r < n := by simpa [Cell.refs] using hr
    exact .map r m (by omega) fun kt et es hx => h2 kt et es (by rw [← take_get hrn]; exact hx)
  | func f first captured fs cs h1 h2 _ _ i1 i2 =>
    simp only [Cell.refs, Bool.and_eq_true] at hr
    exact .func f first captured fs cs h1 h2 (fun i x hx => i1 i x hx (belowAll_get _ hr.1 i x hx)) (fun i x hx => i2 i x hx (belowAll_get _ hr.2 i x hx))

theorem AVC.take (hn : n ≤ st.length) {x : AV} {v : Value} (h : AVC E st x v) (hr : x.refs n = true) : AVC E (st.take n) x v := by
  induction h with
  | any v => exact .any v
  | one x v hx => exact .one x v (hx.take hn (by simpa [AV.refs] using hr))
  | agg cs vs hs hc =>
    simp only [AV.refs, List.all_eq_true] at hr
    exact .agg cs vs hs fun i x hi => (hc i x hi).take hn (hr x (List.mem_of_getElem? hi))
  | tup xs vs hs _ ih => exact .tup xs vs hs fun i x hi => ih i x hi (all_get _ (by simpa [AV.refs] using hr) i x hi)

/-- What is related refers to what there is. -/
theorem CC.refs {x : Cell} {v : Value} (h : CC E st x v) : x.refs st.length = true := by
  induction h with
  | pure x v hp ht =>
    cases x with
    | slice tok e rows =>
      cases tok with
      | tail r => simpa [Cell.refs] using (ht _ _ _ rfl).1
      | _ => rfl
    | own => cases hp
    | ptr => cases hp
    | map => cases hp
    | func => cases hp
    | _ => rfl
  | own r g esz cp off len A cap h1 => simpa [Cell.refs] using h1
  | ptr r g off a h1 => simpa [Cell.refs] using h1
  | fp => rfl
  | map r m h1 => simpa [Cell.refs] using h1
  | func f first captured fs cs h1 h2 c1 c2 i1 i2 =>
    have key : ∀ (l : List Cell), (∀ (i : Nat) (x : Cell), l[i]? = some x → x.refs st.length = true) → Cell.refs.belowAll st.length l = true := by
      intro l
      induction l with
      | nil => intro _; rfl
      | cons y l ih =>
        intro h
        simp only [Cell.refs.belowAll, Bool.and_eq_true]
        exact ⟨h 0 y (by simp), ih fun i x hx => h (i + 1) x (by simpa using hx)⟩
    simp only [Cell.refs, Bool.and_eq_true]
    exact ⟨key _ i1, key _ i2⟩
theorem AVC.refs {x : AV} {v : Value} (h : AVC E st x v) : x.refs st.length = true := by
  induction h with
  | any v => rfl
  | one x v hx => simpa [AV.refs] using hx.refs
  | agg cs vs hs hc =>
    simp only [AV.refs, List.all_eq_true]
    intro x hx
    obtain ⟨i, hi⟩ := List.getElem?_of_mem hx
    exact (hc i x hi).refs
  | tup xs vs hs _ ih =>
    have key : ∀ (l : List AV), (∀ (i : Nat) (x : AV), l[i]? = some x → x.refs st.length = true) → AV.refs.all st.length l = true := by
      intro l
      induction l with
      | nil => intro _; rfl
      | cons y l ih =>
        intro h
        simp only [AV.refs.all, Bool.and_eq_true]
        exact ⟨h 0 y (by simp), ih fun i x hx => h (i + 1) x (by simpa using hx)⟩
    simpa [AV.refs] using key _ ih

theorem blk_take {r b : Nat} (h : blk E (st.take n) r = some b) : r < n ∧ blk E st r = some b := by
  unfold blk at h ⊢
  cases hx : (st.take n)[r]? with
  | none => rw [hx] at h; simp at h
  | some x =>
    obtain ⟨h1, h2⟩ := take_get_some hx
    rw [hx] at h
    rw [h2]
    exact ⟨h1, h⟩

/-- Res.refs, read. -/
def RefsOK (n : Nat) (st : St) : Prop := ∀ r x, r < n → st[r]? = some x → (∀ t g cells, x = .row t g cells → ∀ (i : Nat) (y : Cell), cells[i]? = some y → y.refs n = true) ∧
  (∀ kt et es, x = .map kt et es → ∀ (i : Nat) (e : Cell × List Cell), es[i]? = some e → ∀ y ∈ e.2, y.refs n = true)

theorem refsOK_of (h : (st.take n).all (·.refs n) = true) : RefsOK n st := by
  intro r x hr hx
  rw [List.all_eq_true] at h
  have := h x (List.mem_of_getElem? (i := r) (by rw [take_get hr]; exact hx))
  refine ⟨fun t g cells he i y hy => ?_, fun kt et es he i e hi y hy => ?_⟩
  · subst he
    simp only [Res.refs, List.all_eq_true] at this
    exact this y (List.mem_of_getElem? hy)
  · subst he
    simp only [Res.refs, List.all_eq_true, Bool.and_eq_true] at this
    exact (this e (List.mem_of_getElem? hi)).2 y hy

theorem avOf_refs {t : TypeId} {cs : List Cell} {a : AV} (h : avOf c t cs = some a) (hc : ∀ y ∈ cs, y.refs n = true) : a.refs n = true := by
  unfold avOf at h
  split at h
  · simp only [Option.some.injEq] at h; subst h
    simpa [AV.refs] using hc
  · split at h
    · simp only [Option.some.injEq] at h; subst h
      simpa [AV.refs] using hc _ (List.mem_cons_self ..)
    · simp at h
  · simp at h

theorem WS.take (h : WS c E st w) (hn : n ≤ st.length) (hr : RefsOK n st) : WS c E (st.take n) w where
  hF := h.hF
  row := fun r t g cells hx => by
    obtain ⟨h1, h2⟩ := take_get_some hx
    obtain ⟨cs, a1, a2, a3, a4, a5⟩ := h.row r t g cells h2
    exact ⟨cs, a1, a2, a3, fun i y hy => (a4 i y hy).take hn ((hr r _ h1 h2).1 t g cells rfl i y hy), a5⟩
  tail := fun r k e hx => h.tail r k e (take_get_some hx).2
  map := fun r kt et es hx => by
    obtain ⟨h1, h2⟩ := take_get_some hx
    obtain ⟨ms, cl, a1, a2, a3⟩ := h.map r kt et es h2
    refine ⟨ms, cl, a1, a2, fun i e hi => ?_⟩
    obtain ⟨m, b1, b2, b3, av, b4, b5⟩ := a3 i e hi
    exact ⟨m, b1, b2, b3, av, b4, b5.take hn (avOf_refs b4 ((hr r _ h1 h2).2 kt et es rfl i e hi))⟩
  inj := fun r r' b h1 h2 => h.inj r r' b (blk_take h1).2 (blk_take h2).2
  glob := h.glob

theorem Ext.take {N : Nat} {X : Nat → Prop} (h : Ext N X E st E1 st1) (hn : st.length ≤ n) (hn1 : n ≤ st1.length) : Ext N X E st E1 (st1.take n) where
  F := h.F
  Fnew := h.Fnew
  len := by simp; omega
  row := fun r t g cells hx => by rw [take_get (Nat.lt_of_lt_of_le (get_lt hx) hn)]; exact h.row r t g cells hx
  nrow := fun r t g hx => by rw [take_get (Nat.lt_of_lt_of_le (get_lt hx) hn)]; exact h.nrow r t g hx
  tail := fun r k e hx => by rw [take_get (Nat.lt_of_lt_of_le (get_lt hx) hn)]; exact h.tail r k e hx
  map := fun r kt et es hx => by rw [take_get (Nat.lt_of_lt_of_le (get_lt hx) hn)]; exact h.map r kt et es hx
  dead := fun r hx => by rw [take_get (Nat.lt_of_lt_of_le (get_lt hx) hn)]; exact h.dead r hx
  blocks := fun r b hx => h.blocks r b (blk_take hx).2

theorem Step.take (h : Step c E st w E1 st1 w1) (hn : st.length ≤ n) (hn1 : n ≤ st1.length) (hr : RefsOK n st1) : Step c E st w E1 (st1.take n) w1 :=
  ⟨h.ws.take hn1 hr, h.ext.take hn hn1, h.kept⟩

theorem trim_cases (n : Nat) (ok : Bool) (st : St) : trim n ok st = st ∨ (n < st.length ∧ ok = true ∧ RefsOK n st ∧ trim n ok st = st.take n) := by
  unfold trim
  by_cases h : st.length ≤ n
  · rw [if_pos h]; exact .inl rfl
  · rw [if_neg h]
    split
    · rename_i hc
      simp only [Bool.and_eq_true] at hc
      exact .inr ⟨by omega, hc.1, refsOK_of hc.2, rfl⟩
    · exact .inl rfl

theorem Step.trim (h : Step c E st w E1 st1 w1) (ok : Bool) : Step c E st w E1 (trim st.length ok st1) w1 := by
  rcases trim_cases st.length ok st1 with h1 | ⟨h1, _, h3, h4⟩
  · rw [h1]; exact h
  · rw [h4]; exact h.take (Nat.le_refl _) (by omega) h3
theorem AVC.trim {x : AV} {v : Value} (h : AVC E st x v) (n : Nat) : AVC E (Go.AI.trim n (x.refs n) st) x v := by
  rcases trim_cases n (x.refs n) st with h1 | ⟨h1, h2, h3, h4⟩
  · rw [h1]; exact h
  · rw [h4]; exact h.take (by omega) h2

theorem fr_refs {fr : Fr} (h : fr.refs n = true) (t : Nat) : (fr.get t).refs n = true := by
  induction fr with
  | nil => rfl
  | cons p fr ih =>
    obtain ⟨k, v⟩ := p
    simp only [Fr.refs, List.all_cons, Bool.and_eq_true] at h
    simp only [Fr.get]
    split
    · exact h.1
    · exact ih (by simpa [Fr.refs] using h.2)
theorem FrC.trim {fr : Fr} {a : Act} (h : FrC E st fr a) (n : Nat) : FrC E (Go.AI.trim n (fr.refs n) st) fr a := by
  intro t
  rcases trim_cases n (fr.refs n) st with h1 | ⟨h1, h2, h3, h4⟩
  · rw [h1]; exact h t
  · rw [h4]; exact (h t).take (by omega) (fr_refs h2 t)
theorem FrC.ext {N : Nat} {X : Nat → Prop} {fr : Fr} {a : Act} (he : Ext N X E st E1 st1) (h : FrC E st fr a) : FrC E1 st1 fr a := fun t => (h t).ext he
theorem keep_get (fr : Fr) : ∀ (l : List Nat) (t : Nat), (fr.keep l).get t = if t ∈ l then fr.get t else .any
  | [], t => rfl
  | k :: l, t => by
    simp only [Fr.keep, List.map_cons, Fr.get, List.mem_cons]
    by_cases h : k = t
    · subst h; simp
    · rw [if_neg h]
      have := keep_get fr l t
      simp only [Fr.keep] at this
      rw [this]
      by_cases h2 : t ∈ l
      · simp [h2]
      · simp [h2, Ne.symm h]
theorem FrC.keep {fr : Fr} {a : Act} (l : List Nat) (h : FrC E st fr a) : FrC E st (fr.keep l) a := by
  intro t
  rw [keep_get]
  split
  · exact h t
  · exact .any _
theorem FrC.atHead {fr : Fr} {a : Act} (f : FuncId) (body : Code) (h : FrC E st fr a) : FrC E st (c.atHead f body fr) a := by
  unfold Cfg.atHead
  split
  · exact h.keep _
  · exact h

end Go.AI
