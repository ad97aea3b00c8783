/- How the state of the abstract interpreter and the model's world go on together. -/
import Derived.Test.YtacfehecjjoffaaDoorAiConc
set_option linter.unusedVariables false
set_option linter.unusedSimpArgs false
namespace Go.AI
open Go

variable {c : Cfg} {E E' : Env} {st st' : St} {w w' : World}

theorem WS.F_lt (h : WS c E st w) {b o : Nat} {v : Value} (hb : E.F b o = some v) : b < w.heap.size := by
  have := h.hF b o v hb
  exact World.block_lt_of_cell? w ⟨b, o, none⟩ this
theorem WS.F_new (h : WS c E st w) (o : Nat) : E.F w.heap.size o = none := by
  cases hx : E.F w.heap.size o with
  | none => rfl
  | some v => have := h.F_lt hx; omega
theorem WS.row_lt (h : WS c E st w) {r t g cells} (hr : st[r]? = some (.row t g cells)) : E.loc r < w.heap.size := by
  obtain ⟨cs, h1, _⟩ := h.row r t g cells hr
  exact (Array.getElem?_eq_some_iff.1 h1).1
theorem WS.blk_lt (h : WS c E st w) {r b : Nat} (hb : blk E st r = some b) : b < w.heap.size := by
  unfold blk at hb
  split at hb
  · rename_i t g cells hx; simp at hb; subst hb; exact h.row_lt hx
  · rename_i kt et es hx; simp at hb; subst hb
    obtain ⟨ms, cl, h1, _⟩ := h.map r kt et es hx
    exact (Array.getElem?_eq_some_iff.1 h1).1
  · rename_i n e hx
    split at hb
    · rename_i hlt
      obtain ⟨b', cs, t, h1, h2, _⟩ := (h.tail r n e hx).2 hlt
      rw [h1] at hb; simp at hb; subst hb
      exact (Array.getElem?_eq_some_iff.1 h2).1
    · simp at hb
  · simp at hb

theorem WS.heap (h : WS c E st w) (hh : w'.heap = w.heap) : WS c E st w' where
  hF := fun b o v hb => by have := h.hF b o v hb; simpa [World.cell?, hh] using this
  row := fun r t g cells hr => by rw [hh]; exact h.row r t g cells hr
  tail := fun r n e hr => by rw [hh]; exact h.tail r n e hr
  map := fun r kt et es hr => by rw [hh]; exact h.map r kt et es hr
  inj := h.inj
  glob := h.glob

theorem Step.drew (h : WS c E st w) : Step c E st w E st w.drew := ⟨h.heap rfl, Ext.refl _, ⟨rfl, rfl, rfl, Nat.le_refl _, fun _ _ _ => rfl⟩⟩

theorem blk_push {xs : List Res} {r : Nat} (hr : r < st.length) (hl : E'.loc r = E.loc r) (ht : E'.tl r = E.tl r) : blk E' (st ++ xs) r = blk E st r := by
  simp only [blk, List.getElem?_append_left hr, hl, ht]

theorem Ext.push {xs : List Res} (N : Nat) (hF : E.F.le E'.F) (hFn : ∀ b o, b < N → ¬ live E st b → E'.F b o = E.F b o)
    (hl : ∀ r, r < st.length → E'.loc r = E.loc r ∧ E'.sz r = E.sz r ∧ E'.tl r = E.tl r)
    (hb : ∀ r b, st.length ≤ r → blk E' (st ++ xs) r = some b → N ≤ b ∨ live E st b) : Ext N (live E st) E st E' (st ++ xs) where
  F := hF
  Fnew := hFn
  len := by simp
  row := fun r t g cells hr => by
    have hlt := get_lt hr
    exact .inr ⟨t, g, cells, by rw [List.getElem?_append_left hlt]; exact hr, Nat.le_refl _, fun _ => ⟨(hl r hlt).1, (hl r hlt).2.1⟩⟩
  nrow := fun r t g hr => .inr (.inl (by rw [List.getElem?_append_left (get_lt hr)]; exact hr))
  tail := fun r n e hr => by
    have hlt := get_lt hr
    exact .inr ⟨n, by rw [List.getElem?_append_left hlt]; exact hr, Nat.le_refl _, fun _ => (hl r hlt).2.2⟩
  map := fun r kt et es hr => by
    have hlt := get_lt hr
    exact .inr ⟨es, by rw [List.getElem?_append_left hlt]; exact hr, (hl r hlt).1⟩
  dead := fun r hr => by rw [List.getElem?_append_left (get_lt hr)]; exact hr
  blocks := fun r b hr => by
    rcases Nat.lt_or_ge r st.length with h | h
    · exact .inr ⟨r, by rw [← blk_push h (hl r h).1 (hl r h).2.2]; exact hr⟩
    · exact hb r b h hr

theorem cell_alloc_lt {b o : Nat} {v : Value} {x : Obj} (h : w.cell? ⟨b, o, none⟩ = some v) : (w.alloc x).cell? ⟨b, o, none⟩ = some v := by
  rw [World.cell?_alloc_lt w x ⟨b, o, none⟩ (World.block_lt_of_cell? w _ h)]; exact h
theorem heap_alloc_lt' {b : Nat} {x : Obj} (h : b < w.heap.size) : (w.alloc x).heap[b]? = w.heap[b]? := by
  show (w.heap.push x)[b]? = _
  rw [Array.getElem?_push, if_neg (by omega)]
theorem heap_alloc_at {x : Obj} : (w.alloc x).heap[w.heap.size]? = some x := by
  show (w.heap.push x)[w.heap.size]? = _
  simp
theorem kept_alloc (X : Nat → Prop) (x : Obj) : Kept w.heap.size X w (w.alloc x) := ⟨rfl, rfl, rfl, by simp, fun b hb _ => heap_alloc_lt' hb⟩

theorem AVC.pushes {xs : List Res} {x : AV} {v : Value} (he : Ext w.heap.size (live E st) E st E' (st ++ xs)) (h : AVC E st x v) : AVC E' (st ++ xs) x v := h.ext he

/-- The old part of a state to which something is added. -/
theorem WS.pushed (h : WS c E st w) {xs : List Res} (he : Ext w.heap.size (live E st) E st E' (st ++ xs))
    (hl : ∀ r, r < st.length → E'.loc r = E.loc r ∧ E'.sz r = E.sz r ∧ E'.tl r = E.tl r) (hw : ∀ b, b < w.heap.size → w'.heap[b]? = w.heap[b]?)
    (hF : ∀ b o v, E'.F b o = some v → w'.cell? ⟨b, o, none⟩ = some v)
    (hFr : ∀ r t g cells, st[r]? = some (.row t g cells) → ∀ o, E'.F (E.loc r) o = none)
    (hFt : ∀ r n e b, st[r]? = some (.tail n e) → n < (E.tl r).2 → (E.tl r).1 = some ⟨b, 0, none⟩ → ∀ o, n * e ≤ o → E'.F b o = none)
    (row : ∀ r t g cells, st.length ≤ r → (st ++ xs)[r]? = some (.row t g cells) → ∃ cs, w'.heap[E'.loc r]? = some (.cells cs t (0, 0)) ∧ cs.size = E'.sz r ∧ cells.length ≤ cs.size ∧
      (∀ (i : Nat) (x : Cell), cells[i]? = some x → CC E' (st ++ xs) x (cs.getD i undef)) ∧ (∀ o, E'.F (E'.loc r) o = none))
    (tail : ∀ r n e, st.length ≤ r → (st ++ xs)[r]? = some (.tail n e) → n ≤ (E'.tl r).2 ∧ (n < (E'.tl r).2 → ∃ b cs t, (E'.tl r).1 = some ⟨b, 0, none⟩ ∧ w'.heap[b]? = some (.cells cs t (0, 0)) ∧
      (E'.tl r).2 * e ≤ cs.size ∧ (∀ o, n * e ≤ o → E'.F b o = none)))
    (map : ∀ r kt et es, st.length ≤ r → (st ++ xs)[r]? = some (.map kt et es) → ∃ ms clock, w'.heap[E'.loc r]? = some (.map ms clock) ∧ ms.size = es.length ∧
      (∀ (i : Nat) (e : Cell × List Cell), es[i]? = some e → ∃ m, ms[i]? = some m ∧ keyOf c kt (.one e.1) = some e.1 ∧ CP E'.F e.1 m.key ∧ ∃ av, avOf c et e.2 = some av ∧ AVC E' (st ++ xs) av m.val))
    (inj : ∀ r r' b, st.length ≤ r → blk E' (st ++ xs) r = some b → blk E' (st ++ xs) r' = some b → r = r') : WS c E' (st ++ xs) w' where
  hF := hF
  row := fun r t g cells hr => by
    rcases Nat.lt_or_ge r st.length with hlt | hge
    · have hr' := hr; rw [List.getElem?_append_left hlt] at hr'
      obtain ⟨cs, h1, h2, h3, h4, h5⟩ := h.row r t g cells hr'
      obtain ⟨e1, e2, _⟩ := hl r hlt
      rw [e1, e2]
      exact ⟨cs, by rw [hw _ (h.row_lt hr')]; exact h1, h2, h3, fun i x hx => (h4 i x hx).ext he, hFr r t g cells hr'⟩
    · exact row r t g cells hge hr
  tail := fun r n e hr => by
    rcases Nat.lt_or_ge r st.length with hlt | hge
    · have hr' := hr; rw [List.getElem?_append_left hlt] at hr'
      obtain ⟨h1, h2⟩ := h.tail r n e hr'
      rw [(hl r hlt).2.2]
      refine ⟨h1, fun hn => ?_⟩
      obtain ⟨b, cs, t, a1, a2, a3, a4⟩ := h2 hn
      exact ⟨b, cs, t, a1, by rw [hw _ (Array.getElem?_eq_some_iff.1 a2).1]; exact a2, a3, hFt r n e b hr' hn a1⟩
    · exact tail r n e hge hr
  map := fun r kt et es hr => by
    rcases Nat.lt_or_ge r st.length with hlt | hge
    · have hr' := hr; rw [List.getElem?_append_left hlt] at hr'
      obtain ⟨ms, cl, h1, h2, h3⟩ := h.map r kt et es hr'
      rw [(hl r hlt).1]
      refine ⟨ms, cl, by rw [hw _ (Array.getElem?_eq_some_iff.1 h1).1]; exact h1, h2, fun i e hi => ?_⟩
      obtain ⟨m, a1, a2, a3, av, a4, a5⟩ := h3 i e hi
      exact ⟨m, a1, a2, a3.mono he.F, av, a4, a5.ext he⟩
    · exact map r kt et es hge hr
  inj := fun r r' b h1 h2 => by
    rcases Nat.lt_or_ge r st.length with hlt | hge
    · rcases Nat.lt_or_ge r' st.length with hlt' | hge'
      · rw [blk_push hlt (hl r hlt).1 (hl r hlt).2.2] at h1
        rw [blk_push hlt' (hl r' hlt').1 (hl r' hlt').2.2] at h2
        exact h.inj r r' b h1 h2
      · exact (inj r' r b hge' h2 h1).symm
    · exact inj r r' b hge h1 h2
  glob := fun g cells hg => by
    obtain ⟨vs, hv⟩ := h.glob g cells hg
    exact ⟨vs, fun j x hj => ⟨he.F _ _ _ (hv j x hj).1, (hv j x hj).2.1.mono he.F, (hv j x hj).2.2⟩⟩

/-- A new block whose first cells never change from now on. -/
def Env.froz (E : Env) (b : Nat) (f : Nat → Option Value) : Env := { E with F := fun b' o => if b' = b then f o else E.F b' o }

theorem Step.frozen (h : WS c E st w) (cs : Array Value) (t : TypeId) (k : Nat) : Step c E st w (E.froz w.heap.size fun o => if o < k then cs[o]? else none) st (w.alloc (.cells cs t)) := by
  have hF : E.F.le (E.froz w.heap.size fun o => if o < k then cs[o]? else none).F := fun b o v hb => by
    have := h.F_lt hb
    simp only [Env.froz]
    rw [if_neg (by omega)]; exact hb
  have he : Ext w.heap.size (live E st) E st (E.froz w.heap.size fun o => if o < k then cs[o]? else none) (st ++ []) :=
    Ext.push w.heap.size hF (fun b o hb _ => by simp only [Env.froz]; rw [if_neg (by omega)]) (fun r _ => ⟨rfl, rfl, rfl⟩) (fun r b hr hb => by
      simp [blk, List.getElem?_eq_none hr] at hb)
  refine ⟨?_, by simpa using he, kept_alloc _ _⟩
  have := h.pushed (w' := w.alloc (.cells cs t)) he (fun r _ => ⟨rfl, rfl, rfl⟩) (fun b hb => heap_alloc_lt' hb) (fun b o v hb => ?_) (fun r t' g cells hr o => ?_) (fun r n e b hr hn hb o ho => ?_) ?_ ?_ ?_ ?_
  · simpa using this
  · simp only [Env.froz] at hb
    split at hb
    · rename_i hbe
      subst hbe
      split at hb
      · have := World.cell?_alloc_new w cs t o
        rw [this]; exact hb
      · simp at hb
    · exact cell_alloc_lt (h.hF b o v hb)
  · simp only [Env.froz]
    rw [if_neg (by have := h.row_lt hr; omega)]
    obtain ⟨_, _, _, _, _, h5⟩ := h.row r t' g cells hr
    exact h5 o
  · obtain ⟨b', cs', t', a1, a2, a3, a4⟩ := (h.tail r n e hr).2 hn
    rw [hb] at a1; simp at a1; subst a1
    simp only [Env.froz]
    rw [if_neg (by have := (Array.getElem?_eq_some_iff.1 a2).1; omega)]
    exact a4 o ho
  · intro r t' g cells hr hx; simp [List.getElem?_eq_none hr] at hx
  · intro r n e hr hx; simp [List.getElem?_eq_none hr] at hx
  · intro r kt et es hr hx; simp [List.getElem?_eq_none hr] at hx
  · intro r r' b hr hx; simp [blk, List.getElem?_eq_none hr] at hx

/-- Numbers of new resources: the first one gets the new block, the others, nil slices, none. -/
def Env.pushRow (E : Env) (n b size : Nat) (tf : Nat → Option Addr) : Env :=
  { E with loc := fun r => if r = n then b else E.loc r, sz := fun r => if r = n then size else E.sz r, tl := fun r => if n < r then (tf r, 0) else E.tl r }
def nilTails (xs : List Res) : Prop := ∀ x ∈ xs, ∃ e, x = .tail 0 e

theorem get_push_row {x : Res} {xs : List Res} {r : Nat} (hr : st.length ≤ r) : (st ++ x :: xs)[r]? = if r = st.length then some x else xs[r - st.length - 1]? := by
  rw [List.getElem?_append_right hr]
  by_cases h : r = st.length
  · subst h; simp
  · rw [if_neg h]
    obtain ⟨k, hk⟩ : ∃ k, r - st.length = k + 1 := ⟨r - st.length - 1, by omega⟩
    rw [hk]; simp

theorem blk_pushRow {x : Res} {xs : List Res} (hx0 : ∀ n e, x ≠ .tail n e) (hx : nilTails xs) {bl size r b : Nat} {tf : Nat → Option Addr} (hr : st.length ≤ r)
    (hb : blk (E.pushRow st.length bl size tf) (st ++ x :: xs) r = some b) : r = st.length ∧ b = bl := by
  simp only [blk, get_push_row hr] at hb
  by_cases he : r = st.length
  · subst he
    rw [if_pos rfl] at hb
    refine ⟨rfl, ?_⟩
    cases x with
    | row t g cells => simp [Env.pushRow] at hb; omega
    | map kt et es => simp [Env.pushRow] at hb; omega
    | tail n e => exact absurd rfl (hx0 n e)
    | dead => simp at hb
    | nrow t g => simp at hb
  · rw [if_neg he] at hb
    cases hy : xs[r - st.length - 1]? with
    | none => rw [hy] at hb; simp at hb
    | some y =>
      obtain ⟨e, rfl⟩ := hx y (List.mem_of_getElem? hy)
      rw [hy] at hb
      simp [Env.pushRow, show st.length < r by omega] at hb

theorem pushRow_old (E : Env) {n b size r : Nat} {tf : Nat → Option Addr} (hr : r < n) : (E.pushRow n b size tf).loc r = E.loc r ∧ (E.pushRow n b size tf).sz r = E.sz r ∧ (E.pushRow n b size tf).tl r = E.tl r := by
  simp only [Env.pushRow]; rw [if_neg (by omega), if_neg (by omega), if_neg (by omega)]; exact ⟨rfl, rfl, rfl⟩

theorem Ext.pushRow {x : Res} {xs : List Res} (N : Nat) (hx0 : ∀ n e, x ≠ .tail n e) (hx : nilTails xs) (b size : Nat) (tf : Nat → Option Addr) (hN : N ≤ b) :
    Ext N (live E st) E st (E.pushRow st.length b size tf) (st ++ x :: xs) :=
  Ext.push _ (Fz.le_refl _) (fun _ _ _ _ => rfl) (fun r hr => pushRow_old E hr) (fun r b' hr hb => by
    obtain ⟨_, rfl⟩ := blk_pushRow hx0 hx hr hb
    exact .inl hN)

theorem Step.pushRow (h : WS c E st w) (t : TypeId) (cells : List Cell) (cs : Array Value) (xs : List Res) (tf : Nat → Option Addr) (hx : nilTails xs) (hl : cells.length ≤ cs.size)
    (hc : ∀ (i : Nat) (x : Cell), cells[i]? = some x → CC (E.pushRow st.length w.heap.size cs.size tf) (st ++ .row t 0 cells :: xs) x (cs.getD i undef)) :
    Step c E st w (E.pushRow st.length w.heap.size cs.size tf) (st ++ .row t 0 cells :: xs) (w.alloc (.cells cs t)) := by
  have hx0 : ∀ n e, Res.row t 0 cells ≠ .tail n e := fun n e he => by simp at he
  have he : Ext w.heap.size (live E st) E st (E.pushRow st.length w.heap.size cs.size tf) (st ++ .row t 0 cells :: xs) := Ext.pushRow _ hx0 hx _ _ _ (Nat.le_refl _)
  refine ⟨h.pushed he (fun r hr => pushRow_old E hr) (fun b hb => heap_alloc_lt' hb) (fun b o v hb => cell_alloc_lt (h.hF b o v hb)) (fun r t' g cells' hr o => ?_) (fun r n e b hr hn hb o ho => ?_) (fun r t' g cells' hr hx1 => ?_)
    (fun r n e hr hx1 => ?_) (fun r kt et es hr hx1 => ?_) (fun r r' b hr h1 h2 => ?_), he, kept_alloc _ _⟩
  · obtain ⟨_, _, _, _, _, h5⟩ := h.row r t' g cells' hr
    exact h5 o
  · obtain ⟨b', cs', t', a1, a2, a3, a4⟩ := (h.tail r n e hr).2 hn
    rw [hb] at a1; simp at a1; subst a1
    exact a4 o ho
  · rw [get_push_row hr] at hx1
    by_cases hre : r = st.length
    · subst hre
      rw [if_pos rfl] at hx1
      simp at hx1
      obtain ⟨rfl, rfl, rfl⟩ := hx1
      refine ⟨cs, ?_, by simp [Env.pushRow], hl, hc, fun o => ?_⟩
      · simp only [Env.pushRow, if_true]; exact heap_alloc_at
      · simp only [Env.pushRow, if_true]; exact h.F_new o
    · rw [if_neg hre] at hx1
      obtain ⟨e, he'⟩ := hx _ (List.mem_of_getElem? hx1)
      simp at he'
  · rw [get_push_row hr] at hx1
    by_cases hre : r = st.length
    · subst hre; simp at hx1
    · rw [if_neg hre] at hx1
      obtain ⟨e', he'⟩ := hx _ (List.mem_of_getElem? hx1)
      simp at he'
      obtain ⟨rfl, rfl⟩ := he'
      simp [Env.pushRow, show st.length < r by omega]
  · rw [get_push_row hr] at hx1
    by_cases hre : r = st.length
    · subst hre; simp at hx1
    · rw [if_neg hre] at hx1
      obtain ⟨e, he'⟩ := hx _ (List.mem_of_getElem? hx1)
      simp at he'
  · obtain ⟨rfl, rfl⟩ := blk_pushRow hx0 hx hr h1
    rcases Nat.lt_or_ge r' st.length with hlt | hge
    · exfalso
      rw [blk_push hlt (pushRow_old E hlt).1 (pushRow_old E hlt).2.2] at h2
      have := h.blk_lt h2
      omega
    · exact (blk_pushRow hx0 hx hge h2).1.symm

theorem Step.pushMap (h : WS c E st w) (kt et : TypeId) :
    Step c E st w (E.pushRow st.length w.heap.size 0 fun _ => none) (st ++ [.map kt et []]) (w.alloc (.map #[] 0)) := by
  have hx : nilTails [] := fun x hx => by simp at hx
  have hx0 : ∀ n e, Res.map kt et [] ≠ .tail n e := fun n e he => by simp at he
  have he : Ext w.heap.size (live E st) E st (E.pushRow st.length w.heap.size 0 fun _ => none) (st ++ [.map kt et []]) := Ext.pushRow _ hx0 hx _ _ _ (Nat.le_refl _)
  refine ⟨h.pushed he (fun r hr => pushRow_old E hr) (fun b hb => heap_alloc_lt' hb) (fun b o v hb => cell_alloc_lt (h.hF b o v hb)) (fun r t' g cells' hr o => ?_) (fun r n e b hr hn hb o ho => ?_) (fun r t' g cells' hr hx1 => ?_)
    (fun r n e hr hx1 => ?_) (fun r kt et es hr hx1 => ?_) (fun r r' b hr h1 h2 => ?_), he, kept_alloc _ _⟩
  · obtain ⟨_, _, _, _, _, h5⟩ := h.row r t' g cells' hr
    exact h5 o
  · obtain ⟨b', cs', t', a1, a2, a3, a4⟩ := (h.tail r n e hr).2 hn
    rw [hb] at a1; simp at a1; subst a1
    exact a4 o ho
  · rw [get_push_row hr] at hx1
    by_cases hre : r = st.length
    · subst hre; simp at hx1
    · rw [if_neg hre] at hx1; simp at hx1
  · rw [get_push_row hr] at hx1
    by_cases hre : r = st.length
    · subst hre; simp at hx1
    · rw [if_neg hre] at hx1; simp at hx1
  · rw [get_push_row hr] at hx1
    by_cases hre : r = st.length
    · subst hre
      simp at hx1
      obtain ⟨rfl, rfl, rfl⟩ := hx1
      refine ⟨#[], 0, ?_, rfl, fun i e hi => by simp at hi⟩
      simp only [Env.pushRow, if_true]; exact heap_alloc_at
    · rw [if_neg hre] at hx1; simp at hx1
  · obtain ⟨rfl, rfl⟩ := blk_pushRow hx0 hx hr h1
    rcases Nat.lt_or_ge r' st.length with hlt | hge
    · exfalso
      rw [blk_push hlt (pushRow_old E hlt).1 (pushRow_old E hlt).2.2] at h2
      have := h.blk_lt h2
      omega
    · exact (blk_pushRow hx0 hx hge h2).1.symm

/-- Resources without a block: nil slices. -/
def quietRes : Res → Prop
  | .tail 0 _ => True
  | .nrow _ _ => True
  | .dead => True
  | _ => False
def Env.pushNil (E : Env) (n : Nat) (tf : Nat → Option Addr) : Env := { E with tl := fun r => if n ≤ r then (tf r, 0) else E.tl r }
theorem Step.pushNil (h : WS c E st w) (xs : List Res) (tf : Nat → Option Addr) (hx : ∀ x ∈ xs, quietRes x) : Step c E st w (E.pushNil st.length tf) (st ++ xs) w := by
  have hold : ∀ r, r < st.length → (E.pushNil st.length tf).loc r = E.loc r ∧ (E.pushNil st.length tf).sz r = E.sz r ∧ (E.pushNil st.length tf).tl r = E.tl r := fun r hr => ⟨rfl, rfl, by simp only [Env.pushNil]; rw [if_neg (by omega)]⟩
  have hq : ∀ r x, st.length ≤ r → (st ++ xs)[r]? = some x → quietRes x := fun r x hr hx1 => by
    rw [List.getElem?_append_right hr] at hx1
    exact hx x (List.mem_of_getElem? hx1)
  have hnb : ∀ r b, st.length ≤ r → blk (E.pushNil st.length tf) (st ++ xs) r ≠ some b := fun r b hr hb => by
    unfold blk at hb
    split at hb
    · rename_i hx1; have := hq r _ hr hx1; simp [quietRes] at this
    · rename_i hx1; have := hq r _ hr hx1; simp [quietRes] at this
    · simp [Env.pushNil, hr] at hb
    · simp at hb
  have he : Ext w.heap.size (live E st) E st (E.pushNil st.length tf) (st ++ xs) :=
    Ext.push _ (Fz.le_refl _) (fun _ _ _ _ => rfl) hold (fun r b hr hb => absurd hb (hnb r b hr))
  refine ⟨h.pushed he hold (fun b hb => rfl) (fun b o v hb => h.hF b o v hb) (fun r t' g cells' hr o => ?_) (fun r n e b hr hn hb o ho => ?_) (fun r t' g cells' hr hx1 => ?_)
    (fun r n e hr hx1 => ?_) (fun r kt et es hr hx1 => ?_) (fun r r' b hr h1 h2 => absurd h1 (hnb r b hr)), he, Kept.refl _ _ _⟩
  · obtain ⟨_, _, _, _, _, h5⟩ := h.row r t' g cells' hr
    exact h5 o
  · obtain ⟨b', cs', t', a1, a2, a3, a4⟩ := (h.tail r n e hr).2 hn
    rw [hb] at a1; simp at a1; subst a1
    exact a4 o ho
  · have := hq r _ hr hx1; simp [quietRes] at this
  · have := hq r _ hr hx1
    cases n with
    | zero => simp [Env.pushNil, hr]
    | succ n => simp [quietRes] at this
  · have := hq r _ hr hx1; simp [quietRes] at this

/-- A slice that lies in a new block, its longest view known to resource 'st.length'. -/
def Env.pushTail (E : Env) (n b k cap : Nat) (cs : Array Value) : Env :=
  { E with F := fun b' o => if b' = b then (if o < k then cs[o]? else none) else E.F b' o, tl := fun r => if r = n then (some ⟨b, 0, none⟩, cap) else E.tl r }
theorem Step.pushTail (h : WS c E st w) (t : TypeId) (n e cap : Nat) (cs : Array Value) (hn : n ≤ cap) (hs : cap * e ≤ cs.size) :
    Step c E st w (E.pushTail st.length w.heap.size (n * e) cap cs) (st ++ [.tail n e]) (w.alloc (.cells cs t)) := by
  have hold : ∀ r, r < st.length → (E.pushTail st.length w.heap.size (n * e) cap cs).loc r = E.loc r ∧ (E.pushTail st.length w.heap.size (n * e) cap cs).sz r = E.sz r ∧ (E.pushTail st.length w.heap.size (n * e) cap cs).tl r = E.tl r := fun r hr => ⟨rfl, rfl, by simp only [Env.pushTail]; rw [if_neg (by omega)]⟩
  have hq : ∀ r x, st.length ≤ r → (st ++ [Res.tail n e])[r]? = some x → r = st.length ∧ x = .tail n e := fun r x hr hx1 => by
    rw [get_push_row hr] at hx1
    by_cases hre : r = st.length
    · rw [if_pos hre] at hx1; simp at hx1; exact ⟨hre, hx1.symm⟩
    · rw [if_neg hre] at hx1; simp at hx1
  have hnb : ∀ r b, st.length ≤ r → blk (E.pushTail st.length w.heap.size (n * e) cap cs) (st ++ [.tail n e]) r = some b → r = st.length ∧ b = w.heap.size := fun r b hr hb => by
    unfold blk at hb
    split at hb
    · rename_i hx1; have := (hq r _ hr hx1).2; simp at this
    · rename_i hx1; have := (hq r _ hr hx1).2; simp at this
    · rename_i hx1; have := (hq r _ hr hx1).1; subst this
      split at hb
      · simp [Env.pushTail] at hb; exact ⟨rfl, hb.symm⟩
      · simp at hb
    · simp at hb
  have hF : E.F.le (E.pushTail st.length w.heap.size (n * e) cap cs).F := fun b o v hb => by
    have := h.F_lt hb
    simp only [Env.pushTail]
    rw [if_neg (by omega)]; exact hb
  have he : Ext w.heap.size (live E st) E st (E.pushTail st.length w.heap.size (n * e) cap cs) (st ++ [.tail n e]) :=
    Ext.push _ hF (fun b o hb _ => by simp only [Env.pushTail]; rw [if_neg (by omega)]) hold (fun r b hr hb => .inl (by have := (hnb r b hr hb).2; omega))
  refine ⟨h.pushed he hold (fun b hb => heap_alloc_lt' hb) (fun b o v hb => ?_) (fun r t' g cells' hr o => ?_) (fun r n' e' b hr hn' hb o ho => ?_) (fun r t' g cells' hr hx1 => ?_)
    (fun r n' e' hr hx1 => ?_) (fun r kt et es hr hx1 => ?_) (fun r r' b hr h1 h2 => ?_), he, kept_alloc _ _⟩
  · simp only [Env.pushTail] at hb
    split at hb
    · rename_i hbe
      subst hbe
      split at hb
      · rw [World.cell?_alloc_new w cs t o]; exact hb
      · simp at hb
    · exact cell_alloc_lt (h.hF b o v hb)
  · simp only [Env.pushTail]
    rw [if_neg (by have := h.row_lt hr; omega)]
    obtain ⟨_, _, _, _, _, h5⟩ := h.row r t' g cells' hr
    exact h5 o
  · obtain ⟨b', cs', t', a1, a2, a3, a4⟩ := (h.tail r n' e' hr).2 hn'
    rw [hb] at a1; simp at a1; subst a1
    simp only [Env.pushTail]
    rw [if_neg (by have := (Array.getElem?_eq_some_iff.1 a2).1; omega)]
    exact a4 o ho
  · have := (hq r _ hr hx1).2; simp at this
  · obtain ⟨rfl, h2⟩ := hq r _ hr hx1
    simp at h2
    obtain ⟨rfl, rfl⟩ := h2
    simp only [Env.pushTail, if_true]
    refine ⟨hn, fun _ => ⟨w.heap.size, cs, t, rfl, heap_alloc_at, hs, fun o ho => ?_⟩⟩
    simp only [if_true]
    rw [if_neg (by omega)]
  · have := (hq r _ hr hx1).2; simp at this
  · obtain ⟨rfl, rfl⟩ := hnb r b hr h1
    rcases Nat.lt_or_ge r' st.length with hlt | hge
    · exfalso
      rw [blk_push hlt (hold r' hlt).1 (hold r' hlt).2.2] at h2
      have := h.blk_lt h2
      omega
    · exact (hnb r' _ hge h2).1.symm

/-- A slice without spare, of which a resource now tells how long it is. -/
def Env.pushFull (E : Env) (n : Nat) (A : Option Addr) (cap : Nat) : Env := { E with tl := fun r => if r = n then (A, cap) else E.tl r }
theorem Step.pushFull (h : WS c E st w) (n e : Nat) (A : Option Addr) : Step c E st w (E.pushFull st.length A n) (st ++ [.tail n e]) w := by
  have hold : ∀ r, r < st.length → (E.pushFull st.length A n).loc r = E.loc r ∧ (E.pushFull st.length A n).sz r = E.sz r ∧ (E.pushFull st.length A n).tl r = E.tl r := fun r hr => ⟨rfl, rfl, by simp only [Env.pushFull]; rw [if_neg (by omega)]⟩
  have hq : ∀ r x, st.length ≤ r → (st ++ [Res.tail n e])[r]? = some x → r = st.length ∧ x = .tail n e := fun r x hr hx1 => by
    rw [get_push_row hr] at hx1
    by_cases hre : r = st.length
    · rw [if_pos hre] at hx1; simp at hx1; exact ⟨hre, hx1.symm⟩
    · rw [if_neg hre] at hx1; simp at hx1
  have hnb : ∀ r b, st.length ≤ r → blk (E.pushFull st.length A n) (st ++ [.tail n e]) r ≠ some b := fun r b hr hb => by
    unfold blk at hb
    split at hb
    · rename_i hx1; have := (hq r _ hr hx1).2; simp at this
    · rename_i hx1; have := (hq r _ hr hx1).2; simp at this
    · rename_i n' e' hx1
      obtain ⟨rfl, h2⟩ := hq r _ hr hx1
      simp at h2
      obtain ⟨rfl, rfl⟩ := h2
      simp [Env.pushFull] at hb
    · simp at hb
  have he : Ext w.heap.size (live E st) E st (E.pushFull st.length A n) (st ++ [.tail n e]) :=
    Ext.push _ (Fz.le_refl _) (fun _ _ _ _ => rfl) hold (fun r b hr hb => absurd hb (hnb r b hr))
  refine ⟨h.pushed he hold (fun b hb => rfl) (fun b o v hb => h.hF b o v hb) (fun r t' g cells' hr o => ?_) (fun r n' e' b hr hn' hb o ho => ?_) (fun r t' g cells' hr hx1 => ?_)
    (fun r n' e' hr hx1 => ?_) (fun r kt et es hr hx1 => ?_) (fun r r' b hr h1 h2 => absurd h1 (hnb r b hr)), he, Kept.refl _ _ _⟩
  · obtain ⟨_, _, _, _, _, h5⟩ := h.row r t' g cells' hr
    exact h5 o
  · obtain ⟨b', cs', t', a1, a2, a3, a4⟩ := (h.tail r n' e' hr).2 hn'
    rw [hb] at a1; simp at a1; subst a1
    exact a4 o ho
  · have := (hq r _ hr hx1).2; simp at this
  · obtain ⟨rfl, h2⟩ := hq r _ hr hx1
    simp at h2
    obtain ⟨rfl, rfl⟩ := h2
    simp [Env.pushFull]
  · have := (hq r _ hr hx1).2; simp at this

end Go.AI
