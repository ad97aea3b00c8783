/- A resource of the abstract interpreter's state is turned. -/
import Derived.Test.YtacfehecjjoffaaDoorAiState
set_option linter.unusedVariables false
set_option linter.unusedSimpArgs false
namespace Go.AI
open Go

variable {c : Cfg} {E E' : Env} {st st' : St} {w w' : World}

theorem get_set_ne {r0 r : Nat} {x : Res} (h : r ≠ r0) : (st.set r0 x)[r]? = st[r]? := by
  rw [List.getElem?_set]; rw [if_neg (Ne.symm h)]
theorem get_set_eq {r0 : Nat} {x y : Res} (h : st[r0]? = some y) : (st.set r0 x)[r0]? = some x := by
  rw [List.getElem?_set]; simp [get_lt h]
theorem blk_set_ne {r0 r : Nat} {x : Res} (h : r ≠ r0) (hl : E'.loc r = E.loc r) (ht : E'.tl r = E.tl r) : blk E' (st.set r0 x) r = blk E st r := by
  simp only [blk, get_set_ne h, hl, ht]

theorem WS.updated (h : WS c E st w) {r0 : Nat} {x : Res} (he : Ext w.heap.size (live E st) E st E' (st.set r0 x))
    (hold : ∀ r, r ≠ r0 → E'.loc r = E.loc r ∧ E'.sz r = E.sz r ∧ E'.tl r = E.tl r)
    (hw : ∀ b, b < w.heap.size → blk E st r0 ≠ some b → w'.heap[b]? = w.heap[b]?)
    (hF : ∀ b o v, E'.F b o = some v → w'.cell? ⟨b, o, none⟩ = some v)
    (hFn : ∀ b, (∃ r, r ≠ r0 ∧ blk E st r = some b) → ∀ o, E'.F b o = E.F b o)
    (row : ∀ t g cells, (st.set r0 x)[r0]? = some (.row t g cells) → ∃ cs, w'.heap[E'.loc r0]? = some (.cells cs t (0, 0)) ∧ cs.size = E'.sz r0 ∧ cells.length ≤ cs.size ∧
      (∀ (i : Nat) (y : Cell), cells[i]? = some y → CC E' (st.set r0 x) y (cs.getD i undef)) ∧ (∀ o, E'.F (E'.loc r0) o = none))
    (tail : ∀ n e, (st.set r0 x)[r0]? = some (.tail n e) → n ≤ (E'.tl r0).2 ∧ (n < (E'.tl r0).2 → ∃ b cs t, (E'.tl r0).1 = some ⟨b, 0, none⟩ ∧ w'.heap[b]? = some (.cells cs t (0, 0)) ∧
      (E'.tl r0).2 * e ≤ cs.size ∧ (∀ o, n * e ≤ o → E'.F b o = none)))
    (map : ∀ kt et es, (st.set r0 x)[r0]? = some (.map kt et es) → ∃ ms clock, w'.heap[E'.loc r0]? = some (.map ms clock) ∧ ms.size = es.length ∧
      (∀ (i : Nat) (e : Cell × List Cell), es[i]? = some e → ∃ m, ms[i]? = some m ∧ keyOf c kt (.one e.1) = some e.1 ∧ CP E'.F e.1 m.key ∧ ∃ av, avOf c et e.2 = some av ∧ AVC E' (st.set r0 x) av m.val))
    (inj : ∀ r b, r ≠ r0 → blk E' (st.set r0 x) r0 = some b → blk E st r ≠ some b) : WS c E' (st.set r0 x) w' where
  hF := hF
  row := fun r t g cells hr => by
    by_cases hne : r = r0
    · subst hne; exact row t g cells hr
    · have hr' := hr; rw [get_set_ne hne] at hr'
      obtain ⟨cs, h1, h2, h3, h4, h5⟩ := h.row r t g cells hr'
      obtain ⟨e1, e2, _⟩ := hold r hne
      have hb : blk E st r = some (E.loc r) := by simp [blk, hr']
      rw [e1, e2]
      refine ⟨cs, ?_, h2, h3, fun i x hx => (h4 i x hx).ext he, fun o => ?_⟩
      · rw [hw _ (h.row_lt hr') (fun hb' => hne (h.inj r r0 _ hb hb'))]; exact h1
      · rw [hFn _ ⟨r, hne, hb⟩]; exact h5 o
  tail := fun r n e hr => by
    by_cases hne : r = r0
    · subst hne; exact tail n e hr
    · have hr' := hr; rw [get_set_ne hne] at hr'
      obtain ⟨h1, h2⟩ := h.tail r n e hr'
      rw [(hold r hne).2.2]
      refine ⟨h1, fun hn => ?_⟩
      obtain ⟨b, cs, t, a1, a2, a3, a4⟩ := h2 hn
      have hb : blk E st r = some b := by simp [blk, hr', hn, a1]
      refine ⟨b, cs, t, a1, ?_, a3, fun o ho => ?_⟩
      · rw [hw _ (Array.getElem?_eq_some_iff.1 a2).1 (fun hb' => hne (h.inj r r0 _ hb hb'))]; exact a2
      · rw [hFn _ ⟨r, hne, hb⟩]; exact a4 o ho
  map := fun r kt et es hr => by
    by_cases hne : r = r0
    · subst hne; exact map kt et es hr
    · have hr' := hr; rw [get_set_ne hne] at hr'
      obtain ⟨ms, cl, h1, h2, h3⟩ := h.map r kt et es hr'
      have hb : blk E st r = some (E.loc r) := by simp [blk, hr']
      rw [(hold r hne).1]
      refine ⟨ms, cl, ?_, h2, fun i e hi => ?_⟩
      · rw [hw _ (Array.getElem?_eq_some_iff.1 h1).1 (fun hb' => hne (h.inj r r0 _ hb hb'))]; exact h1
      · obtain ⟨m, a1, a2, a3, av, a4, a5⟩ := h3 i e hi
        exact ⟨m, a1, a2, a3.mono he.F, av, a4, a5.ext he⟩
  inj := fun r r' b h1 h2 => by
    by_cases hne : r = r0
    · subst hne
      by_cases hne' : r' = r
      · exact hne'.symm
      · rw [blk_set_ne hne' (hold r' hne').1 (hold r' hne').2.2] at h2
        exact absurd h2 (inj r' b hne' h1)
    · rw [blk_set_ne hne (hold r hne).1 (hold r hne).2.2] at h1
      by_cases hne' : r' = r0
      · subst hne'; exact absurd h1 (inj r b hne h2)
      · rw [blk_set_ne hne' (hold r' hne').1 (hold r' hne').2.2] at h2
        exact h.inj r r' b h1 h2
  glob := fun g cells hg => by
    obtain ⟨vs, hv⟩ := h.glob g cells hg
    exact ⟨vs, fun j x hj => ⟨he.F _ _ _ (hv j x hj).1, (hv j x hj).2.1.mono he.F, (hv j x hj).2.2⟩⟩

/-- All that is not r0 is as it was; r0 may be so turned. -/
theorem Ext.updated (N : Nat) {r0 : Nat} {x y : Res} (hy : st[r0]? = some y) (hF : E.F.le E'.F) (hFn : ∀ b o, b < N → ¬ live E st b → E'.F b o = E.F b o)
    (hold : ∀ r, r ≠ r0 → E'.loc r = E.loc r ∧ E'.sz r = E.sz r ∧ E'.tl r = E.tl r)
    (hxy : match y with
      | .row _ g _ => ∃ t' g' cells', x = .row t' g' cells' ∧ g ≤ g' ∧ (g = g' → E'.loc r0 = E.loc r0 ∧ E'.sz r0 = E.sz r0)
      | .nrow t g => x = .nrow t g ∨ ∃ t' g' cells', x = .row t' g' cells' ∧ g < g'
      | .tail n e => ∃ n', x = .tail n' e ∧ n ≤ n' ∧ (n = n' → E'.tl r0 = E.tl r0)
      | .map kt et _ => ∃ es', x = .map kt et es' ∧ E'.loc r0 = E.loc r0
      | .dead => x = .dead)
    (hb : ∀ b, blk E' (st.set r0 x) r0 = some b → N ≤ b ∨ live E st b) : Ext N (live E st) E st E' (st.set r0 x) where
  F := hF
  Fnew := hFn
  len := by simp
  row := fun r t g cells hr => by
    by_cases hne : r = r0
    · subst hne
      rw [hy] at hr; simp at hr; subst hr
      obtain ⟨t', g', cells', rfl, h2, h3⟩ := hxy
      exact .inr ⟨t', g', cells', get_set_eq hy, h2, h3⟩
    · exact .inr ⟨t, g, cells, by rw [get_set_ne hne]; exact hr, Nat.le_refl _, fun _ => ⟨(hold r hne).1, (hold r hne).2.1⟩⟩
  nrow := fun r t g hr => by
    by_cases hne : r = r0
    · subst hne
      rw [hy] at hr; simp at hr; subst hr
      rcases hxy with rfl | ⟨t', g', cells', rfl, h2⟩
      · exact .inr (.inl (get_set_eq hy))
      · exact .inr (.inr ⟨t', g', cells', get_set_eq hy, h2⟩)
    · exact .inr (.inl (by rw [get_set_ne hne]; exact hr))
  tail := fun r n e hr => by
    by_cases hne : r = r0
    · subst hne
      rw [hy] at hr; simp at hr; subst hr
      obtain ⟨n', rfl, h2, h3⟩ := hxy
      exact .inr ⟨n', get_set_eq hy, h2, h3⟩
    · exact .inr ⟨n, by rw [get_set_ne hne]; exact hr, Nat.le_refl _, fun _ => (hold r hne).2.2⟩
  map := fun r kt et es hr => by
    by_cases hne : r = r0
    · subst hne
      rw [hy] at hr; simp at hr; subst hr
      obtain ⟨es', rfl, h2⟩ := hxy
      exact .inr ⟨es', get_set_eq hy, h2⟩
    · exact .inr ⟨es, by rw [get_set_ne hne]; exact hr, (hold r hne).1⟩
  dead := fun r hr => by
    by_cases hne : r = r0
    · subst hne
      rw [hy] at hr; simp at hr; subst hr
      simp at hxy; subst hxy
      exact get_set_eq hy
    · rw [get_set_ne hne]; exact hr
  blocks := fun r b hr => by
    by_cases hne : r = r0
    · subst hne; exact hb b hr
    · exact .inr ⟨r, by rw [← blk_set_ne hne (hold r hne).1 (hold r hne).2.2]; exact hr⟩

theorem kept_setRow (X : Nat → Prop) {g : Nat} (hg : X g) (cs : Array Value) : Kept w.heap.size X w (w.setRow g cs) :=
  ⟨rfl, rfl, rfl, by simp, fun b _ hx => setRow_other w g b cs (fun hb => hx (hb ▸ hg))⟩

theorem cell_setRow_keep {g : Nat} {cs : Array Value} {b o : Nat} {v : Value} (hb : b ≠ g) (h : w.cell? ⟨b, o, none⟩ = some v) : (w.setRow g cs).cell? ⟨b, o, none⟩ = some v := by
  rw [cell_setRow_other w g cs ⟨b, o, none⟩ hb]; exact h

/-- A store into a row; its number of turns may rise. -/
theorem Step.setRow (h : WS c E st w) {r t g : Nat} {cells : List Cell} (hr : st[r]? = some (.row t g cells)) (g' : Nat) (hg : g ≤ g') (cells' : List Cell) (cs' : Array Value) (hs : cs'.size = E.sz r) (hl : cells'.length ≤ cs'.size)
    (hc : ∀ (i : Nat) (x : Cell), cells'[i]? = some x → CC E (st.set r (.row t g' cells')) x (cs'.getD i undef)) :
    Step c E st w E (st.set r (.row t g' cells')) (w.setRow (E.loc r) cs') := by
  have hb : blk E st r = some (E.loc r) := by simp [blk, hr]
  have hb' : blk E (st.set r (.row t g' cells')) r = some (E.loc r) := by simp [blk, get_set_eq hr]
  obtain ⟨cs, h1, h2, h3, h4, h5⟩ := h.row r t g cells hr
  have he : Ext w.heap.size (live E st) E st E (st.set r (.row t g' cells')) :=
    Ext.updated _ hr (Fz.le_refl _) (fun _ _ _ _ => rfl) (fun _ _ => ⟨rfl, rfl, rfl⟩) ⟨t, g', cells', rfl, hg, fun _ => ⟨rfl, rfl⟩⟩ (fun b hb2 => .inr ⟨r, by rw [hb]; rw [hb'] at hb2; exact hb2⟩)
  refine ⟨h.updated he (fun _ _ => ⟨rfl, rfl, rfl⟩) (fun b _ hb2 => setRow_other w _ b cs' (fun e => hb2 (by rw [hb, e]))) (fun b o v hv => ?_) (fun _ _ _ => rfl) (fun t2 g2 c2 hx => ?_) (fun n e hx => ?_) (fun kt et es hx => ?_) (fun r2 b hne hx => ?_), he, kept_setRow _ ⟨r, hb⟩ _⟩
  · refine cell_setRow_keep (fun e => ?_) (h.hF b o v hv)
    subst e; rw [h5 o] at hv; simp at hv
  · rw [get_set_eq hr] at hx
    simp at hx
    obtain ⟨rfl, rfl, rfl⟩ := hx
    exact ⟨cs', setRow_heap w _ cs cs' t (0, 0) h1, hs, hl, hc, h5⟩
  · rw [get_set_eq hr] at hx; simp at hx
  · rw [get_set_eq hr] at hx; simp at hx
  · rw [hb'] at hx; simp at hx; subst hx
    intro hb2; exact hne (h.inj r2 r _ hb2 hb)

/-- A row that moves into a new block. -/
def Env.moveRow (E : Env) (r b size : Nat) : Env := { E with loc := fun k => if k = r then b else E.loc k, sz := fun k => if k = r then size else E.sz k }
theorem Step.moveRow (h : WS c E st w) {r : Nat} {y : Res} {g : Nat} (hr : st[r]? = some y) (hy : (∃ t cells, y = .row t g cells) ∨ (∃ t, y = .nrow t g)) (e : TypeId) (g' : Nat) (hg : g < g') (cells' : List Cell) (cs' : Array Value) (hl : cells'.length ≤ cs'.size)
    (hc : ∀ (i : Nat) (x : Cell), cells'[i]? = some x → CC (E.moveRow r w.heap.size cs'.size) (st.set r (.row e g' cells')) x (cs'.getD i undef)) :
    Step c E st w (E.moveRow r w.heap.size cs'.size) (st.set r (.row e g' cells')) (w.alloc (.cells cs' e)) := by
  have hold : ∀ k, k ≠ r → (E.moveRow r w.heap.size cs'.size).loc k = E.loc k ∧ (E.moveRow r w.heap.size cs'.size).sz k = E.sz k ∧ (E.moveRow r w.heap.size cs'.size).tl k = E.tl k := fun k hk => by
    simp only [Env.moveRow]; rw [if_neg hk, if_neg hk]; exact ⟨rfl, rfl, trivial⟩
  have hb' : blk (E.moveRow r w.heap.size cs'.size) (st.set r (.row e g' cells')) r = some w.heap.size := by simp [blk, get_set_eq hr, Env.moveRow]
  have he : Ext w.heap.size (live E st) E st (E.moveRow r w.heap.size cs'.size) (st.set r (.row e g' cells')) :=
    Ext.updated _ hr (Fz.le_refl _) (fun _ _ _ _ => rfl) hold (by
      rcases hy with ⟨t, cells, rfl⟩ | ⟨t, rfl⟩
      · exact ⟨e, g', cells', rfl, by omega, fun he => by omega⟩
      · exact .inr ⟨e, g', cells', rfl, hg⟩) (fun b hb2 => .inl (by rw [hb'] at hb2; simp at hb2; omega))
  refine ⟨h.updated he hold (fun b hb _ => heap_alloc_lt' hb) (fun b o v hv => cell_alloc_lt (h.hF b o v hv)) (fun _ _ _ => rfl) (fun t2 g2 c2 hx => ?_) (fun n e hx => ?_) (fun kt et es hx => ?_) (fun r2 b hne hx => ?_), he, kept_alloc _ _⟩
  · rw [get_set_eq hr] at hx
    simp at hx
    obtain ⟨rfl, rfl, rfl⟩ := hx
    refine ⟨cs', ?_, by simp [Env.moveRow], hl, hc, fun o => ?_⟩
    · simp only [Env.moveRow, if_true]; exact heap_alloc_at
    · simp only [Env.moveRow, if_true]; exact h.F_new o
  · rw [get_set_eq hr] at hx; simp at hx
  · rw [get_set_eq hr] at hx; simp at hx
  · rw [hb'] at hx; simp at hx; subst hx
    intro hb2; have := h.blk_lt hb2; omega

/-- An append to the longest view of a slice, in its own spare. -/
def Env.grow (E : Env) (b lo hi : Nat) (cs : Array Value) : Env := { E with F := fun b' o => if b' = b ∧ lo ≤ o ∧ o < hi then cs[o]? else E.F b' o }
theorem Step.growTail (h : WS c E st w) {r n e n' b cap : Nat} {t : TypeId} (hr : st[r]? = some (.tail n e)) (htl : E.tl r = (some ⟨b, 0, none⟩, cap)) (hn : n ≤ n') (hn' : n' ≤ cap) (hlt : n < n') (cs cs' : Array Value)
    (hb : w.heap[b]? = some (.cells cs t (0, 0))) (hs : cs'.size = cs.size) (hcap : cap * e ≤ cs.size) (hkeep : ∀ o, o < n * e → cs'[o]? = cs[o]?) (hfree : ∀ o, n * e ≤ o → E.F b o = none) :
    Step c E st w (E.grow b (n * e) (n' * e) cs') (st.set r (.tail n' e)) (w.setRow b cs') := by
  have hnc : n < cap := by omega
  have hbk : blk E st r = some b := by simp [blk, hr, htl, hnc]
  have hF : E.F.le (E.grow b (n * e) (n' * e) cs').F := fun b' o v hv => by
    simp only [Env.grow]
    rw [if_neg]
    · exact hv
    · rintro ⟨rfl, h1, _⟩
      rw [hfree o h1] at hv; simp at hv
  have he : Ext w.heap.size (live E st) E st (E.grow b (n * e) (n' * e) cs') (st.set r (.tail n' e)) :=
    Ext.updated _ hr hF (fun b' o _ hx => by
      simp only [Env.grow]
      rw [if_neg]
      rintro ⟨rfl, _, _⟩
      exact hx ⟨r, hbk⟩) (fun _ _ => ⟨rfl, rfl, rfl⟩) ⟨n', rfl, hn, fun _ => rfl⟩ (fun b' hb2 => by
      simp only [blk, get_set_eq hr] at hb2
      simp only [Env.grow, htl] at hb2
      split at hb2
      · simp at hb2; subst hb2; exact .inr ⟨r, hbk⟩
      · simp at hb2)
  refine ⟨h.updated he (fun _ _ => ⟨rfl, rfl, rfl⟩) (fun b' _ hb2 => setRow_other w _ b' cs' (fun e => hb2 (by rw [hbk, e]))) (fun b' o v hv => ?_) (fun b' ⟨r2, hne, hb2⟩ o => ?_) (fun t2 g2 c2 hx => ?_) (fun n2 e2 hx => ?_) (fun kt et es hx => ?_) (fun r2 b' hne hx => ?_), he, kept_setRow _ ⟨r, hbk⟩ _⟩
  · simp only [Env.grow] at hv
    split at hv
    · rename_i hh
      obtain ⟨rfl, _, _⟩ := hh
      rw [cell_setRow_same w b' o cs cs' t (0, 0) hb]; exact hv
    · rename_i hh
      by_cases hbe : b' = b
      · subst hbe
        rw [cell_setRow_same w b' o cs cs' t (0, 0) hb]
        have hlt' : o < n * e := by
          rcases Nat.lt_or_ge o (n * e) with h1 | h1
          · exact h1
          · rw [hfree o h1] at hv; simp at hv
        rw [hkeep o hlt']
        have := h.hF b' o v hv
        simpa [World.cell?, hb] using this
      · exact cell_setRow_keep hbe (h.hF b' o v hv)
  · simp only [Env.grow]
    rw [if_neg]
    rintro ⟨rfl, _, _⟩
    exact hne (h.inj r2 r _ hb2 hbk)
  · rw [get_set_eq hr] at hx; simp at hx
  · rw [get_set_eq hr] at hx; simp at hx
    obtain ⟨rfl, rfl⟩ := hx
    simp only [Env.grow, htl]
    refine ⟨hn', fun _ => ⟨b, cs', t, rfl, setRow_heap w b cs cs' t (0, 0) hb, by rw [hs]; exact hcap, fun o ho => ?_⟩⟩
    rw [if_neg (by omega)]
    refine hfree o (Nat.le_trans ?_ ho)
    exact Nat.mul_le_mul_right e hn
  · rw [get_set_eq hr] at hx; simp at hx
  · simp only [blk, get_set_eq hr] at hx
    simp only [Env.grow, htl] at hx
    split at hx
    · simp at hx; subst hx
      intro hb2; exact hne (h.inj r2 r _ hb2 hbk)
    · simp at hx

/-- The same, into a new block. -/
def Env.moveTail (E : Env) (r b k cap : Nat) (cs : Array Value) : Env :=
  { E with F := fun b' o => if b' = b then (if o < k then cs[o]? else none) else E.F b' o, tl := fun j => if j = r then (some ⟨b, 0, none⟩, cap) else E.tl j }
theorem Step.moveTail (h : WS c E st w) {r n e n' cap : Nat} {t : TypeId} (hr : st[r]? = some (.tail n e)) (hlt : n < n') (hn' : n' ≤ cap) (cs : Array Value) (hcap : cap * e ≤ cs.size) :
    Step c E st w (E.moveTail r w.heap.size (n' * e) cap cs) (st.set r (.tail n' e)) (w.alloc (.cells cs t)) := by
  have hold : ∀ k, k ≠ r → (E.moveTail r w.heap.size (n' * e) cap cs).loc k = E.loc k ∧ (E.moveTail r w.heap.size (n' * e) cap cs).sz k = E.sz k ∧ (E.moveTail r w.heap.size (n' * e) cap cs).tl k = E.tl k := fun k hk =>
    ⟨rfl, rfl, by simp only [Env.moveTail]; rw [if_neg hk]⟩
  have hF : E.F.le (E.moveTail r w.heap.size (n' * e) cap cs).F := fun b' o v hv => by
    have := h.F_lt hv
    simp only [Env.moveTail]
    rw [if_neg (by omega)]; exact hv
  have hb' : ∀ b, blk (E.moveTail r w.heap.size (n' * e) cap cs) (st.set r (.tail n' e)) r = some b → b = w.heap.size := fun b hb2 => by
    simp only [blk, get_set_eq hr, Env.moveTail, if_true] at hb2
    split at hb2
    · simp at hb2; omega
    · simp at hb2
  have he : Ext w.heap.size (live E st) E st (E.moveTail r w.heap.size (n' * e) cap cs) (st.set r (.tail n' e)) :=
    Ext.updated _ hr hF (fun b' o hb _ => by simp only [Env.moveTail]; rw [if_neg (by omega)]) hold ⟨n', rfl, by omega, fun he => by omega⟩ (fun b hb2 => .inl (by have := hb' b hb2; omega))
  refine ⟨h.updated he hold (fun b' hb2 _ => heap_alloc_lt' hb2) (fun b' o v hv => ?_) (fun b' ⟨r2, hne, hb2⟩ o => ?_) (fun t2 g2 c2 hx => ?_) (fun n2 e2 hx => ?_) (fun kt et es hx => ?_) (fun r2 b' hne hx => ?_), he, kept_alloc _ _⟩
  · simp only [Env.moveTail] at hv
    split at hv
    · rename_i hbe
      subst hbe
      split at hv
      · rw [World.cell?_alloc_new w cs t o]; exact hv
      · simp at hv
    · exact cell_alloc_lt (h.hF b' o v hv)
  · have := h.blk_lt hb2
    simp only [Env.moveTail]
    rw [if_neg (by omega)]
  · rw [get_set_eq hr] at hx; simp at hx
  · rw [get_set_eq hr] at hx; simp at hx
    obtain ⟨rfl, rfl⟩ := hx
    simp only [Env.moveTail, if_true]
    refine ⟨hn', fun _ => ⟨w.heap.size, cs, t, rfl, heap_alloc_at, hcap, fun o ho => ?_⟩⟩
    simp only [if_true]
    rw [if_neg (by omega)]
  · rw [get_set_eq hr] at hx; simp at hx
  · have := hb' b' hx; subst this
    intro hb2; have := h.blk_lt hb2; omega

theorem Step.setTailSame (h : WS c E st w) {r n e : Nat} (hr : st[r]? = some (.tail n e)) : st.set r (.tail n e) = st := by
  apply List.ext_getElem?
  intro i
  by_cases hi : i = r
  · subst hi; rw [get_set_eq hr, hr]
  · rw [get_set_ne hi]

theorem Step.setMap (h : WS c E st w) {r kt et : Nat} {es : List (Cell × List Cell)} (hr : st[r]? = some (.map kt et es)) (es' : List (Cell × List Cell)) (ms' : Array MapEntry) (clock' : Nat) (hs : ms'.size = es'.length)
    (hc : ∀ (i : Nat) (e : Cell × List Cell), es'[i]? = some e → ∃ m, ms'[i]? = some m ∧ keyOf c kt (.one e.1) = some e.1 ∧ CP E.F e.1 m.key ∧ ∃ av, avOf c et e.2 = some av ∧ AVC E (st.set r (.map kt et es')) av m.val) :
    Step c E st w E (st.set r (.map kt et es')) { w with heap := w.heap.setIfInBounds (E.loc r) (.map ms' clock') } := by
  have hb : blk E st r = some (E.loc r) := by simp [blk, hr]
  have hb' : blk E (st.set r (.map kt et es')) r = some (E.loc r) := by simp [blk, get_set_eq hr]
  obtain ⟨ms, cl, h1, h2, h3⟩ := h.map r kt et es hr
  have hlt : E.loc r < w.heap.size := (Array.getElem?_eq_some_iff.1 h1).1
  have hother : ∀ b, b ≠ E.loc r → (w.heap.setIfInBounds (E.loc r) (.map ms' clock'))[b]? = w.heap[b]? := fun b hb2 => by
    rw [Array.getElem?_setIfInBounds_ne (Ne.symm hb2)]
  have he : Ext w.heap.size (live E st) E st E (st.set r (.map kt et es')) :=
    Ext.updated _ hr (Fz.le_refl _) (fun _ _ _ _ => rfl) (fun _ _ => ⟨rfl, rfl, rfl⟩) ⟨es', rfl, rfl⟩ (fun b hb2 => .inr ⟨r, by rw [hb]; rw [hb'] at hb2; exact hb2⟩)
  refine ⟨h.updated he (fun _ _ => ⟨rfl, rfl, rfl⟩) (fun b _ hb2 => hother b (fun e => hb2 (by rw [hb, e]))) (fun b o v hv => ?_) (fun _ _ _ => rfl) (fun t2 g2 c2 hx => ?_) (fun n e hx => ?_) (fun kt2 et2 es2 hx => ?_) (fun r2 b hne hx => ?_), he, ⟨rfl, rfl, rfl, by simp, fun b _ hx => hother b (fun e => hx ⟨r, by rw [hb, e]⟩)⟩⟩
  · have hv' := h.hF b o v hv
    have hbe : b ≠ E.loc r := fun e => by subst e; simp [World.cell?, h1] at hv'
    simp only [World.cell?, hother b hbe]
    simpa [World.cell?] using hv'
  · rw [get_set_eq hr] at hx; simp at hx
  · rw [get_set_eq hr] at hx; simp at hx
  · rw [get_set_eq hr] at hx; simp at hx
    obtain ⟨rfl, rfl, rfl⟩ := hx
    exact ⟨ms', clock', by simp [hlt], hs, hc⟩
  · rw [hb'] at hx; simp at hx; subst hx
    intro hb2; exact hne (h.inj r2 r _ hb2 hb)

end Go.AI
