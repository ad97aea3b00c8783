/- Parts of values, values put together, slices made and cut. -/
import Derived.Test.YtacfehecjjoffaaDoorAiOps2
set_option linter.unusedVariables false
set_option linter.unusedSimpArgs false
namespace Go.AI
open Go

variable {P : Program} {c : Cfg} {E : Env} {st : St} {w : World}

theorem part_sound {t : TypeId} {o : Nat} {cells : List Cell} {vs : Array Value} {r : AV} (hty : ∀ t i, c.ty t = some i → TyOK P t i) (hs : vs.size = cells.length)
    (hv : ∀ (i : Nat) (x : Cell), cells[i]? = some x → CC E st x (vs.getD i undef)) (h : readCells c t (cells.drop o) = some r) : ∃ y, (part t vs o).run P w = .ok y w ∧ AVC E st r y := by
  unfold readCells at h
  cases hi : c.ty t with
  | none => rw [hi] at h; simp at h
  | some i =>
    rw [hi] at h
    have ht := hty t i hi
    have ha := isAgg_run ht w
    have hsz := sizeOf_run ht w
    have key : ∀ (hh : aggTy i.ty = true), (if i.size ≤ (cells.drop o).length then some (AV.agg ((cells.drop o).take i.size)) else none) = some r → ∃ y, (part t vs o).run P w = .ok y w ∧ AVC E st r y := by
      intro hh h
      split at h
      · rename_i hle
        simp only [Option.some.injEq] at h; subst h
        rw [hh] at ha
        simp only [List.length_drop] at hle
        refine ⟨.agg (vs.extract o (o + i.size)), by simp [part, ha, hsz], .agg _ _ (by simp; omega) fun j x hj => ?_⟩
        rw [List.getElem?_take] at hj
        split at hj
        · rename_i hlt
          rw [List.getElem?_drop] at hj
          have := hv _ x hj
          have hlt2 : o + j < vs.size := by have := (List.getElem?_eq_some_iff.1 hj).1; omega
          have e : (vs.extract o (o + i.size)).getD j undef = vs.getD (o + j) undef := by
            simp [Array.getD_eq_getD_getElem?, Array.getElem?_extract]
            by_cases h3 : j < min (o + i.size) vs.size - o
            · simp [h3]
            · exfalso; omega
          rw [e]; exact this
        · simp at hj
      · simp at h
    have key1 : ∀ (hh : aggTy i.ty = false), (cells.drop o).head?.map AV.one = some r → ∃ y, (part t vs o).run P w = .ok y w ∧ AVC E st r y := by
      intro hh h
      rw [hh] at ha
      obtain ⟨x, hx, rfl⟩ := Option.map_eq_some_iff.1 h
      have hx2 : cells[o]? = some x := by rw [List.head?_drop] at hx; exact hx
      have hlt : o < vs.size := by have := (List.getElem?_eq_some_iff.1 hx2).1; omega
      have := hv o x hx2
      exact ⟨vs.getD o undef, by simp [part, ha, hlt, Array.getD_eq_getD_getElem?], .one _ _ this⟩
    cases hty' : i.ty <;> simp only [hty'] at h <;> first
      | exact key (by rw [hty']; rfl) h
      | exact key1 (by rw [hty']; rfl) (by cases hc : cells.drop o <;> rw [hc] at h <;> first | exact h | (simp at h; done))

theorem fieldAV_sound {t : TypeId} {x r : AV} {f : Nat} {u : Value} (hty : ∀ t i, c.ty t = some i → TyOK P t i) (hx : AVC E st x u) (h : fieldAV c t x f = some r) : ∃ y, (Instr.field t u f).run P w = .ok y w ∧ AVC E st r y := by
  unfold fieldAV at h
  split at h
  · rename_i cs o ft hf
    obtain ⟨vs, rfl, hs, hv⟩ := hx.agg_inv
    unfold fieldOff at hf
    split at hf
    · rename_i fs _ _ _ _ hc
      obtain ⟨d, hd, hk⟩ := (hty _ _ hc).desc
      simp only [descOK] at hk
      obtain ⟨fields, rfl, hfs, _⟩ := hk
      obtain ⟨fl, h1, h2, h3⟩ := hfs f o ft hf
      obtain ⟨y, hy, hy2⟩ := part_sound (w := w) hty hs hv h
      refine ⟨y, ?_, hy2⟩
      simp [Instr.field, run_underlying hd, h1, asAgg, h2, h3, hy]
    · simp at hf
  · simp at h

theorem indexAV_sound {t : TypeId} {x ix r : AV} {u k : Value} (hty : ∀ t i, c.ty t = some i → TyOK P t i) (hx : AVC E st x u) (hi : AVC E st ix k) (h : indexAV c t x ix = some r) : ∃ y, (Instr.index t u k).run P w = .ok y w ∧ AVC E st r y := by
  unfold indexAV at h
  split at h
  · rename_i kk i n e _ _ _ _ cs hc
    have := hi.int_inv; subst this
    obtain ⟨d, hd, hk⟩ := (hty _ _ hc).desc
    simp only [descOK] at hk; subst hk
    obtain ⟨vs, rfl, hs, hv⟩ := hx.agg_inv
    split at h
    · rename_i hb
      obtain ⟨s, hsz, h⟩ := Option.bind_eq_some_iff.1 h
      obtain ⟨_, _, _, hrun⟩ := size_inv hty hsz
      obtain ⟨y, hy, hy2⟩ := part_sound (w := w) hty hs hv h
      exact ⟨y, by simp [Instr.index, asIntOf, run_underlying hd, hb.1, hb.2, hrun, hy], hy2⟩
    · simp at h
  · rename_i kk i _ _ _ _ s hc
    have := hi.int_inv; subst this
    have := hx.str_inv; subst this
    obtain ⟨d, hd, hk⟩ := (hty _ _ hc).desc
    simp only [descOK] at hk; subst hk
    split at h
    · rename_i h0
      obtain ⟨b, hb, rfl⟩ := Option.map_eq_some_iff.1 h
      exact ⟨_, by simp [Instr.index, asIntOf, run_underlying hd, h0, hb], int_cc _ _ _ _⟩
    · simp at h
  · simp at h

/-! fill -/
theorem foldl_set_size (o : Nat) : ∀ (l : List (Value × Nat)) (cs : Array Value), (l.foldl (fun cs (p : Value × Nat) => cs.setIfInBounds (o + p.2) p.1) cs).size = cs.size
  | [], cs => rfl
  | p :: l, cs => by rw [List.foldl_cons, foldl_set_size o l]; simp

theorem foldl_set_get (o : Nat) : ∀ (l : List Value) (k : Nat) (cs : Array Value) (i : Nat), o + k + l.length ≤ cs.size →
    ((l.zipIdx k).foldl (fun cs (p : Value × Nat) => cs.setIfInBounds (o + p.2) p.1) cs).getD i undef = if o + k ≤ i ∧ i < o + k + l.length then l.getD (i - (o + k)) undef else cs.getD i undef
  | [], k, cs, i, _ => by simp; intro h1 h2; omega
  | v :: l, k, cs, i, h => by
    simp only [List.length_cons] at h
    rw [List.zipIdx_cons, List.foldl_cons, foldl_set_get o l (k + 1) _ i (by simp; omega)]
    by_cases h1 : o + (k + 1) ≤ i ∧ i < o + (k + 1) + l.length
    · rw [if_pos h1, if_pos (by simp only [List.length_cons]; omega)]
      rw [show i - (o + k) = (i - (o + (k + 1))) + 1 by omega]
      simp
    · rw [if_neg h1]
      by_cases h2 : i = o + k
      · subst h2
        rw [if_pos (by simp only [List.length_cons]; omega)]
        have : o + k < cs.size := by omega
        simp [Array.getD_eq_getD_getElem?, this]
      · rw [if_neg (by simp only [List.length_cons]; omega)]
        simp only [Array.getD_eq_getD_getElem?]
        rw [Array.getElem?_setIfInBounds_ne (by omega)]

theorem fillAll_sound {place : Nat → Option (Nat × Nat)} : ∀ (parts : List (Nat × AV)) (vals : List (Nat × Value)) (cells cells' : List Cell) (cs : Array Value),
    vals.length = parts.length → (∀ (i : Nat) (p : Nat × AV), parts[i]? = some p → ∃ q : Nat × Value, vals[i]? = some q ∧ q.1 = p.1 ∧ AVC E st p.2 q.2) →
    cs.size = cells.length → (∀ (i : Nat) (x : Cell), cells[i]? = some x → CC E st x (cs.getD i undef)) → fillAll place parts cells = some cells' →
    ∃ cs', Instr.fill place cs vals = some cs' ∧ cs'.size = cells'.length ∧ cells'.length = cells.length ∧ ∀ (i : Nat) (x : Cell), cells'[i]? = some x → CC E st x (cs'.getD i undef)
  | [], vals, cells, cells', cs, hl, _, hs, hc, h => by
    have : vals = [] := List.eq_nil_of_length_eq_zero (by simpa using hl)
    subst this
    simp only [fillAll, Option.some.injEq] at h; subst h
    exact ⟨cs, rfl, hs, rfl, hc⟩
  | (i0, x0) :: parts, vals, cells, cells', cs, hl, hp, hs, hc, h => by
    cases vals with
    | nil => simp at hl
    | cons q vals =>
      obtain ⟨q', hq1, hq2, hq3⟩ := hp 0 (i0, x0) (by simp)
      simp only [List.getElem?_cons_zero, Option.some.injEq] at hq1; subst hq1
      obtain ⟨qi, qv⟩ := q
      simp only at hq2 hq3; subst hq2
      simp only [fillAll] at h
      split at h
      · rename_i o s us hpl hus
        split at h
        · rename_i hlen
          obtain ⟨mid, hput, h⟩ := Option.bind_eq_some_iff.1 h
          obtain ⟨p1, p2⟩ := putCells_spec _ _ _ _ hput
          obtain ⟨u1, u2⟩ := hq3.cells_inv hus
          have hsz : ¬ (qv.cells.size ≠ s ∨ (decide (o + qv.cells.size > cs.size)) = true) := by
            simp; omega
          have hmidlen : mid.length = cells.length := by rw [p2]; simp; omega
          obtain ⟨cs', f1, f2, f3, f4⟩ := fillAll_sound parts vals mid cells' (qv.cells.zipIdx.foldl (fun cs (p : Value × Nat) => cs.setIfInBounds (o + p.2) p.1) cs) (by simpa using hl)
            (fun i p hi => by have := hp (i + 1) p (by simpa using hi); simpa using this) (by
              rw [← Array.foldl_toList, Array.toList_zipIdx, foldl_set_size]; omega) (fun i x hi => by
              rw [← Array.foldl_toList, Array.toList_zipIdx, foldl_set_get o _ 0 _ _ (by simp; omega)]
              simp only [Nat.add_zero, Array.length_toList, u1]
              rw [p2] at hi
              have hto : (cells.take o).length = o := by simp; omega
              by_cases h1 : o ≤ i ∧ i < o + us.length
              · rw [if_pos h1]
                rw [List.append_assoc, List.getElem?_append_right (by omega), List.getElem?_append_left (by omega), hto] at hi
                have := u2 _ x hi
                simpa [Array.getD_eq_getD_getElem?] using this
              · rw [if_neg h1]
                by_cases h2 : i < o
                · rw [List.append_assoc, List.getElem?_append_left (by omega), List.getElem?_take_of_lt h2] at hi
                  exact hc i x hi
                · rw [List.append_assoc, List.getElem?_append_right (by omega), List.getElem?_append_right (by omega), hto, List.getElem?_drop] at hi
                  rw [show o + us.length + (i - o - us.length) = i by omega] at hi
                  exact hc i x hi) h
          refine ⟨cs', ?_, f2, by omega, f4⟩
          simp only [Instr.fill, hpl]
          rw [if_neg (by simpa using hsz)]
          exact f1
        · simp at h
      · simp at h

theorem places_run {t : TypeId} {i : TyInfo} (hty : ∀ t i, c.ty t = some i → TyOK P t i) (hc : c.ty t = some i) : True := trivial

theorem fill_congr {p q : Nat → Option (Nat × Nat)} : ∀ (vals : List (Nat × Value)) (cs : Array Value), (∀ x ∈ vals, ∀ o s, p x.1 = some (o, s) → q x.1 = some (o, s)) → ∀ cs', Instr.fill p cs vals = some cs' → Instr.fill q cs vals = some cs'
  | [], cs, _, cs', h => h
  | (i, v) :: l, cs, hpq, cs', h => by
    simp only [Instr.fill] at h ⊢
    cases hp : p i with
    | none => rw [hp] at h; simp at h
    | some os =>
      obtain ⟨o, s⟩ := os
      rw [hp] at h
      rw [hpq (i, v) (by simp) o s hp]
      simp only at h ⊢
      split at h
      · simp at h
      · rename_i hne
        rw [if_neg hne]
        exact fill_congr l _ (fun x hx => hpq x (by simp [hx])) cs' h

theorem mapM_run {α β : Type} (f : α → Sem β) (g : α → β) (w : World) : ∀ (l : List α), (∀ x ∈ l, (f x).run P w = .ok (g x) w) → (l.mapM f).run P w = .ok (l.map g) w
  | [], _ => by simp
  | x :: l, h => by
    have ih := mapM_run f g w l (fun y hy => h y (by simp [hy]))
    simp [List.mapM_cons, h x (by simp), ih]
theorem mapM_arr_run {α β : Type} (f : α → Sem β) (g : α → β) (w : World) (a : Array α) (h : ∀ x ∈ a.toList, (f x).run P w = .ok (g x) w) : (a.mapM f).run P w = .ok (a.map g) w := by
  rw [Array.mapM_eq_mapM_toList]
  simp [mapM_run f g w a.toList h]
  apply Array.ext'
  simp

theorem build_sound {t : TypeId} {parts : List (Nat × AV)} {vals : Array (Nat × Value)} {cells : List Cell} (hty : ∀ t i, c.ty t = some i → TyOK P t i) (hl : vals.size = parts.length)
    (hp : ∀ (i : Nat) (p : Nat × AV), parts[i]? = some p → ∃ q : Nat × Value, vals.toList[i]? = some q ∧ q.1 = p.1 ∧ AVC E st p.2 q.2) (h : buildAV c t parts = some cells) :
    ∃ cs, (Instr.build t vals).run P w = .ok (.agg cs) w ∧ cs.size = cells.length ∧ ∀ (i : Nat) (x : Cell), cells[i]? = some x → CC E st x (cs.getD i undef) := by
  unfold buildAV at h
  split at h
  · rename_i i hc
    have ht := hty t i hc
    obtain ⟨z, hz, z1, z2, z3⟩ := zero_run ht
    obtain ⟨d, hd, hk⟩ := ht.desc
    split at h
    · rename_i fs hfs
      obtain ⟨cs, f1, f2, f3, f4⟩ := fillAll_sound parts vals.toList i.zero cells z.cells (by simpa using hl) hp z1 (z3 E st) h
      refine ⟨cs, ?_, f2, f4⟩
      rw [hfs] at hk
      obtain ⟨fields, rfl, hfd, hinf⟩ := hk
      have hm := mapM_arr_run (P := P) (fun f : Field => do pure (f.offset, ← sizeOf f.type)) (fun f => (f.offset, P.cellsOf f.type)) w fields (fun f hf => by
        obtain ⟨inf, hi⟩ := Option.isSome_iff_exists.1 (hinf f hf)
        simp [sizeOf, typeInfo, hi, Program.cellsOf])
      have hfill : Instr.fill (fun k => (fields.map fun f => (f.offset, P.cellsOf f.type))[k]?) z.cells vals.toList = some cs := by
        refine fill_congr vals.toList z.cells (fun x hx o s hps => ?_) cs f1
        simp only [placesOf, hc, hfs] at hps
        obtain ⟨⟨o', ft⟩, h1, h2⟩ := Option.bind_eq_some_iff.1 hps
        obtain ⟨s', h3, h4⟩ := Option.map_eq_some_iff.1 h2
        simp only [Prod.mk.injEq] at h4
        obtain ⟨rfl, rfl⟩ := h4
        obtain ⟨fl, g1, g2, g3⟩ := hfd x.1 o' ft h1
        obtain ⟨i', hi', hsz, _⟩ := size_inv hty h3
        obtain ⟨info, _, e1, e2, _⟩ := (hty _ _ hi').info
        simp [g1, g2, g3, Program.cellsOf, e1, e2, hsz]
      simp only [Instr.build, Sem.run_bind, hz, Result.andThen_ok, run_underlying hd, hm, hfill, Sem.run_pure]
    · rename_i n e hfs
      split at h
      · rename_i hse
        obtain ⟨s, hse⟩ := Option.isSome_iff_exists.1 hse
        obtain ⟨cs, f1, f2, f3, f4⟩ := fillAll_sound parts vals.toList i.zero cells z.cells (by simpa using hl) hp z1 (z3 E st) h
        refine ⟨cs, ?_, f2, f4⟩
        rw [hfs] at hk
        simp only [descOK] at hk; subst hk
        obtain ⟨_, _, _, hrun⟩ := size_inv hty hse
        have hfill : Instr.fill (fun k => some (k * s, s)) z.cells vals.toList = some cs := by
          refine fill_congr vals.toList z.cells (fun x hx o s' hps => ?_) cs f1
          simp only [placesOf, hc, hfs, hse, Option.map_some] at hps
          exact hps
        simp only [Instr.build, Sem.run_bind, hz, Result.andThen_ok, run_underlying hd, hrun, hfill, Sem.run_pure]
      · simp at h
    · simp at h
  · simp at h

/-! Cells in rows. -/
theorem chunk_length (s : Nat) : ∀ (n : Nat) (l : List Cell), (chunk s n l).length = n
  | 0, _ => rfl
  | n + 1, l => by simp [chunk, chunk_length s n]
theorem chunk_get (s : Nat) : ∀ (n i : Nat) (l : List Cell), i < n → (chunk s n l)[i]? = some ((l.drop (i * s)).take s)
  | 0, i, l, h => by omega
  | n + 1, 0, l, _ => by simp [chunk]
  | n + 1, i + 1, l, h => by
    simp only [chunk, List.getElem?_cons_succ]
    rw [chunk_get s n i _ (by omega), List.drop_drop, Nat.add_mul, Nat.one_mul, Nat.add_comm s]
theorem chunk_row {s n i : Nat} {l row : List Cell} (hl : l.length = n * s) (h : (chunk s n l)[i]? = some row) : i < n ∧ row.length = s ∧ ∀ (j : Nat) (x : Cell), row[j]? = some x → l[i * s + j]? = some x := by
  have hi : i < n := by have := (List.getElem?_eq_some_iff.1 h).1; rwa [chunk_length] at this
  rw [chunk_get s n i l hi] at h
  simp only [Option.some.injEq] at h; subst h
  have h1 : (i + 1) * s ≤ n * s := Nat.mul_le_mul_right s hi
  rw [Nat.add_mul, Nat.one_mul] at h1
  refine ⟨hi, by simp; omega, fun j x hj => ?_⟩
  rw [List.getElem?_take] at hj
  split at hj
  · rw [List.getElem?_drop] at hj; exact hj
  · simp at hj

theorem slice_cp {F : Fz} {b off n cap s : Nat} {cells : List Cell} (tok : Tok) (vs : Nat → Value) (hl : cells.length = n * s) (hF : ∀ (k : Nat) (x : Cell), cells[k]? = some x → F b (off + k) = some (vs k))
    (hC : ∀ (k : Nat) (x : Cell), cells[k]? = some x → CP F x (vs k) ∧ x.noTok = true) (hcap : n ≤ cap) : CP F (.slice tok s (chunk s n cells)) (.slice (some ⟨b, off, none⟩) n cap) := by
  have h := CP.slice (F := F) tok s (chunk s n cells) (some ⟨b, off, none⟩) b off cap (fun i j => vs (i * s + j)) (fun _ => rfl) (by rw [chunk_length]; exact hcap)
    (fun i row h => (chunk_row hl h).2.1) (fun i j row x h1 h2 => by rw [Nat.add_assoc]; exact hF _ x ((chunk_row hl h1).2.2 j x h2))
    (fun i j row x h1 h2 => (hC _ x ((chunk_row hl h1).2.2 j x h2)).1) (fun i j row x h1 h2 => (hC _ x ((chunk_row hl h1).2.2 j x h2)).2)
  rwa [chunk_length] at h

theorem pure1_sound {x y : Cell} {v : Value} (h : x.pure1 = some y) (hx : CC E st x v) : CP E.F y v ∧ y.noTok = true := by
  cases x with
  | slice tok e rows =>
    simp only [Cell.pure1, Option.some.injEq] at h; subst h
    refine ⟨?_, rfl⟩
    cases hx with | pure _ _ h _ => exact h.tok
  | int k n => simp only [Cell.pure1, Option.some.injEq] at h; subst h; refine ⟨?_, rfl⟩; cases hx with | pure _ _ h _ => exact h
  | bool b => simp only [Cell.pure1, Option.some.injEq] at h; subst h; refine ⟨?_, rfl⟩; cases hx with | pure _ _ h _ => exact h
  | str s => simp only [Cell.pure1, Option.some.injEq] at h; subst h; refine ⟨?_, rfl⟩; cases hx with | pure _ _ h _ => exact h
  | nilp => simp only [Cell.pure1, Option.some.injEq] at h; subst h; refine ⟨?_, rfl⟩; cases hx with | pure _ _ h _ => exact h
  | nilm => simp only [Cell.pure1, Option.some.injEq] at h; subst h; refine ⟨?_, rfl⟩; cases hx with | pure _ _ h _ => exact h
  | nilf => simp only [Cell.pure1, Option.some.injEq] at h; subst h; refine ⟨?_, rfl⟩; cases hx with | pure _ _ h _ => exact h
  | nili => simp only [Cell.pure1, Option.some.injEq] at h; subst h; refine ⟨?_, rfl⟩; cases hx with | pure _ _ h _ => exact h
  | own r g esz cp off len => simp [Cell.pure1] at h
  | ptr r g off => simp [Cell.pure1] at h
  | fp cells => simp [Cell.pure1] at h
  | map r => simp [Cell.pure1] at h
  | func f a b => simp [Cell.pure1] at h
  | iface t a cs => simp [Cell.pure1] at h
theorem purify_spec : ∀ (l l' : List Cell), purify l = some l' → l'.length = l.length ∧ ∀ (i : Nat) (x : Cell), l'[i]? = some x → ∃ y, l[i]? = some y ∧ y.pure1 = some x
  | [], l', h => by simp only [purify, Option.some.injEq] at h; subst h; exact ⟨rfl, fun i x h => by simp at h⟩
  | c :: l, l', h => by
    simp only [purify] at h
    split at h
    · rename_i c' m hc hm
      simp only [Option.some.injEq] at h; subst h
      obtain ⟨h1, h2⟩ := purify_spec l m hm
      refine ⟨by simp [h1], fun i x hi => ?_⟩
      cases i with
      | zero => simp at hi; subst hi; exact ⟨c, by simp, hc⟩
      | succ i => simpa using h2 i x (by simpa using hi)
    · simp at h
theorem purify_sound {l l' : List Cell} {vs : Nat → Value} (h : purify l = some l') (hv : ∀ (i : Nat) (x : Cell), l[i]? = some x → CC E st x (vs i)) : l'.length = l.length ∧ ∀ (i : Nat) (x : Cell), l'[i]? = some x → CP E.F x (vs i) ∧ x.noTok = true := by
  obtain ⟨h1, h2⟩ := purify_spec l l' h
  refine ⟨h1, fun i x hi => ?_⟩
  obtain ⟨y, hy, hp⟩ := h2 i x hi
  exact pure1_sound hp (hv i y hy)

theorem zeros_length (z : List Cell) : ∀ n, (zeros z n).length = n * z.length
  | 0 => by simp [zeros]
  | n + 1 => by simp [zeros, zeros_length z n, Nat.add_mul, Nat.add_comm]
theorem zeros_get (z : List Cell) : ∀ (n i : Nat) (x : Cell), (zeros z n)[i]? = some x → z[i % z.length]? = some x
  | 0, i, x, h => by simp [zeros] at h
  | n + 1, i, x, h => by
    simp only [zeros] at h
    by_cases hi : i < z.length
    · rw [List.getElem?_append_left hi] at h
      rw [Nat.mod_eq_of_lt hi]; exact h
    · rw [List.getElem?_append_right (by omega)] at h
      have := zeros_get z n _ x h
      rw [Nat.mod_eq_sub_mod (by omega)]; exact this

/-- The zero cells that the model lays. -/
theorem made_cc {z : Value} {zc : List Cell} (n : Nat) (hs : z.cells.size = zc.length) (hz : ∀ (j : Nat) (x : Cell), zc[j]? = some x → CC E st x (z.cells.getD j undef)) :
    ∀ (i : Nat) (x : Cell), (zeros zc n)[i]? = some x → CC E st x (((Array.range (n * zc.length)).map (z.cells[· % z.cells.size]!)).getD i undef) := by
  intro i x hi
  have hlt : i < n * zc.length := by have := (List.getElem?_eq_some_iff.1 hi).1; rwa [zeros_length] at this
  have h1 := zeros_get zc n i x hi
  have h2 := hz _ x h1
  have h3 : i % zc.length < zc.length := (List.getElem?_eq_some_iff.1 h1).1
  have e : ((Array.range (n * zc.length)).map (z.cells[· % z.cells.size]!)).getD i undef = z.cells.getD (i % zc.length) undef := by
    rw [Array.getD_eq_getD_getElem?, Array.getElem?_map, Array.getElem?_range]
    simp only [hlt, if_true, Option.map_some, Option.getD_some, hs]
    rw [getElem!_def, Array.getD_eq_getD_getElem?, Array.getElem?_eq_getElem (by omega)]
    simp
  rw [e]; exact h2

theorem buildSlice_sound {kd : Kind} {t : TypeId} {len : Nat} {parts : List (Nat × AV)} {vals : Array (Nat × Value)} {wb : Nat} {callf : FuncId → List AV → St → Option (AV × St)} {av : AV} {st' : St}
    (hty : ∀ t i, c.ty t = some i → TyOK P t i) (hW : WS c E st w) (hl : vals.size = parts.length)
    (hp : ∀ (i : Nat) (p : Nat × AV), parts[i]? = some p → ∃ q : Nat × Value, vals.toList[i]? = some q ∧ q.1 = p.1 ∧ AVC E st p.2 q.2) (h : (buildSlicePlan c kd t len parts).exec wb callf st = some (av, st')) :
    ∃ x w' E', (Instr.buildSlice t len vals).run P w = .ok x w' ∧ AVC E' st' av x ∧ Step c E st w E' st' w' := by
  unfold buildSlicePlan at h
  split at h
  · rename_i e _ _ _ _ hc
    obtain ⟨d, hd, hk⟩ := (hty _ _ hc).desc
    simp only [descOK] at hk; subst hk
    split at h
    · rename_i i hce
      have ht := hty e i hce
      obtain ⟨z, hz, z1, z2, z3⟩ := zero_run ht
      have hsz := sizeOf_run ht w
      split at h
      · rename_i hle
        split at h
        · rename_i cells hfill
          have hr0 : ∀ (k : Nat) (x : Cell), (zeros i.zero len)[k]? = some x → CC E st x (((Array.range (len * i.size)).map (z.cells[· % z.cells.size]!)).getD k undef) := by
            have := made_cc (E := E) (st := st) len z1 (z3 E st)
            rwa [z2] at this
          obtain ⟨cs, f1, f2, f3, f4⟩ := fillAll_sound (place := fun j => some (j * i.size, i.size)) parts vals.toList (zeros i.zero len) cells ((Array.range (len * i.size)).map (z.cells[· % z.cells.size]!)) (by simpa using hl) hp
            (by simp [zeros_length, z2]) hr0 hfill
          rw [zeros_length, z2] at f3
          have hrun : (Instr.buildSlice t len vals).run P w = .ok (.slice (some ⟨w.heap.size, 0, none⟩) len len) (w.alloc (.cells cs e)) := by
            have hle' : ¬ (16777216 < len * i.size) := by omega
            by_cases h0 : len * i.size = 0
            · have f1' : Instr.fill (fun j => some (j * i.size, i.size)) ((Array.range (len * i.size)).map ((#[] : Array Value)[· % (#[] : Array Value).size]!)) vals.toList = some cs := by
                have : ((Array.range (len * i.size)).map ((#[] : Array Value)[· % (#[] : Array Value).size]!)) = (Array.range (len * i.size)).map (z.cells[· % z.cells.size]!) := by
                  rw [h0]; apply Array.ext'; simp
                rw [this]; exact f1
              simp only [Instr.buildSlice, Sem.run_bind, run_underlying hd, Result.andThen_ok, hsz]
              rw [if_neg (by simpa using hle'), if_pos h0]
              simp only [pure_bind, Sem.run_bind, Sem.run_pure, Result.andThen_ok, f1', newRow, run_newObj, World.alloc_eq]
            · simp only [Instr.buildSlice, Sem.run_bind, run_underlying hd, Result.andThen_ok, hsz]
              rw [if_neg (by simpa using hle'), if_neg h0]
              simp only [pure_bind, Sem.run_bind, hz, Sem.run_pure, Result.andThen_ok, f1, newRow, run_newObj, World.alloc_eq]
          have own : ∀ (hk : Plan.exec wb callf st (.new (fun _ => [.row e 0 cells]) fun r => .one (.own r 0 i.size true 0 len)) = some (av, st')),
              ∃ x w' E', (Instr.buildSlice t len vals).run P w = .ok x w' ∧ AVC E' st' av x ∧ Step c E st w E' st' w' := by
            intro hk
            obtain ⟨rfl, rfl⟩ := exec_new hk
            have hx : nilTails [] := fun x hx => by simp at hx
            have hS := Step.pushRow hW e cells cs [] (fun _ => none) hx (by omega) (fun k x hkx => (f4 k x hkx).ext (Ext.pushRow w.heap.size (fun n e he => by simp at he) hx _ _ _ (Nat.le_refl _)))
            refine ⟨_, _, _, hrun, .one _ _ (.own _ _ _ _ _ _ _ _ (by simp) (Nat.le_refl _) (fun _ => by simp) (fun t' g' cells' hst => ?_) (fun t' g' hst => ?_)), hS⟩
            · rw [get_push_row (Nat.le_refl _)] at hst
              simp only [if_true, Option.some.injEq, Res.row.injEq] at hst
              obtain ⟨_, rfl, _⟩ := hst
              refine ⟨Nat.le_refl _, fun _ => ⟨fun _ => by simp [Env.pushRow], fun _ => ?_⟩⟩
              simp only [Env.pushRow, if_true]; omega
            · rw [get_push_row (Nat.le_refl _)] at hst
              simp at hst
          have plain : ∀ (cells2 : List Cell) (hpu : purify cells = some cells2) (hk : Plan.exec wb callf st (.val (.one (.slice .exact i.size (chunk i.size len cells2)))) = some (av, st')),
              ∃ x w' E', (Instr.buildSlice t len vals).run P w = .ok x w' ∧ AVC E' st' av x ∧ Step c E st w E' st' w' := by
            intro cells2 hpu hk
            obtain ⟨rfl, rfl⟩ := exec_val hk
            have hS := Step.frozen hW cs e cs.size
            obtain ⟨q1, q2⟩ := purify_sound hpu f4
            have hF : E.F.le (E.froz w.heap.size fun o => if o < cs.size then cs[o]? else none).F := hS.ext.F
            refine ⟨_, _, _, hrun, .one _ _ (.pure _ _ (slice_cp .exact (fun k => cs.getD k undef) (by omega) (fun k x hk => ?_) (fun k x hk => ⟨(q2 k x hk).1.mono hF, (q2 k x hk).2⟩) (Nat.le_refl _)) ?_), hS⟩
            · have hlt : k < cs.size := by have := (List.getElem?_eq_some_iff.1 hk).1; omega
              simp [Env.froz, hlt, Array.getD_eq_getD_getElem?]
            · intro tok e' rows he
              simp only [Cell.slice.injEq] at he
              obtain ⟨rfl, rfl, rfl⟩ := he
              intro A n cap hv
              simp only [Value.slice.injEq] at hv
              omega
          cases kd with
          | own => exact own h
          | plain =>
            simp only at h
            split at h
            · rename_i cells2 hpu; exact plain cells2 hpu h
            · exact (exec_fail h).elim
          | tok =>
            simp only at h
            split at h
            · rename_i cells2 hpu; exact plain cells2 hpu h
            · exact (exec_fail h).elim
        · exact (exec_fail h).elim
      · exact (exec_fail h).elim
    · exact (exec_fail h).elim
  · exact (exec_fail h).elim

end Go.AI
