/- What leaves a call is frozen. -/
import Derived.Test.YtacfehecjjoffaaDoorAiTrim
set_option linter.unusedVariables false
set_option linter.unusedSimpArgs false
namespace Go.AI
open Go

variable {c : Cfg} {E E1 E' : Env} {st st1 : St} {w w1 : World} {n : Nat}

def killed (ok : Nat → Bool) (r : Nat) : Res → Res
  | .row t g cells => if ok r then .dead else .row t g cells
  | x => x
def kill (ok : Nat → Bool) (st : St) : St := st.mapIdx (killed ok)
theorem kill_get (ok : Nat → Bool) (st : St) (r : Nat) : (kill ok st)[r]? = (st[r]?).map (killed ok r) := by simp [kill]
theorem kill_length (ok : Nat → Bool) (st : St) : (kill ok st).length = st.length := by simp [kill]

def Frozen (E : Env) (st : St) (ok : Nat → Bool) (b : Nat) : Prop := ∃ q t g cells, ok q = true ∧ st[q]? = some (.row t g cells) ∧ E.loc q = b
open Classical in
noncomputable def Env.frz (E : Env) (st : St) (w : World) (ok : Nat → Bool) : Env := { E with F := fun b o => if Frozen E st ok b then w.cell? ⟨b, o, none⟩ else E.F b o }

theorem kill_row {ok : Nat → Bool} {r : Nat} {t : TypeId} {g : Nat} {cells : List Cell} (h : (kill ok st)[r]? = some (.row t g cells)) : st[r]? = some (.row t g cells) ∧ ok r = false := by
  rw [kill_get] at h
  obtain ⟨x, hx, h⟩ := Option.map_eq_some_iff.1 h
  cases x with
  | row t' g' cells' =>
    simp only [killed] at h
    split at h
    · simp at h
    · rename_i hok; exact ⟨by rw [hx, h], by simpa using hok⟩
  | _ => simp [killed] at h
theorem kill_other {ok : Nat → Bool} {r : Nat} {x : Res} (h : (kill ok st)[r]? = some x) (hx : x ≠ .dead) : st[r]? = some x := by
  rw [kill_get] at h
  obtain ⟨y, hy, h⟩ := Option.map_eq_some_iff.1 h
  cases y with
  | row t' g' cells' =>
    simp only [killed] at h
    split at h
    · exact absurd h.symm hx
    · rw [hy, h]
  | _ => simp only [killed] at h; rw [hy, h]
theorem blk_kill {ok : Nat → Bool} {r b : Nat} (h : blk E' (kill ok st) r = some b) (hl : E'.loc r = E.loc r) (ht : E'.tl r = E.tl r) : blk E st r = some b := by
  unfold blk at h
  split at h
  · rename_i hx; rw [blk, kill_other hx (by simp)]; simpa [hl] using h
  · rename_i hx; rw [blk, kill_other hx (by simp)]; simpa [hl] using h
  · rename_i hx; rw [blk, kill_other hx (by simp)]; simpa [ht] using h
  · simp at h

theorem blk_row {r : Nat} {t : TypeId} {g : Nat} {cells : List Cell} (h : st[r]? = some (.row t g cells)) : blk E st r = some (E.loc r) := by simp [blk, h]

theorem Step.freeze (h : WS c E st w) (ok : Nat → Bool) : Step c E st w (E.frz st w ok) (kill ok st) w := by
  have hF : E.F.le (E.frz st w ok).F := fun b o v hv => by
    simp only [Env.frz]
    rw [if_neg]
    · exact hv
    · rintro ⟨q, t, g, cells, _, hq, rfl⟩
      obtain ⟨_, _, _, _, _, h5⟩ := h.row q t g cells hq
      rw [h5 o] at hv; simp at hv
  have he : Ext w.heap.size (live E st) E st (E.frz st w ok) (kill ok st) :=
    { F := hF
      Fnew := fun b o hb hx => by
        simp only [Env.frz]
        rw [if_neg]
        rintro ⟨q, t, g, cells, _, hq, rfl⟩
        exact hx ⟨q, blk_row hq⟩
      len := by rw [kill_length]; exact Nat.le_refl _
      row := fun r t g cells hr => by
        rw [kill_get, hr]
        simp only [Option.map_some, killed]
        split
        · exact .inl rfl
        · exact .inr ⟨t, g, cells, rfl, Nat.le_refl _, fun _ => ⟨rfl, rfl⟩⟩
      nrow := fun r t g hr => by rw [kill_get, hr]; exact .inr (.inl rfl)
      tail := fun r k e hr => by rw [kill_get, hr]; exact .inr ⟨k, rfl, Nat.le_refl _, fun _ => rfl⟩
      map := fun r kt et es hr => by rw [kill_get, hr]; exact .inr ⟨es, rfl, rfl⟩
      dead := fun r hr => by rw [kill_get, hr]; rfl
      blocks := fun r b hr => .inr ⟨r, blk_kill hr rfl rfl⟩ }
  refine ⟨?_, he, Kept.refl _ _ _⟩
  exact
    { hF := fun b o v hv => by
        simp only [Env.frz] at hv
        split at hv
        · exact hv
        · exact h.hF b o v hv
      row := fun r t g cells hr => by
        obtain ⟨hr', hok⟩ := kill_row hr
        obtain ⟨cs, a1, a2, a3, a4, a5⟩ := h.row r t g cells hr'
        refine ⟨cs, a1, a2, a3, fun i x hx => (a4 i x hx).ext he, fun o => ?_⟩
        simp only [Env.frz]
        rw [if_neg]
        · exact a5 o
        · rintro ⟨q, t', g', cells', hq1, hq2, hq3⟩
          have := h.inj q r _ (blk_row hq2) (by rw [blk_row hr', hq3])
          subst this
          rw [hok] at hq1; cases hq1
      tail := fun r k e hr => by
        have hr' := kill_other hr (by simp)
        obtain ⟨a1, a2⟩ := h.tail r k e hr'
        refine ⟨a1, fun hk => ?_⟩
        obtain ⟨b, cs, t, b1, b2, b3, b4⟩ := a2 hk
        refine ⟨b, cs, t, b1, b2, b3, fun o ho => ?_⟩
        simp only [Env.frz]
        rw [if_neg]
        · exact b4 o ho
        · rintro ⟨q, t', g', cells', hq1, hq2, hq3⟩
          have hk' : k < (E.tl r).2 := hk
          have b1' : (E.tl r).1 = some ⟨b, 0, none⟩ := b1
          have hb : blk E st r = some b := by simp [blk, hr', hk', b1']
          have := h.inj q r _ (blk_row hq2) (by rw [hb, hq3])
          subst this
          rw [hr'] at hq2; simp at hq2
      map := fun r kt et es hr => by
        have hr' := kill_other hr (by simp)
        obtain ⟨ms, cl, a1, a2, a3⟩ := h.map r kt et es hr'
        refine ⟨ms, cl, a1, a2, fun i e hi => ?_⟩
        obtain ⟨m, b1, b2, b3, av, b4, b5⟩ := a3 i e hi
        exact ⟨m, b1, b2, b3.mono hF, av, b4, b5.ext he⟩
      inj := fun r r' b h1 h2 => h.inj r r' b (blk_kill h1 rfl rfl) (blk_kill h2 rfl rfl)
      glob := fun g cells hg => by
        obtain ⟨vs, hv⟩ := h.glob g cells hg
        exact ⟨vs, fun j x hj => ⟨hF _ _ _ (hv j x hj).1, (hv j x hj).2.1.mono hF, (hv j x hj).2.2⟩⟩ }

theorem freezeList_spec {f : Cell → Option Cell} : ∀ (l l' : List Cell), freezeList f l = some l' → l'.length = l.length ∧ ∀ (i : Nat) (y : Cell), l'[i]? = some y → ∃ x, l[i]? = some x ∧ f x = some y
  | [], l', h => by simp only [freezeList, Option.some.injEq] at h; subst h; exact ⟨rfl, fun i y h => by simp at h⟩
  | x :: l, l', h => by
    simp only [freezeList] at h
    split at h
    · rename_i y m hy hm
      simp only [Option.some.injEq] at h; subst h
      obtain ⟨h1, h2⟩ := freezeList_spec l m hm
      refine ⟨by simp [h1], fun i z hi => ?_⟩
      cases i with
      | zero => simp at hi; subst hi; exact ⟨x, by simp, hy⟩
      | succ i => simpa using h2 i z (by simpa using hi)
    · simp at h
theorem freezeCells_spec {ok : Nat → Bool} {k : Nat} (l l' : List Cell) (h : freezeCells ok st k l = some l') : l'.length = l.length ∧ ∀ (i : Nat) (y : Cell), l'[i]? = some y → ∃ x, l[i]? = some x ∧ freezeCell ok st k x = some y := freezeList_spec l l' h

theorem freezeCell_sound (h : WS c E st w) {ok : Nat → Bool} : ∀ (k : Nat) (x y : Cell) (v : Value), freezeCell ok st k x = some y → CC E st x v → CP (E.frz st w ok).F y v ∧ y.noTok = true
  | 0, x, y, v, hf, hx => by
    obtain ⟨h1, h2⟩ := pure1_sound (x := x) (by simpa [freezeCell] using hf) hx
    exact ⟨h1.mono (Step.freeze h ok).ext.F, h2⟩
  | k + 1, x, y, v, hf, hx => by
    have plain : x.pure1 = some y → CP (E.frz st w ok).F y v ∧ y.noTok = true := fun hp => by
      obtain ⟨h1, h2⟩ := pure1_sound hp hx
      exact ⟨h1.mono (Step.freeze h ok).ext.F, h2⟩
    cases x with
    | own r g s cp off len =>
      obtain ⟨A, cap, rfl, hr, hcap, hA, h1, h2⟩ := (AVC.one _ _ hx).own_inv
      simp only [freezeCell] at hf
      cases hst : st[r]? with
      | none => rw [hst] at hf; simp at hf
      | some res =>
        rw [hst] at hf
        cases res with
        | row t g' cells =>
          simp only at hf
          split at hf
          · rename_i hc
            obtain ⟨hok, rfl, hle⟩ := hc
            obtain ⟨cs', hcs, rfl⟩ := Option.map_eq_some_iff.1 hf
            obtain ⟨l1, l2⟩ := freezeList_spec _ _ hcs
            obtain ⟨cs, a1, a2, a3, a4, a5⟩ := h.row r t g cells hst
            have hl : cs'.length = len * s := by rw [l1]; simp; omega
            refine ⟨?_, rfl⟩
            have hcell : ∀ (i : Nat) (z : Cell), cs'[i]? = some z → CP (E.frz st w ok).F z (cs.getD (off + i) undef) ∧ z.noTok = true := fun i z hz => by
              obtain ⟨x, hx1, hx2⟩ := l2 i z hz
              have hx3 : cells[off + i]? = some x := by
                rw [List.getElem?_take] at hx1
                split at hx1
                · rw [List.getElem?_drop] at hx1; exact hx1
                · simp at hx1
              exact freezeCell_sound h k x z _ hx2 (a4 _ x hx3)
            by_cases hor : len ≠ 0 ∨ off = 0
            · have := ((h1 t g cells hst).2 rfl).1 hor
              subst this
              refine slice_cp .no (fun i => cs.getD (off + i) undef) hl (fun i z hz => ?_) hcell hcap
              have hlt : off + i < cs.size := by have := (List.getElem?_eq_some_iff.1 hz).1; omega
              simp only [Env.frz]
              rw [if_pos ⟨r, t, g, cells, hok, hst, rfl⟩]
              simp [World.cell?, a1, hlt]
            · have hl0 : len = 0 := by omega
              subst hl0
              simp only [chunk]
              exact .slice .no s [] A 0 0 cap (fun _ _ => undef) (fun h => absurd rfl h) (Nat.zero_le _) (fun i row h => by simp at h) (fun i j row c h => by simp at h) (fun i j row c h => by simp at h) (fun i j row c h => by simp at h)
          · simp at hf
        | nrow t g' =>
          simp only at hf
          split at hf
          · rename_i hc
            obtain ⟨rfl, rfl⟩ := hc
            simp only [Option.some.injEq] at hf; subst hf
            obtain ⟨_, _, rfl, rfl⟩ := h2 t g hst
            exact ⟨.slice .no s [] none 0 0 0 (fun _ _ => undef) (fun h => absurd rfl h) (Nat.le_refl _) (fun i row h => by simp at h) (fun i j row c h => by simp at h) (fun i j row c h => by simp at h) (fun i j row c h => by simp at h), rfl⟩
          · simp at hf
        | _ => simp at hf
    | _ => exact plain (by simpa [freezeCell] using hf)

/-- Cells that are related where there is no resource are so everywhere. -/
theorem CC.lift0 {x : Cell} {v : Value} (hF : E.F.le E'.F) (h : CC E [] x v) : CC E' st x v := by
  generalize hs : ([] : St) = s0 at h
  induction h with
  | pure x v hp ht =>
    refine .pure x v (hp.mono hF) fun tok e rows hx => ?_
    have := ht tok e rows hx
    cases tok with
    | no => trivial
    | exact => exact this
    | tail r => obtain ⟨h1, _⟩ := this; subst hs; simp at h1
  | own r g esz cp off len A cap h1 => subst hs; simp at h1
  | ptr r g off a h1 => subst hs; simp at h1
  | fp cells b o vs h1 h2 => exact .fp cells b o vs (fun j y hj => hF _ _ _ (h1 j y hj)) (fun j y hj => ⟨(h2 j y hj).1.mono hF, (h2 j y hj).2⟩)
  | map r m h1 => subst hs; simp at h1
  | func f first captured fs cs h1 h2 _ _ i1 i2 => exact .func f first captured fs cs h1 h2 i1 i2
theorem AVC.lift0 {x : AV} {v : Value} (hF : E.F.le E'.F) (h : AVC E [] x v) : AVC E' st x v := by
  generalize hs : ([] : St) = s0 at h
  induction h with
  | any v => exact .any v
  | one x v hx => subst hs; exact .one x v (hx.lift0 hF)
  | agg cs vs hz hc => subst hs; exact .agg cs vs hz fun i y hi => (hc i y hi).lift0 hF
  | tup xs vs hz _ ih => exact .tup xs vs hz ih

theorem outCells_spec : ∀ (l l' : List Cell), outCells st n l = some l' → l'.length = l.length ∧ ∀ (i : Nat) (y : Cell), l'[i]? = some y → ∃ x, l[i]? = some x ∧ outCell st n x = some y
  | [], l', h => by simp only [outCells, Option.some.injEq] at h; subst h; exact ⟨rfl, fun i y h => by simp at h⟩
  | x :: l, l', h => by
    simp only [outCells] at h
    split at h
    · rename_i y m hy hm
      simp only [Option.some.injEq] at h; subst h
      obtain ⟨h1, h2⟩ := outCells_spec l m hm
      refine ⟨by simp [h1], fun i z hi => ?_⟩
      cases i with
      | zero => simp at hi; subst hi; exact ⟨x, by simp, hy⟩
      | succ i => simpa using h2 i z (by simpa using hi)
    · simp at h
theorem outAll_spec : ∀ (l l' : List AV), outAV.outAll st n l = some l' → l'.length = l.length ∧ ∀ (i : Nat) (y : AV), l'[i]? = some y → ∃ x, l[i]? = some x ∧ outAV st n x = some y
  | [], l', h => by simp only [outAV.outAll, Option.some.injEq] at h; subst h; exact ⟨rfl, fun i y h => by simp at h⟩
  | x :: l, l', h => by
    simp only [outAV.outAll] at h
    split at h
    · rename_i y m hy hm
      simp only [Option.some.injEq] at h; subst h
      obtain ⟨h1, h2⟩ := outAll_spec l m hm
      refine ⟨by simp [h1], fun i z hi => ?_⟩
      cases i with
      | zero => simp at hi; subst hi; exact ⟨x, by simp, hy⟩
      | succ i => simpa using h2 i z (by simpa using hi)
    · simp at h

def okOf (n : Nat) : Nat → Bool := fun r => n ≤ r

theorem outCell_sound (h : WS c E st w) (hn : n ≤ st.length) {x y : Cell} {v : Value} (ho : outCell st n x = some y) (hx : CC E st x v) : CC (E.frz st w (okOf n)) ((kill (okOf n) st).take n) y v := by
  unfold outCell at ho
  split at ho
  · rename_i hc
    simp only [Option.some.injEq] at ho; subst ho
    exact (hx.ext (Step.freeze h (okOf n)).ext).take (by rw [kill_length]; exact hn) hc.2
  · obtain ⟨h1, h2⟩ := freezeCell_sound h 6 x y v ho hx
    exact .of_noTok h1 h2

theorem outAV_sound (h : WS c E st w) (hn : n ≤ st.length) {x : AV} {v : Value} (hx : AVC E st x v) : ∀ y, outAV st n x = some y → AVC (E.frz st w (okOf n)) ((kill (okOf n) st).take n) y v := by
  induction hx with
  | any v => intro y ho; simp [outAV] at ho
  | one x v hx =>
    intro y ho
    simp only [outAV] at ho
    obtain ⟨z, hz, rfl⟩ := Option.map_eq_some_iff.1 ho
    exact .one _ _ (outCell_sound h hn hz hx)
  | agg cs vs hs hc =>
    intro y ho
    simp only [outAV] at ho
    obtain ⟨l, hl, rfl⟩ := Option.map_eq_some_iff.1 ho
    obtain ⟨l1, l2⟩ := outCells_spec _ _ hl
    refine .agg _ _ (by rw [l1]; exact hs) fun i z hi => ?_
    obtain ⟨x, hx1, hx2⟩ := l2 i z hi
    exact outCell_sound h hn hx2 (hc i x hx1)
  | tup xs vs hs _ ih =>
    intro y ho
    simp only [outAV] at ho
    obtain ⟨l, hl, rfl⟩ := Option.map_eq_some_iff.1 ho
    obtain ⟨l1, l2⟩ := outAll_spec _ _ hl
    refine .tup _ _ (by rw [l1]; exact hs) fun i z hi => ?_
    obtain ⟨x, hx1, hx2⟩ := l2 i z hi
    exact ih i x hx1 z hx2

end Go.AI
