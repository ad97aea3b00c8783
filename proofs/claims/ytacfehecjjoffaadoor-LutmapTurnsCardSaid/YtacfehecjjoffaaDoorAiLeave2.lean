/- A call that stands alone: what it hands on. -/
import Derived.Test.YtacfehecjjoffaaDoorAiLeave
set_option linter.unusedVariables false
set_option linter.unusedSimpArgs false
namespace Go.AI
open Go

variable {c : Cfg} {E E1 E' : Env} {st st1 : St} {w w1 : World}

def Env.adopt (E : Env) (n : Nat) (F : Fz) (b sz : Nat) (tl : Option Addr × Nat) : Env :=
  { F := F, loc := fun r => if r = n then b else E.loc r, sz := fun r => if r = n then sz else E.sz r, tl := fun r => if r = n then tl else E.tl r }

theorem adopt_old (E : Env) {n r : Nat} (F : Fz) (b sz : Nat) (tl : Option Addr × Nat) (h : r < n) : (E.adopt n F b sz tl).loc r = E.loc r ∧ (E.adopt n F b sz tl).sz r = E.sz r ∧ (E.adopt n F b sz tl).tl r = E.tl r := by
  simp only [Env.adopt]; rw [if_neg (by omega), if_neg (by omega), if_neg (by omega)]; exact ⟨rfl, rfl, rfl⟩

theorem WS.nil (h : WS c E st w) : WS c E [] w where
  hF := h.hF
  row := fun r t g cells hr => by simp at hr
  tail := fun r n e hr => by simp at hr
  map := fun r kt et es hr => by simp at hr
  inj := fun r r' b hb => by simp [blk] at hb
  glob := h.glob

theorem not_live_nil (b : Nat) : ¬ live E [] b := by rintro ⟨r, hr⟩; simp [blk] at hr

theorem append_get {xs : List Res} {r : Nat} {x : Res} (hxs : xs.length ≤ 1) (hr : st.length ≤ r) (h : (st ++ xs)[r]? = some x) : r = st.length ∧ xs = [x] := by
  rw [List.getElem?_append_right hr] at h
  have := (List.getElem?_eq_some_iff.1 h).1
  have h0 : r - st.length = 0 := by omega
  rw [h0] at h
  match xs, h, hxs with
  | [y], h, _ => simp at h; subst h; exact ⟨by omega, rfl⟩

theorem adopt (h : WS c E st w) (hS : Step c E [] w E1 st1 w1) (F' : Fz) (hF1 : E1.F.le F') (hF2 : ∀ b o, b < w.heap.size → F' b o = E1.F b o) (hF3 : ∀ b o v, F' b o = some v → w1.cell? ⟨b, o, none⟩ = some v)
    (xs : List Res) (hxs : xs.length ≤ 1) (b sz : Nat) (tl : Option Addr × Nat) (hbk : ∀ b', blk (E.adopt st.length F' b sz tl) (st ++ xs) st.length = some b' → w.heap.size ≤ b')
    (row : ∀ t g cells, xs = [.row t g cells] → ∃ cs, w1.heap[b]? = some (.cells cs t (0, 0)) ∧ cs.size = sz ∧ cells.length ≤ cs.size ∧ (∀ (i : Nat) (x : Cell), cells[i]? = some x → CP F' x (cs.getD i undef) ∧ x.noTok = true) ∧ (∀ o, F' b o = none))
    (tail : ∀ n e, xs = [.tail n e] → n ≤ tl.2 ∧ (n < tl.2 → ∃ b cs t, tl.1 = some ⟨b, 0, none⟩ ∧ w1.heap[b]? = some (.cells cs t (0, 0)) ∧ tl.2 * e ≤ cs.size ∧ (∀ o, n * e ≤ o → F' b o = none)))
    (map : ∀ kt et es, xs ≠ [.map kt et es]) : Step c E st w (E.adopt st.length F' b sz tl) (st ++ xs) w1 := by
  have hold : ∀ r, r < st.length → (E.adopt st.length F' b sz tl).loc r = E.loc r ∧ (E.adopt st.length F' b sz tl).sz r = E.sz r ∧ (E.adopt st.length F' b sz tl).tl r = E.tl r := fun r hr => adopt_old E F' b sz tl hr
  have hFE : ∀ b o, b < w.heap.size → F' b o = E.F b o := fun b o hb => by rw [hF2 b o hb, hS.ext.Fnew b o hb (not_live_nil b)]
  have hblk : ∀ r b', st.length ≤ r → blk (E.adopt st.length F' b sz tl) (st ++ xs) r = some b' → r = st.length ∧ w.heap.size ≤ b' := fun r b' hr hb => by
    have : ∃ x, (st ++ xs)[r]? = some x := by
      cases hx : (st ++ xs)[r]? with
      | none => simp [blk, hx] at hb
      | some x => exact ⟨x, rfl⟩
    obtain ⟨x, hx⟩ := this
    obtain ⟨rfl, _⟩ := append_get hxs hr hx
    exact ⟨rfl, hbk b' hb⟩
  have he : Ext w.heap.size (live E st) E st (E.adopt st.length F' b sz tl) (st ++ xs) :=
    Ext.push _ (Fz.le_trans hS.ext.F hF1) (fun b o hb _ => hFE b o hb) hold (fun r b' hr hb => .inl (hblk r b' hr hb).2)
  refine ⟨h.pushed he hold (fun b hb => hS.kept.block b hb (not_live_nil b)) hF3 (fun r t g cells hr o => ?_) (fun r n e b' hr hn hb o ho => ?_) (fun r t g cells hr hx => ?_) (fun r n e hr hx => ?_) (fun r kt et es hr hx => ?_) (fun r r' b' hr h1 h2 => ?_), he,
    ⟨hS.kept.os, hS.kept.tape, hS.kept.output, hS.kept.size, fun b hb _ => hS.kept.block b hb (not_live_nil b)⟩⟩
  · show F' (E.loc r) o = none
    rw [hFE _ o (h.row_lt hr)]
    obtain ⟨_, _, _, _, _, h5⟩ := h.row r t g cells hr
    exact h5 o
  · obtain ⟨b2, cs, t, a1, a2, a3, a4⟩ := (h.tail r n e hr).2 hn
    rw [hb] at a1; simp at a1; subst a1
    show F' b' o = none
    rw [hFE _ o (Array.getElem?_eq_some_iff.1 a2).1]
    exact a4 o ho
  · obtain ⟨rfl, hx1⟩ := append_get hxs hr hx
    obtain ⟨cs, a1, a2, a3, a4, a5⟩ := row t g cells hx1
    simp only [Env.adopt, if_true]
    exact ⟨cs, a1, a2, a3, fun i x hi => .of_noTok (a4 i x hi).1 (a4 i x hi).2, a5⟩
  · obtain ⟨rfl, hx1⟩ := append_get hxs hr hx
    simp only [Env.adopt, if_true]
    exact tail n e hx1
  · obtain ⟨rfl, hx1⟩ := append_get hxs hr hx
    exact absurd hx1 (map kt et es)
  · obtain ⟨rfl, hge⟩ := hblk r b' hr h1
    rcases Nat.lt_or_ge r' st.length with hlt | hge'
    · exfalso
      rw [blk_push hlt (hold r' hlt).1 (hold r' hlt).2.2] at h2
      have := h.blk_lt h2
      omega
    · exact (hblk r' b' hge' h2).1.symm

theorem handOn_plain (h : WS c E st w) (hS : Step c E [] w E1 st1 w1) {v v' : AV} {x : Value} {st' : St} (hx : AVC E1 st1 v x) (ho : handOn .plain v st1 st = some (v', st')) : st' = st ∧ ∃ E', AVC E' st v' x ∧ Step c E st w E' st w1 := by
  simp only [handOn] at ho
  obtain ⟨y, hy, ho⟩ := Option.map_eq_some_iff.1 ho
  simp only [Prod.mk.injEq] at ho
  obtain ⟨rfl, rfl⟩ := ho
  have hz := Step.freeze hS.ws (okOf 0)
  have hS2 := hS.trans hz
  have hv := outAV_sound hS.ws (Nat.zero_le _) hx y hy
  rw [List.take_zero] at hv
  have hA := adopt h hS2 (E1.frz st1 w1 (okOf 0)).F (Fz.le_refl _) (fun _ _ _ => rfl) hS2.ws.hF [] (by simp) 0 0 (none, 0) (fun b' hb => by simp [blk] at hb) (fun t g cells hx => by simp at hx) (fun n e hx => by simp at hx) (fun kt et es hx => by simp at hx)
  refine ⟨rfl, _, hv.lift0 ?_, by simpa using hA⟩
  exact Fz.le_refl _

theorem nil_cp (F : Fz) (tok : Tok) (s : Nat) (A : Option Addr) (cap : Nat) : CP F (.slice tok s []) (.slice A 0 cap) :=
  .slice tok s [] A 0 0 cap (fun _ _ => undef) (fun h => absurd rfl h) (Nat.zero_le _) (fun i row h => by simp at h) (fun i j row c h => by simp at h) (fun i j row c h => by simp at h) (fun i j row c h => by simp at h)

theorem handOn_sound (h : WS c E st w) (hS : Step c E [] w E1 st1 w1) {kd : Kind} {v v' : AV} {x : Value} {st' : St} (hx : AVC E1 st1 v x) (ho : handOn kd v st1 st = some (v', st')) : ∃ E', AVC E' st' v' x ∧ Step c E st w E' st' w1 := by
  cases kd with
  | plain =>
    obtain ⟨rfl, E', h1, h2⟩ := handOn_plain h hS hx ho
    exact ⟨E', h1, h2⟩
  | own =>
    simp only [handOn] at ho
    split at ho
    · rename_i r g s len
      obtain ⟨A, cap, rfl, hr, hcap, hA, h1, h2⟩ := hx.own_inv
      split at ho
      · rename_i t g' cells hst
        split at ho
        · rename_i hg
          subst hg
          obtain ⟨cells', hcs, ho⟩ := Option.map_eq_some_iff.1 ho
          simp only [Prod.mk.injEq] at ho
          obtain ⟨rfl, rfl⟩ := ho
          obtain ⟨h3, h4⟩ := (h1 t g cells hst).2 rfl
          have h3 := h3 (.inr rfl)
          have h4 := h4 rfl
          subst h3
          rw [Nat.zero_add] at h4
          have hz := Step.freeze hS.ws (fun q => q != r)
          have hS2 := hS.trans hz
          obtain ⟨l1, l2⟩ := freezeCells_spec _ _ hcs
          obtain ⟨cs, a1, a2, a3, a4, a5⟩ := hS.ws.row r t g cells hst
          have hst2 : (kill (fun q => q != r) st1)[r]? = some (.row t g cells) := by rw [kill_get, hst]; simp [killed]
          obtain ⟨_, _, _, _, _, c5⟩ := hS2.ws.row r t g cells hst2
          have hbig : w.heap.size ≤ E1.loc r := by
            rcases hS.ext.blocks r (E1.loc r) (blk_row hst) with h | h
            · exact h
            · exact absurd h (not_live_nil _)
          have hA := adopt h hS2 (E1.frz st1 w1 (fun q => q != r)).F (Fz.le_refl _) (fun _ _ _ => rfl) hS2.ws.hF [.row t 0 cells'] (by simp) (E1.loc r) (E1.sz r) (none, 0)
            (fun b' hb => by simp [blk, Env.adopt] at hb; omega)
            (fun t2 g2 cells2 he => by
              simp only [List.cons.injEq, Res.row.injEq, and_true] at he
              obtain ⟨rfl, rfl, rfl⟩ := he
              refine ⟨cs, a1, a2, by omega, fun i y hi => ?_, c5⟩
              obtain ⟨z, hz1, hz2⟩ := l2 i y hi
              exact freezeCell_sound hS.ws 6 z y _ hz2 (a4 i z hz1))
            (fun n e he => by simp at he) (fun kt et es he => by simp at he)
          refine ⟨_, ?_, hA⟩
          have := own_av (E' := E.adopt st.length (E1.frz st1 w1 (fun q => q != r)).F (E1.loc r) (E1.sz r) (none, 0)) (st2 := st ++ [.row t 0 cells']) (r := st.length) (g := 0) (t := t) (cells := cells') (s := s) (len := len) (cap := cap) (by simp) hcap (by simp only [Env.adopt, if_true]; exact h4)
          simpa [Env.adopt] using this
        · simp at ho
      · rename_i t g' hst
        split at ho
        · rename_i hg
          obtain ⟨rfl, rfl⟩ := hg
          simp only [Option.some.injEq, Prod.mk.injEq] at ho
          obtain ⟨rfl, rfl⟩ := ho
          obtain ⟨_, _, rfl, rfl⟩ := h2 t g hst
          have hA := adopt h hS E1.F (Fz.le_refl _) (fun _ _ _ => rfl) hS.ws.hF [.nrow t 0] (by simp) 0 0 (none, 0) (fun b' hb => by simp [blk] at hb) (fun t2 g2 cells2 he => by simp at he) (fun n e he => by simp at he) (fun kt et es he => by simp at he)
          refine ⟨_, .one _ _ (.own _ _ _ _ _ _ _ _ (by simp) (Nat.le_refl _) (fun h => absurd rfl h) (fun t' g' cells hst => ?_) (fun t' g' hst => ?_)), hA⟩
          · rw [get_push_row (Nat.le_refl _)] at hst
            simp at hst
          · exact ⟨Nat.zero_le _, rfl, rfl, rfl⟩
        · simp at ho
      · simp at ho
    · rename_i e rows
      simp only [Option.some.injEq, Prod.mk.injEq] at ho
      obtain ⟨rfl, rfl⟩ := ho
      obtain ⟨_, E', h1, h2⟩ := handOn_plain (v' := .one (.slice .no e rows)) (st' := st) h hS hx rfl
      obtain ⟨A, cap, rfl, hcap, hcp, htok⟩ := hx.slice_inv
      obtain ⟨A', cap', he, _, hcp', _⟩ := h1.slice_inv
      simp only [Value.slice.injEq] at he
      obtain ⟨rfl, _, rfl⟩ := he
      exact ⟨E', .one _ _ (.pure _ _ hcp'.tok fun tok e' rows' hc => by
        simp only [Cell.slice.injEq] at hc
        obtain ⟨rfl, _, rfl⟩ := hc
        exact htok), h2⟩
    · rename_i tok e rows _
      simp only [Option.some.injEq, Prod.mk.injEq] at ho
      obtain ⟨rfl, rfl⟩ := ho
      obtain ⟨_, E', h1, h2⟩ := handOn_plain (v' := .one (.slice .no e rows)) (st' := st) h hS hx (by cases tok <;> rfl)
      exact ⟨E', h1, h2⟩
    · simp at ho
  | tok =>
    simp only [handOn] at ho
    split at ho
    · rename_i r e rows
      obtain ⟨A, cap, rfl, hcap, hcp, htok⟩ := hx.slice_inv
      obtain ⟨hr, htok⟩ := htok
      split at ho
      · rename_i n e' hst
        split at ho
        · rename_i hc
          obtain ⟨rfl, rfl⟩ := hc
          simp only [Option.some.injEq, Prod.mk.injEq] at ho
          obtain ⟨rfl, rfl⟩ := ho
          have htl := (htok _ _ hst).2 rfl A _ cap rfl
          obtain ⟨t1, t2⟩ := hS.ws.tail r _ _ hst
          have hA := adopt h hS E1.F (Fz.le_refl _) (fun _ _ _ => rfl) hS.ws.hF [.tail rows.length e] (by simp) 0 0 (E1.tl r)
            (fun b' hb => by
              simp only [blk, List.getElem?_append_right (Nat.le_refl _), Nat.sub_self, List.getElem?_cons_zero, Env.adopt, if_true] at hb
              rcases hS.ext.blocks r b' (by simp only [blk, hst]; exact hb) with h | h
              · exact h
              · exact absurd h (not_live_nil _))
            (fun t2 g2 cells2 he => by simp at he) (fun n e' he => by
              simp only [List.cons.injEq, Res.tail.injEq, and_true] at he
              obtain ⟨rfl, rfl⟩ := he
              exact ⟨t1, t2⟩) (fun kt et es he => by simp at he)
          refine ⟨_, ?_, hA⟩
          exact tail_av (n := rows.length) (by rw [get_push_row (Nat.le_refl _), if_pos rfl]) rfl (by simp only [Env.adopt, if_true]; exact htl.symm) hcp.tok
        · simp at ho
      · simp at ho
    · rename_i r g s len
      obtain ⟨A, cap, rfl, hr, hcap, hA, h1, h2⟩ := hx.own_inv
      split at ho
      · rename_i t g' cells hst
        split at ho
        · rename_i hg
          obtain ⟨rfl, hle⟩ := hg
          obtain ⟨cells', hcs, ho⟩ := Option.map_eq_some_iff.1 ho
          simp only [Prod.mk.injEq] at ho
          obtain ⟨rfl, rfl⟩ := ho
          obtain ⟨h3, h4⟩ := (h1 t g cells hst).2 rfl
          have h3 := h3 (.inr rfl)
          have h4 := h4 rfl
          subst h3
          rw [Nat.zero_add] at h4
          have hz := Step.freeze hS.ws (fun q => q != r)
          have hS2 := hS.trans hz
          obtain ⟨l1, l2⟩ := freezeCells_spec _ _ hcs
          obtain ⟨cs, a1, a2, a3, a4, a5⟩ := hS.ws.row r t g cells hst
          have hst2 : (kill (fun q => q != r) st1)[r]? = some (.row t g cells) := by rw [kill_get, hst]; simp [killed]
          obtain ⟨_, _, _, _, _, c5⟩ := hS2.ws.row r t g cells hst2
          have hbig : w.heap.size ≤ E1.loc r := by
            rcases hS.ext.blocks r (E1.loc r) (blk_row hst) with h | h
            · exact h
            · exact absurd h (not_live_nil _)
          have hl' : cells'.length = len * s := by rw [l1]; simp; omega
          have hlc : len * s ≤ cap * s := Nat.mul_le_mul_right _ hcap
          let F' : Fz := fun b o => if b = E1.loc r then (if o < len * s then w1.cell? ⟨b, o, none⟩ else none) else (E1.frz st1 w1 (fun q => q != r)).F b o
          have hF1 : (E1.frz st1 w1 (fun q => q != r)).F.le F' := fun b o v hv => by
            show (if b = E1.loc r then _ else _) = _
            rw [if_neg]
            · exact hv
            · intro he
              subst he
              have := c5 o
              have e : (E1.frz st1 w1 (fun q => q != r)).loc r = E1.loc r := rfl
              rw [e] at this
              rw [this] at hv; simp at hv
          have hA := adopt h hS2 F' hF1 (fun b o hb => by
              show (if b = E1.loc r then _ else _) = _
              rw [if_neg (by omega)]) (fun b o v hv => by
              have hv : (if b = E1.loc r then (if o < len * s then w1.cell? ⟨b, o, none⟩ else none) else (E1.frz st1 w1 (fun q => q != r)).F b o) = some v := hv
              split at hv
              · split at hv
                · exact hv
                · simp at hv
              · exact hS2.ws.hF b o v hv) [.tail len s] (by simp) 0 0 (some ⟨E1.loc r, 0, none⟩, cap)
            (fun b' hb => by
              simp only [blk, List.getElem?_append_right (Nat.le_refl _), Nat.sub_self, List.getElem?_cons_zero, Env.adopt, if_true] at hb
              split at hb
              · simp at hb; omega
              · simp at hb)
            (fun t2 g2 cells2 he => by simp at he) (fun n e' he => by
              simp only [List.cons.injEq, Res.tail.injEq, and_true] at he
              obtain ⟨rfl, rfl⟩ := he
              refine ⟨hcap, fun _ => ⟨E1.loc r, cs, t, rfl, a1, by simp only; omega, fun o ho => ?_⟩⟩
              show (if E1.loc r = E1.loc r then _ else _) = _
              rw [if_pos rfl, if_neg (by omega)]) (fun kt et es he => by simp at he)
          refine ⟨_, ?_, hA⟩
          have hcp : CP F' (.slice (.tail st.length) s (chunk s len cells')) (.slice (some ⟨E1.loc r, 0, none⟩) len cap) := by
            refine slice_cp _ (fun i => cs.getD i undef) hl' (fun i z hz => ?_) (fun i z hz => ?_) hcap
            · have hlt : i < len * s := by have := (List.getElem?_eq_some_iff.1 hz).1; omega
              have hlt2 : i < cs.size := by omega
              show (if E1.loc r = E1.loc r then _ else _) = _
              rw [if_pos rfl, Nat.zero_add, if_pos hlt]
              simp [World.cell?, a1, hlt2]
            · obtain ⟨y, hy1, hy2⟩ := l2 i z hz
              have hy3 : cells[i]? = some y := by
                rw [List.getElem?_take] at hy1
                split at hy1
                · exact hy1
                · simp at hy1
              obtain ⟨q1, q2⟩ := freezeCell_sound hS.ws 6 y z _ hy2 (a4 i y hy3)
              exact ⟨q1.mono hF1, q2⟩
          have := tail_av (E' := E.adopt st.length F' 0 0 (some ⟨E1.loc r, 0, none⟩, cap)) (st2 := st ++ [.tail len s]) (r := st.length) (n := len) (s := s) (rows := chunk s len cells') (A := some ⟨E1.loc r, 0, none⟩) (cap := cap)
            (by rw [get_push_row (Nat.le_refl _), if_pos rfl]) (chunk_length s len cells').symm (by simp only [Env.adopt, if_true]) (by rw [chunk_length]; exact hcp)
          rw [chunk_length] at this
          exact this
        · simp at ho
      · rename_i t g' hst
        split at ho
        · rename_i hg
          obtain ⟨rfl, rfl⟩ := hg
          simp only [Option.some.injEq, Prod.mk.injEq] at ho
          obtain ⟨rfl, rfl⟩ := ho
          obtain ⟨_, _, rfl, rfl⟩ := h2 t g hst
          have hA := adopt h hS E1.F (Fz.le_refl _) (fun _ _ _ => rfl) hS.ws.hF [.tail 0 s] (by simp) 0 0 (none, 0) (fun b' hb => by simp [blk, Env.adopt] at hb) (fun t2 g2 cells2 he => by simp at he) (fun n e he => by
              simp only [List.cons.injEq, Res.tail.injEq, and_true] at he
              obtain ⟨rfl, rfl⟩ := he
              exact ⟨Nat.le_refl _, fun h => by simp at h⟩) (fun kt et es he => by simp at he)
          refine ⟨_, ?_, hA⟩
          exact tail_av (n := 0) (rows := []) (cap := 0) (by rw [get_push_row (Nat.le_refl _), if_pos rfl]) rfl (by simp only [Env.adopt, if_true]) (nil_cp _ _ _ _ _)
        · simp at ho
      · simp at ho
    · simp at ho

end Go.AI
