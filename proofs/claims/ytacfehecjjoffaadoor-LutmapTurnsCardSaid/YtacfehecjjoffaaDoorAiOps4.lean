/- make, slicing, len, cap, min, max, copy, clear, new variables. -/
import Derived.Test.YtacfehecjjoffaaDoorAiOps3
set_option linter.unusedVariables false
set_option linter.unusedSimpArgs false
namespace Go.AI
open Go

variable {P : Program} {c : Cfg} {E : Env} {st : St} {w : World} {wb : Nat} {callf : FuncId → List AV → St → Option (AV × St)} {av : AV} {st' : St}

theorem chunk_zeros {s : Nat} {z : List Cell} (hz : z.length = s) : ∀ n, chunk s n (zeros z n) = List.replicate n z
  | 0 => rfl
  | n + 1 => by
    simp only [chunk, zeros, List.replicate_succ]
    rw [show (z ++ zeros z n).take s = z by rw [← hz]; simp, show (z ++ zeros z n).drop s = zeros z n by rw [← hz]; simp, chunk_zeros hz n]

theorem made_get {z : Value} {m s k : Nat} (hs : z.cells.size = s) (hk : k < m * s) : (madeCells z.cells (m * s)).getD k undef = z.cells.getD (k % s) undef ∧ k % s < s := by
  have hpos : 0 < s := by
    rcases Nat.eq_zero_or_pos s with h | h
    · subst h; simp at hk
    · exact h
  have hlt := Nat.mod_lt k hpos
  refine ⟨?_, hlt⟩
  rw [Array.getD_eq_getD_getElem?, madeCells, Array.getElem?_map, Array.getElem?_range]
  simp only [hk, if_true, Option.map_some, Option.getD_some, hs]
  rw [getElem!_def, Array.getD_eq_getD_getElem?, Array.getElem?_eq_getElem (by omega)]
  simp

/-- Ways to say what a new row holds. -/
theorem newRow_cc (hW : WS c E st w) {e : TypeId} {cells : List Cell} {cs : Array Value} {A : Option Addr} {len cap esz : Nat} (hl : cells.length ≤ cs.size) (hc : ∀ (i : Nat) (x : Cell), cells[i]? = some x → CC E st x (cs.getD i undef))
    (hcap : len ≤ cap) (hsz : cap * esz ≤ cs.size) : ∃ E', AVC E' (st ++ [.row e 0 cells]) (.one (.own st.length 0 esz true 0 len)) (.slice (some ⟨w.heap.size, 0, none⟩) len cap) ∧ Step c E st w E' (st ++ [.row e 0 cells]) (w.alloc (.cells cs e)) := by
  have hx : nilTails [] := fun x hx => by simp at hx
  have hS := Step.pushRow hW e cells cs [] (fun _ => none) hx hl (fun k x hkx => (hc k x hkx).ext (Ext.pushRow w.heap.size (fun n e he => by simp at he) hx _ _ _ (Nat.le_refl _)))
  refine ⟨_, .one _ _ (.own _ _ _ _ _ _ _ _ (by simp) hcap (fun _ => by simp) (fun t' g' cells' hst => ?_) (fun t' g' hst => ?_)), hS⟩
  · rw [get_push_row (Nat.le_refl _)] at hst
    simp only [if_true, Option.some.injEq, Res.row.injEq] at hst
    obtain ⟨_, rfl, _⟩ := hst
    refine ⟨Nat.le_refl _, fun _ => ⟨fun _ => by simp [Env.pushRow], fun _ => ?_⟩⟩
    simp only [Env.pushRow, if_true]; omega
  · rw [get_push_row (Nat.le_refl _)] at hst
    simp at hst

theorem makeSlice_sound {kd : Kind} {t : TypeId} {l m : AV} {lv mv : Value} (hty : ∀ t i, c.ty t = some i → TyOK P t i) (hW : WS c E st w) (hl : AVC E st l lv) (hm : AVC E st m mv) (h : (makeSlicePlan c kd t l m).exec wb callf st = some (av, st')) :
    ∃ x w' E', (Instr.makeSlice t lv mv).run P w = .ok x w' ∧ AVC E' st' av x ∧ Step c E st w E' st' w' := by
  unfold makeSlicePlan at h
  split at h
  · rename_i e _ _ _ _ n m hc
    have := hl.int_inv; subst this
    have := hm.int_inv; subst this
    obtain ⟨d, hd, hk⟩ := (hty _ _ hc).desc
    simp only [descOK] at hk; subst hk
    split at h
    · rename_i i hce
      have ht := hty e i hce
      obtain ⟨info, z, h1, h2, h3, h4, h5, h6, h7, _⟩ := ht.info
      split at h
      · rename_i hb
        obtain ⟨b0, b1, b2, b3⟩ := hb
        have hrun := run_make (P := P) w t e info z hd h1 h4 .i64 .i64 n m b0 b1 (by rw [h3, Int.mul_comm]; omega) (by omega)
        rw [h2] at hrun
        have hzc : ∀ (j : Nat) (x : Cell), i.zero[j]? = some x → CC E st x (z.cells.getD j undef) := fun j x hx => zeroMatch_cc (h7 j x hx)
        have hnm : n.toNat ≤ m.toNat := by omega
        have hmul : n.toNat * i.size ≤ m.toNat * i.size := Nat.mul_le_mul_right _ hnm
        have hcs : (madeCells z.cells (m.toNat * i.size)).size = m.toNat * i.size := size_madeCells _ _
        have own : ∀ (hk : Plan.exec wb callf st (.new (fun _ => [.row e 0 (zeros i.zero n.toNat)]) fun r => .one (.own r 0 i.size true 0 n.toNat)) = some (av, st')),
            ∃ x w' E', (Instr.makeSlice t (.int .i64 n) (.int .i64 m)).run P w = .ok x w' ∧ AVC E' st' av x ∧ Step c E st w E' st' w' := by
          intro hk
          obtain ⟨rfl, rfl⟩ := exec_new hk
          obtain ⟨E', q1, q2⟩ := newRow_cc hW (e := e) (A := none) (cells := zeros i.zero n.toNat) (cs := madeCells z.cells (m.toNat * i.size)) (len := n.toNat) (cap := m.toNat) (esz := i.size) (by rw [zeros_length, h6, hcs]; exact hmul) (fun k x hk => by
            have hlt : k < n.toNat * i.size := by have := (List.getElem?_eq_some_iff.1 hk).1; rwa [zeros_length, h6] at this
            have g1 := zeros_get i.zero _ k x hk
            rw [h6] at g1
            obtain ⟨g2, g3⟩ := made_get (z := z) (m := m.toNat) (s := i.size) (k := k) (by omega) (by omega)
            rw [g2]; exact hzc _ x g1) hnm (by rw [hcs]; exact Nat.le_refl _)
          exact ⟨_, _, E', hrun, q1, q2⟩
        cases kd with
        | own => exact own h
        | plain => exact own h
        | tok =>
          simp only at h
          split at h
          · rename_i z' hpz
            obtain ⟨rfl, rfl⟩ := exec_new h
            obtain ⟨p1, p2⟩ := purify_sound (vs := fun k => z.cells.getD k undef) hpz hzc
            have hS := Step.pushTail hW e n.toNat i.size m.toNat (madeCells z.cells (m.toNat * i.size)) hnm (by rw [hcs]; exact Nat.le_refl _)
            refine ⟨_, _, _, hrun, .one _ _ (.pure _ _ ?_ ?_), hS⟩
            · rw [← chunk_zeros (s := i.size) (z := z') (by omega)]
              refine slice_cp _ (fun k => (madeCells z.cells (m.toNat * i.size)).getD k undef) (by rw [zeros_length, p1, h6]) (fun k x hk => ?_) (fun k x hk => ?_) hnm
              · have hlt : k < n.toNat * i.size := by have := (List.getElem?_eq_some_iff.1 hk).1; rw [zeros_length, p1, h6] at this; exact this
                have hlt2 : k < (madeCells z.cells (m.toNat * i.size)).size := by omega
                simp only [Env.pushTail, if_true, Nat.zero_add]
                rw [if_pos hlt]
                simp [hlt2, Array.getD_eq_getD_getElem?]
              · have hlt : k < n.toNat * i.size := by have := (List.getElem?_eq_some_iff.1 hk).1; rw [zeros_length, p1, h6] at this; exact this
                have g1 := zeros_get z' _ k x hk
                rw [p1, h6] at g1
                obtain ⟨g2, g3⟩ := made_get (z := z) (m := m.toNat) (s := i.size) (k := k) (by omega) (by omega)
                rw [g2]
                exact ⟨(p2 _ x g1).1.mono hS.ext.F, (p2 _ x g1).2⟩
            · intro tok e' rows he
              simp only [Cell.slice.injEq] at he
              obtain ⟨rfl, rfl, rfl⟩ := he
              refine ⟨by simp, fun n' e' hst => ?_⟩
              rw [get_push_row (Nat.le_refl _)] at hst
              simp only [if_true, Option.some.injEq, Res.tail.injEq] at hst
              obtain ⟨rfl, rfl⟩ := hst
              refine ⟨by simp, fun _ A k cap hv => ?_⟩
              simp only [Value.slice.injEq] at hv
              obtain ⟨rfl, _, rfl⟩ := hv
              simp [Env.pushTail]
          · exact (exec_fail h).elim
      · exact (exec_fail h).elim
    · exact (exec_fail h).elim
  · exact (exec_fail h).elim

/-! slicing -/
def optC (E : Env) (st : St) (x : Option AV) (xv : Option Value) : Prop := match x, xv with | some a, some v => AVC E st a v | none, none => True | _, _ => False

theorem bound_inv {x : Option AV} {xv : Option Value} {top dflt k : Nat} (hx : optC E st x xv) (h : bound x top dflt = some k) : (x = none ∧ xv = none ∧ k = dflt) ∨ (∃ kk, x = some (.one (.int kk (k : Int))) ∧ xv = some (.int kk (k : Int)) ∧ k ≤ top) := by
  unfold bound at h
  split at h
  · simp only [Option.some.injEq] at h; subst h
    cases xv with
    | none => exact .inl ⟨rfl, rfl, rfl⟩
    | some v => simp [optC] at hx
  · rename_i kk i
    cases xv with
    | none => simp [optC] at hx
    | some v =>
      have := hx.int_inv; subst this
      split at h
      · rename_i hb
        simp only [Option.some.injEq] at h; subst h
        have hi : ((i.toNat : Nat) : Int) = i := by omega
        exact .inr ⟨kk, by rw [hi], by rw [hi], by omega⟩
      · simp at h
  · simp at h

theorem sliceBound_run (kk : IntKind) {k y : Nat} (h : k ≤ y) (code : BoundsCode) : (Instr.sliceBound (.int kk (k : Int)) y code).run P w = .ok k w := by
  simp only [Instr.sliceBound, asIntOf, pure_bind]
  rw [if_pos ⟨by omega, by omega⟩]
  simp

theorem sliceBounds_run {lo hi : Option AV} {lv hv : Option Value} {isS : Bool} {len cap h l : Nat} (hlo : optC E st lo lv) (hhi : optC E st hi hv) (hlc : len ≤ cap) (hb : bound hi len len = some h) (hl : bound lo h 0 = some l) :
    (Instr.sliceBounds isS len cap lv hv none).run P w = .ok (l, h, cap) w ∧ l ≤ h ∧ h ≤ len := by
  rcases bound_inv hhi hb with ⟨_, rfl, rfl⟩ | ⟨k1, _, rfl, h1⟩ <;> rcases bound_inv hlo hl with ⟨_, rfl, rfl⟩ | ⟨k2, _, rfl, h2⟩
  · exact ⟨by simp [Instr.sliceBounds], by omega, by omega⟩
  · exact ⟨by simp [Instr.sliceBounds, sliceBound_run k2 h2], by omega, by omega⟩
  · exact ⟨by simp [Instr.sliceBounds, sliceBound_run k1 (Nat.le_trans h1 hlc)], by omega, by omega⟩
  · exact ⟨by simp [Instr.sliceBounds, sliceBound_run k1 (Nat.le_trans h1 hlc), sliceBound_run k2 h2], by omega, by omega⟩

theorem sliceBounds_run3 {lo : Option AV} {lv : Option Value} {len cap h l : Nat} (k1 k3 : IntKind) (hlo : optC E st lo lv) (hlc : h ≤ cap) (hl : bound lo h 0 = some l) :
    (Instr.sliceBounds true len cap lv (some (.int k1 (h : Int))) (some (.int k3 (h : Int)))).run P w = .ok (l, h, h) w ∧ l ≤ h := by
  rcases bound_inv hlo hl with ⟨_, rfl, rfl⟩ | ⟨k2, _, rfl, h2⟩
  · exact ⟨by simp [Instr.sliceBounds, sliceBound_run k3 hlc, sliceBound_run k1 (Nat.le_refl h)], by omega⟩
  · exact ⟨by simp [Instr.sliceBounds, sliceBound_run k3 hlc, sliceBound_run k1 (Nat.le_refl h), sliceBound_run k2 h2], by omega⟩

theorem CP.sub {F : Fz} {tok : Tok} {esz : Nat} {rows : List (List Cell)} {A : Option Addr} {cap l h : Nat} (hc : CP F (.slice tok esz rows) (.slice A rows.length cap)) (hlh : l ≤ h) (hh : h ≤ rows.length) (m : Nat) (hm1 : h ≤ m) (tok' : Tok) :
    CP F (.slice tok' esz ((rows.take h).drop l)) (.slice (if m = l then A else A.map (·.add (l * esz))) (h - l) (m - l)) := by
  cases hc with
  | slice _ _ _ _ b off _ vs hA hcap hE hF hC hN =>
    have hlen : ((rows.take h).drop l).length = h - l := by simp; omega
    have hget : ∀ (i : Nat) (row : List Cell), ((rows.take h).drop l)[i]? = some row → rows[l + i]? = some row := fun i row hi => by
      rw [List.getElem?_drop, List.getElem?_take] at hi
      split at hi
      · exact hi
      · simp at hi
    have hgoal := CP.slice (F := F) tok' esz ((rows.take h).drop l) (if m = l then A else A.map (·.add (l * esz))) b (off + l * esz) (m - l) (fun i j => vs (l + i) j) (fun hne => ?_) (by omega)
      (fun i row hi => hE _ row (hget i row hi)) (fun i j row x hi hj => ?_) (fun i j row x hi hj => hC _ j row x (hget i row hi) hj) (fun i j row x hi hj => hN _ j row x (hget i row hi) hj)
    · rwa [hlen] at hgoal
    · have hpos : 0 < h - l := by rw [← hlen]; exact List.length_pos_iff.2 hne
      rw [if_neg (by omega), hA (fun e => by subst e; simp at hh; omega)]
      simp [add_addr]
    · have := hF (l + i) j row x (hget i row hi) hj
      rw [show off + l * esz + i * esz + j = off + (l + i) * esz + j by rw [Nat.add_mul]; omega]
      exact this

theorem addr_map_zero (A : Option Addr) : A.map (·.add 0) = A := by cases A <;> simp [Addr.add]

theorem slice_sound {t : TypeId} {x : AV} {lo hi mx : Option AV} {xv : Value} {lv hv mv : Option Value} (hty : ∀ t i, c.ty t = some i → TyOK P t i) (hW : WS c E st w) (hx : AVC E st x xv) (hlo : optC E st lo lv) (hhi : optC E st hi hv) (hmx : optC E st mx mv)
    (h : (slicePlan c t x lo hi mx).exec wb callf st = some (av, st')) : st' = st ∧ ∃ y, (Instr.sliceAt t xv lv hv mv).run P w = .ok y w ∧ AVC E st av y := by
  unfold slicePlan at h
  split at h
  · rename_i e _ _ _ _ tok esz rows hc
    obtain ⟨d, hd, hk⟩ := (hty _ _ hc).desc
    simp only [descOK] at hk; subst hk
    obtain ⟨A, cap, rfl, hcap, hcp, htok⟩ := hx.slice_inv
    split at h
    · rename_i s hs
      obtain ⟨_, _, _, hsz⟩ := size_inv hty hs
      split at h
      · rename_i hesz
        have hA0 : ∀ l, rows ≠ [] → A.map (·.add (l * s)) = A.map (·.add (l * esz)) := fun l hne => by
          rcases hesz with h1 | h1
          · rw [h1]
          · exact absurd h1 hne
        split at h
        · rename_i h1 hb
          split at h
          · rename_i l hl
            split at h
            · -- no third bound
              cases mv with
              | some v => simp [optC] at hmx
              | none =>
                obtain ⟨hrun, hlh, hh⟩ := sliceBounds_run (P := P) (w := w) (isS := true) hlo hhi hcap hb hl
                obtain ⟨rfl, rfl⟩ := exec_val h
                have hsub := hcp.sub hlh hh cap (by omega) (if tok = .exact ∧ h1 = rows.length then .exact else if hi.isNone && lo.isNone then tok else .no)
                have heq : (if cap = l then A else A.map (·.add (l * s))) = (if cap = l then A else A.map (·.add (l * esz))) ∨ rows = [] := by
                  by_cases hne : rows = []
                  · exact .inr hne
                  · left; rw [hA0 l hne]
                refine ⟨rfl, .slice (if cap = l then A else A.map (·.add (l * s))) (h1 - l) (cap - l), ?_, .one _ _ (.pure _ _ ?_ ?_)⟩
                · simp [Instr.sliceAt, run_underlying hd, Instr.slice, hrun, hsz]
                · rcases heq with heq | hne
                  · rw [heq]; exact hsub
                  · subst hne
                    simp only [List.take_nil, List.drop_nil] at hsub ⊢
                    simp at hh
                    subst hh
                    have : l = 0 := by omega
                    subst this
                    exact .slice _ _ [] _ 0 0 _ (fun _ _ => undef) (fun h => absurd rfl h) (by simp) (fun i row h => by simp at h) (fun i j row c h => by simp at h) (fun i j row c h => by simp at h) (fun i j row c h => by simp at h)
                · intro tok' e' rows' he
                  simp only [Cell.slice.injEq] at he
                  obtain ⟨rfl, rfl, rfl⟩ := he
                  split
                  · rename_i hex
                    obtain ⟨rfl, rfl⟩ := hex
                    intro A' n' cap' hv'
                    simp only [Value.slice.injEq] at hv'
                    have := htok A rows.length cap rfl
                    omega
                  · split
                    · rename_i hnn
                      simp only [Bool.and_eq_true, Option.isNone_iff_eq_none] at hnn
                      obtain ⟨rfl, rfl⟩ := hnn
                      simp only [bound, Option.some.injEq] at hb hl
                      subst hb; subst hl
                      have e1 : (rows.take rows.length).drop 0 = rows := by simp
                      have e2 : (if cap = 0 then A else A.map (·.add (0 * s))) = A := by rw [Nat.zero_mul, addr_map_zero]; simp
                      rw [e1, e2]
                      exact htok
                    · trivial
            · rename_i k3 m
              cases mv with
              | none => simp [optC] at hmx
              | some v =>
                have := hmx.int_inv; subst this
                split at h
                · rename_i hm
                  obtain ⟨hm1, hm2, hm3⟩ := hm
                  rcases bound_inv hhi hb with ⟨rfl, _, _⟩ | ⟨k1, rfl, rfl, hle⟩
                  · simp at hm3
                  · obtain ⟨rfl, rfl⟩ := exec_val h
                    subst hm1
                    obtain ⟨hrun, hlh⟩ := sliceBounds_run3 (P := P) (w := w) (len := rows.length) (cap := cap) k1 k3 hlo (by omega) hl
                    have hsub := hcp.sub hlh hm2 h1 (Nat.le_refl _) .exact
                    refine ⟨rfl, .slice (if h1 = l then A else A.map (·.add (l * s))) (h1 - l) (h1 - l), ?_, .one _ _ (.pure _ _ ?_ ?_)⟩
                    · simp [Instr.sliceAt, run_underlying hd, Instr.slice, hrun, hsz]
                    · by_cases hne : rows = []
                      · subst hne
                        simp only [List.take_nil, List.drop_nil] at hsub ⊢
                        simp at hm2
                        subst hm2
                        have : l = 0 := by omega
                        subst this
                        exact .slice _ _ [] _ 0 0 _ (fun _ _ => undef) (fun h => absurd rfl h) (by simp) (fun i row h => by simp at h) (fun i j row c h => by simp at h) (fun i j row c h => by simp at h) (fun i j row c h => by simp at h)
                      · rw [hA0 l hne]; exact hsub
                    · intro tok' e' rows' he
                      simp only [Cell.slice.injEq] at he
                      obtain ⟨rfl, rfl, rfl⟩ := he
                      intro A' n' cap' hv'
                      simp only [Value.slice.injEq] at hv'
                      omega
                · exact (exec_fail h).elim
            · exact (exec_fail h).elim
          · exact (exec_fail h).elim
        · exact (exec_fail h).elim
      · exact (exec_fail h).elim
    · exact (exec_fail h).elim
  · rename_i e _ _ _ _ r g esz cp off len hc
    obtain ⟨d, hd, hk⟩ := (hty _ _ hc).desc
    simp only [descOK] at hk; subst hk
    obtain ⟨A, cap, rfl, hr, hcap, hA, h1, h2⟩ := hx.own_inv
    split at h
    · rename_i hh s hb hs
      obtain ⟨_, _, _, hsz⟩ := size_inv hty hs
      split at h
      · rename_i l hl
        split at h
        · rename_i hesz
          subst hesz
          cases mv with
          | some v => simp [optC] at hmx
          | none =>
            obtain ⟨hrun, hlh, hle⟩ := sliceBounds_run (P := P) (w := w) (isS := true) hlo hhi hcap hb hl
            obtain ⟨rfl, rfl⟩ := exec_val h
            refine ⟨rfl, .slice (if cap = l then A else A.map (·.add (l * esz))) (hh - l) (cap - l), ?_, .one _ _ (.own _ _ _ _ _ _ _ _ hr (by omega) (fun hne => ?_) (fun t' g' cells hst => ⟨(h1 t' g' cells hst).1, fun he => ⟨fun hor => ?_, fun hcp => ?_⟩⟩) (fun t' g' hst => ?_))⟩
            · simp [Instr.sliceAt, run_underlying hd, Instr.slice, hrun, hsz]
            · have := hA (by omega)
              split
              · exact this
              · intro hn; exact this (by simpa using hn)
            · obtain ⟨q1, q2⟩ := (h1 t' g' cells hst).2 he
              by_cases hlen : hh - l = 0
              · rcases hor with h3 | h3
                · exact absurd hlen h3
                · have h4 : off = 0 := by omega
                  have h5 : l * esz = 0 := by omega
                  have := q1 (.inr h4)
                  subst this
                  rw [h5]
                  simp [Addr.add, h4]
              · have := q1 (.inl (by omega))
                subst this
                rw [if_neg (by omega)]
                simp [add_addr]
            · have := ((h1 t' g' cells hst).2 he).2 hcp
              have h6 : l * esz + (cap - l) * esz = cap * esz := by rw [← Nat.add_mul]; congr 1; omega
              omega
            · obtain ⟨q1, q2, q3, q4⟩ := h2 t' g' hst
              subst q3
              refine ⟨q1, by omega, by simp, by omega⟩
        · exact (exec_fail h).elim
      · exact (exec_fail h).elim
    · exact (exec_fail h).elim
  · rename_i n e _ _ _ _ r g off hc
    obtain ⟨d, hd, hk⟩ := (hty _ _ hc).desc
    simp only [descOK] at hk; subst hk
    obtain ⟨a, rfl, hr, h1, h2⟩ := hx.ptr_inv
    split at h
    · rename_i hh s hb hs
      obtain ⟨_, _, _, hsz⟩ := size_inv hty hs
      split at h
      · rename_i l hl
        cases mv with
        | some v => simp [optC] at hmx
        | none =>
          obtain ⟨hrun, hlh, hle⟩ := sliceBounds_run (P := P) (w := w) (isS := false) hlo hhi (Nat.le_refl n) hb hl
          obtain ⟨rfl, rfl⟩ := exec_val h
          refine ⟨rfl, .slice (some (if n = l then a else a.add (l * s))) (hh - l) (n - l), ?_, .one _ _ (.own _ _ _ _ _ _ _ _ hr (by omega) (fun hne => by simp) (fun t' g' cells hst => ⟨(h1 t' g' cells hst).1, fun he => ⟨fun hor => ?_, fun hcp => by simp at hcp⟩⟩) (fun t' g' hst => absurd hst (h2 t' g')))⟩
          · simp [Instr.sliceAt, run_underlying hd, Instr.sureAddr, hrun, hsz]
          · have := (h1 t' g' cells hst).2 he
            subst this
            by_cases hlen : hh - l = 0
            · rcases hor with h3 | h3
              · exact absurd hlen h3
              · have h4 : off = 0 := by omega
                have h5 : l * s = 0 := by omega
                rw [h5]
                simp [Addr.add, h4]
            · rw [if_neg (by omega)]
              simp [add_addr]
      · exact (exec_fail h).elim
    · exact (exec_fail h).elim
  · exact (exec_fail h).elim

theorem getObj_map {r : Nat} {es : Array MapEntry} {clock : Nat} (hb : w.heap[r]? = some (.map es clock)) : (getObj r).run P w = .ok (.map es clock) w := by
  simp [getObj, Sem.run, hb]

theorem lenPlan_sound {t : TypeId} {x : AV} {xv : Value} {ty : TypeId} (hty : ∀ t i, c.ty t = some i → TyOK P t i) (hW : WS c E st w) (hx : AVC E st x xv) (ts : Array TypeId) (hts : ts[0]? = some t) (vs : Array Value) (hvs : vs[0]? = some xv)
    (h : (lenPlan c t x).exec wb callf st = some (av, st')) : st' = st ∧ ∃ y, (Builtin.len_ ts ty vs).run P w = .ok y w ∧ AVC E st av y := by
  unfold lenPlan at h
  split at h
  · rename_i hc
    obtain ⟨d, hd, hk⟩ := (hty _ _ hc).desc
    simp only [descOK] at hk; subst hk
    obtain ⟨A, cap, rfl, hcap, hcp, htok⟩ := hx.slice_inv
    obtain ⟨rfl, rfl⟩ := exec_val h
    exact ⟨rfl, _, by simp [Builtin.len_, hts, hvs, run_underlying hd, goInt], int_cc _ _ _ _⟩
  · rename_i hc
    obtain ⟨d, hd, hk⟩ := (hty _ _ hc).desc
    simp only [descOK] at hk; subst hk
    obtain ⟨A, cap, rfl, _⟩ := hx.own_inv
    obtain ⟨rfl, rfl⟩ := exec_val h
    exact ⟨rfl, _, by simp [Builtin.len_, hts, hvs, run_underlying hd, goInt], int_cc _ _ _ _⟩
  · rename_i hc
    obtain ⟨d, hd, hk⟩ := (hty _ _ hc).desc
    simp only [descOK] at hk; subst hk
    obtain ⟨rfl, rfl⟩ := exec_val h
    exact ⟨rfl, _, by simp [Builtin.len_, hts, hvs, run_underlying hd, goInt], int_cc _ _ _ _⟩
  · rename_i hc
    obtain ⟨d, hd, hk⟩ := (hty _ _ hc).desc
    simp only [descOK] at hk; subst hk
    have := hx.str_inv; subst this
    obtain ⟨rfl, rfl⟩ := exec_val h
    exact ⟨rfl, _, by simp [Builtin.len_, hts, hvs, run_underlying hd, goInt], int_cc _ _ _ _⟩
  · rename_i hc
    obtain ⟨d, hd, hk⟩ := (hty _ _ hc).desc
    simp only [descOK] at hk; subst hk
    obtain ⟨m, rfl, hr, hm⟩ := hx.map_inv
    obtain ⟨res, hst, hk, rfl⟩ := exec_rd h
    cases res with
    | map kt et es =>
      simp only [Option.some.injEq] at hk; subst hk
      have := hm kt et es hst; subst this
      obtain ⟨ms, cl, a1, a2, _⟩ := hW.map _ kt et es hst
      exact ⟨rfl, .int .i64 (ms.size : Int), by simp [Builtin.len_, hts, hvs, run_underlying hd, goInt, getObj_map a1], by rw [a2]; exact int_cc _ _ _ _⟩
    | _ => exact absurd hk (by simp)
  · exact (exec_fail h).elim

theorem capPlan_sound {t : TypeId} {x : AV} {xv : Value} {ty : TypeId} (hty : ∀ t i, c.ty t = some i → TyOK P t i) (hx : AVC E st x xv) (ts : Array TypeId) (hts : ts[0]? = some t) (vs : Array Value) (hvs : vs[0]? = some xv)
    (h : (capPlan c t x).exec wb callf st = some (av, st')) : st' = st ∧ ∃ y, (Builtin.cap_ ts ty vs).run P w = .ok y w ∧ AVC E st av y := by
  unfold capPlan at h
  split at h
  · rename_i hc
    obtain ⟨d, hd, hk⟩ := (hty _ _ hc).desc
    simp only [descOK] at hk; subst hk
    obtain ⟨A, cap, rfl, hcap, hcp, htok⟩ := hx.slice_inv
    obtain ⟨rfl, rfl⟩ := exec_val h
    have := htok A _ cap rfl
    subst this
    exact ⟨rfl, _, by simp [Builtin.cap_, hts, hvs, run_underlying hd, goInt], int_cc _ _ _ _⟩
  · exact (exec_fail h).elim

theorem max_go {k : IntKind} : ∀ (l : List AV) (vs : List Value) (a : Int) (r : AV), vs.length = l.length → (∀ (i : Nat) (x : AV), l[i]? = some x → ∃ v, vs[i]? = some v ∧ AVC E st x v) → minmaxAV.go true k a l = some r →
    ∃ y, (vs.foldlM Builtin.max2 (.int k a)).run P w = .ok y w ∧ AVC E st r y
  | [], vs, a, r, hl, _, h => by
    have : vs = [] := List.eq_nil_of_length_eq_zero (by simpa using hl)
    subst this
    simp only [minmaxAV.go, Option.some.injEq] at h; subst h
    exact ⟨_, by simp, int_cc _ _ _ _⟩
  | x :: l, [], a, r, hl, _, h => by simp at hl
  | x :: l, v :: vs, a, r, hl, hp, h => by
    cases x with
    | one y =>
      cases y with
      | int k' b =>
        obtain ⟨v', hv', hc'⟩ := hp 0 (.one (.int k' b)) (by simp)
        simp only [List.getElem?_cons_zero, Option.some.injEq] at hv'; subst hv'
        have := hc'.int_inv; subst this
        simp only [minmaxAV.go, if_true] at h
        obtain ⟨y, h1, h2⟩ := max_go l vs _ r (by simpa using hl) (fun i x hi => by simpa using hp (i + 1) x (by simpa using hi)) h
        exact ⟨y, by simp only [List.foldlM_cons, Builtin.max2, pure_bind]; exact h1, h2⟩
      | _ => simp [minmaxAV.go] at h
    | _ => simp [minmaxAV.go] at h
theorem min_go {k : IntKind} : ∀ (l : List AV) (vs : List Value) (a : Int) (r : AV), vs.length = l.length → (∀ (i : Nat) (x : AV), l[i]? = some x → ∃ v, vs[i]? = some v ∧ AVC E st x v) → minmaxAV.go false k a l = some r →
    ∃ y, (vs.foldlM Builtin.min2 (.int k a)).run P w = .ok y w ∧ AVC E st r y
  | [], vs, a, r, hl, _, h => by
    have : vs = [] := List.eq_nil_of_length_eq_zero (by simpa using hl)
    subst this
    simp only [minmaxAV.go, Option.some.injEq] at h; subst h
    exact ⟨_, by simp, int_cc _ _ _ _⟩
  | x :: l, [], a, r, hl, _, h => by simp at hl
  | x :: l, v :: vs, a, r, hl, hp, h => by
    cases x with
    | one y =>
      cases y with
      | int k' b =>
        obtain ⟨v', hv', hc'⟩ := hp 0 (.one (.int k' b)) (by simp)
        simp only [List.getElem?_cons_zero, Option.some.injEq] at hv'; subst hv'
        have := hc'.int_inv; subst this
        simp only [minmaxAV.go, Bool.false_eq_true, if_false] at h
        obtain ⟨y, h1, h2⟩ := min_go l vs _ r (by simpa using hl) (fun i x hi => by simpa using hp (i + 1) x (by simpa using hi)) h
        exact ⟨y, by simp only [List.foldlM_cons, Builtin.min2, pure_bind]; exact h1, h2⟩
      | _ => simp [minmaxAV.go] at h
    | _ => simp [minmaxAV.go] at h

theorem minmax_sound {b : Bool} {l : List AV} {vs : Array Value} {r : AV} {ts : Array TypeId} {ty : TypeId} (hl : vs.size = l.length) (hp : ∀ (i : Nat) (x : AV), l[i]? = some x → ∃ v, vs[i]? = some v ∧ AVC E st x v) (h : minmaxAV b l = some r) :
    ∃ y, ((if b then Builtin.max_ ts ty vs else Builtin.min_ ts ty vs)).run P w = .ok y w ∧ AVC E st r y := by
  cases l with
  | nil => simp [minmaxAV] at h
  | cons x l =>
    cases x with
    | one y =>
      cases y with
      | int k a =>
        simp only [minmaxAV] at h
        obtain ⟨v, hv, hc⟩ := hp 0 (.one (.int k a)) (by simp)
        have := hc.int_inv; subst this
        obtain ⟨vl⟩ := vs
        cases vl with
        | nil => simp at hl
        | cons v0 vl =>
          simp at hv; subst hv
          have hp' : ∀ (i : Nat) (x : AV), l[i]? = some x → ∃ v, vl[i]? = some v ∧ AVC E st x v := fun i x hi => by simpa using hp (i + 1) x (by simpa using hi)
          cases b with
          | true => simpa [Builtin.max_] using max_go (P := P) (w := w) l vl a r (by simpa using hl) hp' h
          | false => simpa [Builtin.min_] using min_go (P := P) (w := w) l vl a r (by simpa using hl) hp' h
      | _ => simp [minmaxAV] at h
    | _ => simp [minmaxAV] at h

end Go.AI
