/- copy, clear, new variables, constants. -/
import Derived.Test.YtacfehecjjoffaaDoorAiOps4
set_option linter.unusedVariables false
set_option linter.unusedSimpArgs false
namespace Go.AI
open Go

variable {P : Program} {c : Cfg} {E : Env} {st : St} {w : World} {wb : Nat} {callf : FuncId → List AV → St → Option (AV × St)} {av : AV} {st' : St}

theorem flatten_get {s : Nat} (hs : 0 < s) : ∀ (rows : List (List Cell)) (k : Nat), (∀ (i : Nat) (row : List Cell), rows[i]? = some row → row.length = s) → rows.flatten[k]? = (rows[k / s]?).bind (·[k % s]?)
  | [], k, _ => by simp
  | row :: rows, k, h => by
    have h0 : row.length = s := h 0 row (by simp)
    rw [List.flatten_cons]
    by_cases hk : k < s
    · rw [List.getElem?_append_left (by omega), Nat.div_eq_of_lt hk, Nat.mod_eq_of_lt hk]; simp
    · rw [List.getElem?_append_right (by omega), h0, flatten_get hs rows (k - s) (fun i r hi => h (i + 1) r (by simpa using hi))]
      have e1 : k / s = (k - s) / s + 1 := by rw [← Nat.div_eq_sub_div hs (by omega)]
      have e2 : k % s = (k - s) % s := Nat.mod_eq_sub_mod (by omega)
      rw [e1, e2]; simp
theorem flatten_length {s : Nat} : ∀ (rows : List (List Cell)), (∀ (i : Nat) (row : List Cell), rows[i]? = some row → row.length = s) → rows.flatten.length = rows.length * s
  | [], _ => by simp
  | row :: rows, h => by
    have h0 : row.length = s := h 0 row (by simp)
    rw [List.flatten_cons, List.length_append, h0, flatten_length rows (fun i r hi => h (i + 1) r (by simpa using hi))]
    simp [Nat.add_mul, Nat.add_comm]

/-- A slice's cells, one after the other. -/
theorem CP.flat {F : Fz} {tok : Tok} {esz : Nat} {rows : List (List Cell)} {A : Option Addr} {cap : Nat} (h : CP F (.slice tok esz rows) (.slice A rows.length cap)) :
    rows.flatten.length = rows.length * esz ∧ ∃ (b off : Nat) (vals : Nat → Value), (rows ≠ [] → A = some ⟨b, off, none⟩) ∧
      ∀ (k : Nat) (x : Cell), rows.flatten[k]? = some x → F b (off + k) = some (vals k) ∧ CP F x (vals k) ∧ x.noTok = true := by
  cases h with
  | slice _ _ _ _ b off _ vs hA hcap hE hF hC hN =>
    refine ⟨flatten_length rows hE, b, off, fun k => vs (k / esz) (k % esz), hA, fun k x hk => ?_⟩
    have hpos : 0 < esz := by
      rcases Nat.eq_zero_or_pos esz with h0 | h0
      · subst h0
        have := (List.getElem?_eq_some_iff.1 hk).1
        rw [flatten_length rows hE] at this; simp at this
      · exact h0
    rw [flatten_get hpos rows k hE] at hk
    obtain ⟨row, h1, h2⟩ := Option.bind_eq_some_iff.1 hk
    refine ⟨?_, hC _ _ row x h1 h2, hN _ _ row x h1 h2⟩
    have := hF _ _ row x h1 h2
    rwa [Nat.add_assoc, Nat.mul_comm, Nat.div_add_mod] at this

theorem set_same {r : Nat} {x : Res} (h : st[r]? = some x) : st.set r x = st := by
  apply List.ext_getElem?
  intro i
  by_cases hi : i = r
  · subst hi; rw [get_set_eq h, h]
  · rw [get_set_ne hi]

theorem putCells_nil : ∀ (o : Nat) (cells cells' : List Cell), putCells o [] cells = some cells' → cells' = cells := fun o cells cells' h => by
  obtain ⟨h1, h2⟩ := putCells_spec _ _ _ _ h
  rw [h2]; simp

/-- A store of many cells into a row. -/
theorem storeRow_sound (hW : WS c E st w) {r t g off : Nat} {cells vs cells' : List Cell} {us : Array Value} (hst : st[r]? = some (.row t g cells)) (hput : putCells off vs cells = some cells') (hu : us.size = vs.length)
    (hv : ∀ (i : Nat) (x : Cell), vs[i]? = some x → CC E st x (us.getD i undef)) :
    ∃ w', (storeCells ⟨E.loc r, off, none⟩ us.toList).run P w = .ok () w' ∧ Step c E st w E (st.set r (.row t g cells')) w' := by
  obtain ⟨cs, b1, b2, b3, b4, b5⟩ := hW.row r t g cells hst
  obtain ⟨p1, p2⟩ := putCells_spec _ _ _ _ hput
  have hone : ∀ z ∈ us.toList, z.oneCell' = true := by
    intro z hz
    obtain ⟨j, hj⟩ := List.getElem?_of_mem hz
    have hj2 : j < vs.length := by have := (List.getElem?_eq_some_iff.1 hj).1; simp at this; omega
    have := (hv j _ (List.getElem?_eq_getElem hj2)).oneCell
    have hz2 : us.getD j undef = z := by
      rw [Array.getElem?_toList] at hj
      simp [Array.getD_eq_getD_getElem?, hj]
    rwa [hz2] at this
  have hl2 : us.toList.length = vs.length := by simpa using hu
  have hrun := run_storeCells_at P (E.loc r) off t us.toList 0 cs w b1 (by omega) hone
  simp only [Nat.add_zero] at hrun
  subst p2
  refine ⟨_, hrun, ?_⟩
  have hS := Step.setRow hW hst g (Nat.le_refl _) (cells.take off ++ vs ++ cells.drop (off + vs.length)) (cs.toList.take off ++ us.toList ++ cs.toList.drop (off + us.toList.length)).toArray
    (by simp; omega) (by simp; omega) ?_
  · exact hS
  · intro i x hi
    have hE : Ext w.heap.size (live E st) E st E (st.set r (.row t g (cells.take off ++ vs ++ cells.drop (off + vs.length)))) :=
      Ext.updated _ hst (Fz.le_refl _) (fun _ _ _ _ => rfl) (fun _ _ => ⟨rfl, rfl, rfl⟩) ⟨t, g, _, rfl, Nat.le_refl _, fun _ => ⟨rfl, rfl⟩⟩ (fun b hb => .inr ⟨r, by
        simp only [blk, get_set_eq hst] at hb; simp only [blk, hst]; exact hb⟩)
    exact (splice_cc hu p1 b3 hv b4 i x hi).ext hE

theorem copyPlan_sound {t : TypeId} {x y : AV} {xv yv : Value} {ts : Array TypeId} {ty : TypeId} (hty : ∀ t i, c.ty t = some i → TyOK P t i) (hW : WS c E st w) (hx : AVC E st x xv) (hy : AVC E st y yv) (hts : ts[0]? = some t)
    (h : (copyPlan c t x y).exec wb callf st = some (av, st')) : ∃ z w' E', (Builtin.copy_ ts ty #[xv, yv]).run P w = .ok z w' ∧ AVC E' st' av z ∧ Step c E st w E' st' w' := by
  unfold copyPlan at h
  split at h
  · rename_i e _ _ _ _ r g s cp off len tok esz rows hc
    obtain ⟨d, hd, hk⟩ := (hty _ _ hc).desc
    simp only [descOK] at hk; subst hk
    obtain ⟨A, cap, rfl, hr, hcap, hA, h1, h2⟩ := hx.own_inv
    obtain ⟨B, capB, rfl, hcapB, hcp, _⟩ := hy.slice_inv
    split at h
    · rename_i hesz
      obtain ⟨hs, hesz⟩ := hesz
      obtain ⟨_, _, _, hsz⟩ := size_inv hty hs
      obtain ⟨res, res', hwb, hst, hk, rfl⟩ := exec_wr h
      cases res with
      | row t' g' cells =>
        simp only at hk
        split at hk
        · rename_i hg
          subst hg
          obtain ⟨cells', hput, hk⟩ := Option.map_eq_some_iff.1 hk
          simp only [Prod.mk.injEq] at hk
          obtain ⟨rfl, rfl⟩ := hk
          -- what is read
          have hread : ∃ us : Array Value, (Builtin.firstCells s (min rows.length len) (.slice B rows.length capB)).run P w = .ok us w ∧ us.size = (rows.take (min rows.length len)).flatten.length ∧
              ∀ (i : Nat) (x : Cell), (rows.take (min rows.length len)).flatten[i]? = some x → CC E st x (us.getD i undef) := by
            by_cases hn : min rows.length len = 0
            · rw [hn]
              exact ⟨#[], by cases B <;> simp [Builtin.firstCells, loadCells, loadCellsFrom], by simp, fun i x hi => by simp at hi⟩
            · have hne : rows ≠ [] := fun e => by subst e; simp at hn
              have he : esz = s := hesz.resolve_right hne
              subst he
              have hsub := hcp.sub (Nat.zero_le (min rows.length len)) (Nat.min_le_left _ _) (min rows.length len) (Nat.le_refl _) .no
              rw [if_neg hn, Nat.zero_mul, addr_map_zero, Nat.sub_zero, List.drop_zero] at hsub
              have hlen : (rows.take (min rows.length len)).length = min rows.length len := by simp
              have hsub' : CP E.F (.slice .no esz (rows.take (min rows.length len))) (.slice B (rows.take (min rows.length len)).length (min rows.length len)) := by rw [hlen]; exact hsub
              obtain ⟨hfl, b, o, vals, hB, hval⟩ := hsub'.flat
              rw [hlen] at hfl
              have hB' := hB (fun e => hn (by rw [← hlen, e]; rfl))
              subst hB'
              have hl := run_loadCells (P := P) w ⟨b, o, none⟩ (min rows.length len * esz) vals (fun j hj => by
                rw [add_addr]
                exact hW.hF _ _ _ (hval j _ (List.getElem?_eq_getElem (by rw [hfl]; exact hj))).1)
              refine ⟨_, by simp only [Builtin.firstCells]; exact hl, by rw [hfl]; simp, fun i x hi => ?_⟩
              have hlt : i < min rows.length len * esz := by have := (List.getElem?_eq_some_iff.1 hi).1; rwa [hfl] at this
              obtain ⟨_, q2, q3⟩ := hval i x hi
              have : (((List.range (min rows.length len * esz)).map vals).toArray.getD i undef) = vals i := by simp [Array.getD_eq_getD_getElem?, hlt]
              rw [this]
              exact .of_noTok q2 q3
          obtain ⟨us, hf, hus, hcc⟩ := hread
          have hmin : Nat.min rows.length len = min rows.length len := rfl
          cases A with
          | none =>
            have hl0 : len = 0 := Nat.eq_zero_of_not_pos fun hp => hA (by omega) rfl
            subst hl0
            have hm0 : min rows.length 0 = 0 := by simp
            rw [hm0] at hput hf
            simp only [List.take_zero, List.flatten_nil] at hput
            have := putCells_nil _ _ _ hput
            subst this
            refine ⟨_, w, E, ?_, int_cc _ _ _ _, by rw [set_same hst]; exact Step.refl hW⟩
            simp only [Builtin.copy_, hts, Array.getElem?_toList, List.getElem?_toArray, List.getElem?_cons_zero, List.getElem?_cons_succ, Sem.run_bind, run_underlying hd, Result.andThen_ok, Builtin.lenOf, Sem.run_pure, hsz, hmin, hm0, hf, pure_bind, goInt]
          | some a =>
            by_cases hor : len ≠ 0 ∨ off = 0
            · have := ((h1 t' g cells hst).2 rfl).1 hor
              simp only [Option.some.injEq] at this; subst this
              obtain ⟨w', hrun, hS⟩ := storeRow_sound (P := P) hW hst hput hus hcc
              refine ⟨_, w', E, ?_, int_cc _ _ _ _, hS⟩
              simp only [Builtin.copy_, hts, Array.getElem?_toList, List.getElem?_toArray, List.getElem?_cons_zero, List.getElem?_cons_succ, Sem.run_bind, run_underlying hd, Result.andThen_ok, Builtin.lenOf, Sem.run_pure, hsz, hmin, hf, hrun, pure_bind, goInt]
            · have hl0 : len = 0 := by omega
              subst hl0
              have hm0 : min rows.length 0 = 0 := by simp
              rw [hm0] at hput hf hus
              simp only [List.take_zero, List.flatten_nil] at hput hus
              have := putCells_nil _ _ _ hput
              subst this
              have hu0 : us.toList = [] := List.eq_nil_of_length_eq_zero (by simpa using hus)
              refine ⟨_, w, E, ?_, int_cc _ _ _ _, by rw [set_same hst]; exact Step.refl hW⟩
              simp only [Builtin.copy_, hts, Array.getElem?_toList, List.getElem?_toArray, List.getElem?_cons_zero, List.getElem?_cons_succ, Sem.run_bind, run_underlying hd, Result.andThen_ok, Builtin.lenOf, Sem.run_pure, hsz, hmin, hm0, hf, hu0, storeCells, pure_bind, goInt]
        · exact absurd hk (by simp)
      | _ => exact absurd hk (by simp)
    · exact (exec_fail h).elim
  · exact (exec_fail h).elim

theorem clearPlan_sound {t : TypeId} {x : AV} {xv : Value} {ts : Array TypeId} {ty : TypeId} (hty : ∀ t i, c.ty t = some i → TyOK P t i) (hW : WS c E st w) (hx : AVC E st x xv) (hts : ts[0]? = some t)
    (h : (clearPlan c t x).exec wb callf st = some (av, st')) : ∃ z w' E', (Builtin.clear_ ts ty #[xv]).run P w = .ok z w' ∧ AVC E' st' av z ∧ Step c E st w E' st' w' := by
  unfold clearPlan at h
  split at h
  · rename_i e _ _ _ _ r g s cp off len hc
    obtain ⟨d, hd, hk⟩ := (hty _ _ hc).desc
    simp only [descOK] at hk; subst hk
    obtain ⟨A, cap, rfl, hr, hcap, hA, h1, h2⟩ := hx.own_inv
    split at h
    · rename_i i hce
      have ht := hty e i hce
      obtain ⟨z, hz, z1, z2, z3⟩ := zero_run ht
      obtain ⟨res, res', hwb, hst, hk, rfl⟩ := exec_wr h
      cases res with
      | row t' g' cells =>
        simp only at hk
        split at hk
        · rename_i hg
          obtain ⟨rfl, rfl⟩ := hg
          obtain ⟨cells', hput, hk⟩ := Option.map_eq_some_iff.1 hk
          simp only [Prod.mk.injEq] at hk
          obtain ⟨rfl, rfl⟩ := hk
          by_cases hl0 : len = 0
          · subst hl0
            simp only [zeros] at hput
            have := putCells_nil _ _ _ hput
            subst this
            refine ⟨.tuple #[], w, E, ?_, .tup [] #[] rfl (fun i x hi => by simp at hi), by rw [set_same hst]; exact Step.refl hW⟩
            cases A <;> simp [Builtin.clear_, hts, run_underlying hd]
          · cases A with
            | none => exact absurd rfl (hA hl0)
            | some a =>
              have := ((h1 t' g cells hst).2 rfl).1 (.inl hl0)
              simp only [Option.some.injEq] at this; subst this
              have hm := made_cc (E := E) (st := st) len z1 (z3 E st)
              rw [z2] at hm
              have hzc : Builtin.zeroCells z.cells len = (Array.range (len * i.size)).map (z.cells[· % z.cells.size]!) := by
                simp only [Builtin.zeroCells, z1, z2]
              obtain ⟨w', hrun, hS⟩ := storeRow_sound (P := P) hW hst hput (us := (Array.range (len * i.size)).map (z.cells[· % z.cells.size]!)) (by simp [zeros_length, z2]) hm
              refine ⟨.tuple #[], w', E, ?_, .tup [] #[] rfl (fun i x hi => by simp at hi), hS⟩
              obtain ⟨n, rfl⟩ : ∃ n, len = n + 1 := ⟨len - 1, by omega⟩
              simp only [Builtin.clear_, hts, List.getElem?_toArray, List.getElem?_cons_zero, Sem.run_bind, run_underlying hd, Result.andThen_ok, hz, hzc, hrun, Sem.run_pure]
        · exact absurd hk (by simp)
      | _ => exact absurd hk (by simp)
    · exact (exec_fail h).elim
  · exact (exec_fail h).elim

/-! nil slices made new -/
theorem tokz_spec : ∀ (n : Nat) (cells : List Cell) (vs : Nat → Value), (∀ (i : Nat) (x : Cell), cells[i]? = some x → CC E st x (vs i)) →
    (tokz n cells).1.length = cells.length ∧ nilTails (tokz n cells).2 ∧ ∃ tf : Nat → Option Addr, ∀ (E' : Env) (st2 : St) (N : Nat) (X : Nat → Prop), Ext N X E st E' st2 → (∀ (k : Nat) (x : Res), (tokz n cells).2[k]? = some x → st2[n + k]? = some x) →
      (∀ k, k < (tokz n cells).2.length → E'.tl (n + k) = (tf (n + k), 0)) → ∀ (i : Nat) (x : Cell), (tokz n cells).1[i]? = some x → CC E' st2 x (vs i)
  | n, [], vs, h => ⟨rfl, fun x hx => by simp [tokz] at hx, fun _ => none, fun E' st2 N X he h1 h2 i x hi => by simp [tokz] at hi⟩
  | n, x :: l, vs, h => by
    by_cases hx : ∃ e, x = .slice .exact e []
    · obtain ⟨e, rfl⟩ := hx
      obtain ⟨i1, i2, tf, i3⟩ := tokz_spec (n + 1) l (fun i => vs (i + 1)) (fun i x hi => h (i + 1) x (by simpa using hi))
      have h0 := h 0 (.slice .exact e []) (by simp)
      obtain ⟨A, cap, hv, hcap, hcp, htok⟩ := (AVC.one _ _ h0).slice_inv
      have hc0 : cap = 0 := htok A _ cap hv
      simp only [tokz]
      refine ⟨by simp [i1], fun y hy => ?_, fun r => if r = n then A else tf r, fun E' st2 N X he h1 h2 i y hi => ?_⟩
      · rcases List.mem_cons.1 hy with rfl | hy
        · exact ⟨e, rfl⟩
        · exact i2 y hy
      · cases i with
        | zero =>
          simp only [List.getElem?_cons_zero, Option.some.injEq] at hi; subst hi
          have hst := h1 0 (.tail 0 e) (by simp)
          simp only [Nat.add_zero] at hst
          refine .pure _ _ (hcp.tok.mono he.F) fun tok e' rows heq => ?_
          simp only [Cell.slice.injEq] at heq
          obtain ⟨rfl, rfl, rfl⟩ := heq
          refine ⟨get_lt hst, fun m e2 hm => ?_⟩
          rw [hst] at hm
          simp only [Option.some.injEq, Res.tail.injEq] at hm
          obtain ⟨rfl, rfl⟩ := hm
          refine ⟨by simp, fun _ A' m' cap' hv' => ?_⟩
          rw [hv] at hv'
          simp only [Value.slice.injEq] at hv'
          obtain ⟨rfl, _, rfl⟩ := hv'
          have := h2 0 (by simp)
          simp only [Nat.add_zero, if_true] at this
          rw [this, hc0]
        | succ i =>
          refine i3 E' st2 N X he (fun k x hk => ?_) (fun k hk => ?_) i y (by simpa using hi)
          · have := h1 (k + 1) x (by simpa using hk)
            rwa [show n + 1 + k = n + (k + 1) by omega]
          · have := h2 (k + 1) (by simpa using hk)
            rw [show n + 1 + k = n + (k + 1) by omega, this]
            simp only [show ¬ (n + (k + 1) = n) by omega, if_false]
    · have htz : tokz n (x :: l) = (x :: (tokz n l).1, (tokz n l).2) := by
        cases x with
        | slice tok e rows =>
          cases tok with
          | exact => cases rows with
            | nil => exact absurd ⟨e, rfl⟩ hx
            | cons => rfl
          | _ => rfl
        | _ => rfl
      obtain ⟨i1, i2, tf, i3⟩ := tokz_spec n l (fun i => vs (i + 1)) (fun i x hi => h (i + 1) x (by simpa using hi))
      rw [htz]
      refine ⟨by simp [i1], i2, tf, fun E' st2 N X he h1 h2 i y hi => ?_⟩
      cases i with
      | zero =>
        simp only [List.getElem?_cons_zero, Option.some.injEq] at hi; subst hi
        exact (h 0 _ (by simp)).ext he
      | succ i => exact i3 E' st2 N X he h1 h2 i y (by simpa using hi)

theorem varPlan_sound {kd : Kind} {e : TypeId} {cells : List Cell} {cs : Array Value} (hW : WS c E st w) (hs : cs.size = cells.length) (hc : ∀ (i : Nat) (x : Cell), cells[i]? = some x → CC E st x (cs.getD i undef))
    (h : (varPlan kd e cells).exec wb callf st = some (av, st')) : ∃ E', AVC E' st' av (.pointer (some ⟨w.heap.size, 0, none⟩)) ∧ Step c E st w E' st' (w.alloc (.cells cs e)) := by
  have key : ∀ (cells2 : List Cell) (xs : List Res) (tf : Nat → Option Addr) (hx : nilTails xs) (hl2 : cells2.length = cells.length)
      (hc2 : ∀ (i : Nat) (x : Cell), cells2[i]? = some x → CC (E.pushRow st.length w.heap.size cs.size tf) (st ++ .row e 0 cells2 :: xs) x (cs.getD i undef)),
      ∃ E', AVC E' (st ++ .row e 0 cells2 :: xs) (.one (.ptr st.length 0 0)) (.pointer (some ⟨w.heap.size, 0, none⟩)) ∧ Step c E st w E' (st ++ .row e 0 cells2 :: xs) (w.alloc (.cells cs e)) := by
    intro cells2 xs tf hx hl2 hc2
    have hS := Step.pushRow hW e cells2 cs xs tf hx (by omega) hc2
    refine ⟨_, .one _ _ (.ptr _ _ _ _ (by simp) (fun t' g' cells' hst => ?_) (fun t' g' hst => ?_)), hS⟩
    · rw [get_push_row (Nat.le_refl _)] at hst
      simp only [if_true, Option.some.injEq, Res.row.injEq] at hst
      obtain ⟨_, rfl, _⟩ := hst
      exact ⟨Nat.le_refl _, fun _ => by simp [Env.pushRow]⟩
    · rw [get_push_row (Nat.le_refl _)] at hst
      simp at hst
  have plain : ∀ (h : Plan.exec wb callf st (.new (fun _ => [.row e 0 cells]) fun r => .one (.ptr r 0 0)) = some (av, st')), ∃ E', AVC E' st' av (.pointer (some ⟨w.heap.size, 0, none⟩)) ∧ Step c E st w E' st' (w.alloc (.cells cs e)) := by
    intro h
    obtain ⟨rfl, rfl⟩ := exec_new h
    have hx : nilTails [] := fun x hx => by simp at hx
    exact key cells [] (fun _ => none) hx rfl (fun k x hk => (hc k x hk).ext (Ext.pushRow w.heap.size (fun n e he => by simp at he) hx _ _ _ (Nat.le_refl _)))
  cases kd with
  | plain => exact plain h
  | own => exact plain h
  | tok =>
    obtain ⟨rfl, rfl⟩ := exec_new h
    obtain ⟨i1, i2, tf, i3⟩ := tokz_spec (E := E) (st := st) (st.length + 1) cells (fun i => cs.getD i undef) hc
    refine key (tokz (st.length + 1) cells).1 (tokz (st.length + 1) cells).2 tf i2 i1 (i3 _ _ w.heap.size _ (Ext.pushRow w.heap.size (fun n e he => by simp at he) i2 _ _ _ (Nat.le_refl _)) (fun k x hk => ?_) (fun k hk => ?_))
    · rw [List.getElem?_append_right (by omega), show st.length + 1 + k - st.length = k + 1 by omega]
      simpa using hk
    · simp only [Env.pushRow]; rw [if_pos (by omega)]

theorem buildPlan_sound {kd : Kind} {o : Option (List Cell)} {cs : Array Value} (hW : WS c E st w) (hc : ∀ cells, o = some cells → cs.size = cells.length ∧ ∀ (i : Nat) (x : Cell), cells[i]? = some x → CC E st x (cs.getD i undef))
    (h : (buildPlan kd o).exec wb callf st = some (av, st')) : ∃ E', AVC E' st' av (.agg cs) ∧ Step c E st w E' st' w := by
  cases o with
  | none => cases kd <;> exact (exec_fail h).elim
  | some cells =>
    obtain ⟨hs, hc⟩ := hc cells rfl
    have plain : ∀ (h : Plan.exec wb callf st (.val (.agg cells)) = some (av, st')), ∃ E', AVC E' st' av (.agg cs) ∧ Step c E st w E' st' w := by
      intro h
      obtain ⟨rfl, rfl⟩ := exec_val h
      exact ⟨E, .agg _ _ hs hc, Step.refl hW⟩
    cases kd with
    | plain => exact plain h
    | own => exact plain h
    | tok =>
      obtain ⟨rfl, rfl⟩ := exec_new h
      obtain ⟨i1, i2, tf, i3⟩ := tokz_spec (E := E) (st := st) st.length cells (fun i => cs.getD i undef) hc
      have hq : ∀ x ∈ (tokz st.length cells).2, quietRes x := fun x hx => by obtain ⟨e, rfl⟩ := i2 x hx; trivial
      have hS := Step.pushNil hW (tokz st.length cells).2 tf hq
      refine ⟨_, .agg _ _ (by rw [i1]; exact hs) (i3 _ _ w.heap.size _ hS.ext (fun k x hk => ?_) (fun k hk => ?_)), hS⟩
      · rw [List.getElem?_append_right (by omega), show st.length + k - st.length = k by omega]; exact hk
      · simp only [Env.pushNil]; rw [if_pos (by omega)]

theorem constPlan_sound {kd : Kind} {t : TypeId} {nil : Bool} {x : AV} {v : Value} (hty : ∀ t i, c.ty t = some i → TyOK P t i) (hW : WS c E st w) (hx : AVC E st x v) (hnil : nil = true → v = .slice none 0 0)
    (h : (constPlan c kd t nil x).exec wb callf st = some (av, st')) : ∃ E', AVC E' st' av v ∧ Step c E st w E' st' w := by
  have plain : ∀ (h : Plan.exec wb callf st (.val x) = some (av, st')), ∃ E', AVC E' st' av v ∧ Step c E st w E' st' w := by
    intro h
    obtain ⟨rfl, rfl⟩ := exec_val h
    exact ⟨E, hx, Step.refl hW⟩
  unfold constPlan at h
  split at h
  · exact plain h
  · split at h
    · rename_i s hs
      obtain ⟨rfl, rfl⟩ := exec_new h
      obtain ⟨A, cap, rfl, hcap, hcp, htok⟩ := hx.slice_inv
      have hc0 : cap = 0 := htok A _ cap rfl
      have hS := Step.pushFull hW 0 s A
      refine ⟨_, .one _ _ (.pure _ _ ?_ ?_), hS⟩
      · exact .slice _ s [] A 0 0 cap (fun _ _ => undef) (fun h => absurd rfl h) hcap (fun i row h => by simp at h) (fun i j row c h => by simp at h) (fun i j row c h => by simp at h) (fun i j row c h => by simp at h)
      · intro tok e' rows he
        simp only [Cell.slice.injEq] at he
        obtain ⟨rfl, rfl, rfl⟩ := he
        refine ⟨by simp, fun n' e' hst => ?_⟩
        rw [get_push_row (Nat.le_refl _)] at hst
        simp only [if_true, Option.some.injEq, Res.tail.injEq] at hst
        obtain ⟨rfl, rfl⟩ := hst
        refine ⟨by simp, fun _ A' k cap' hv => ?_⟩
        simp only [Value.slice.injEq] at hv
        obtain ⟨rfl, _, rfl⟩ := hv
        simp [Env.pushFull, hc0]
    · exact (exec_fail h).elim
  · rename_i esz e _ _ _ _ hc0
    split at h
    · rename_i hn
      have := hnil hn
      subst this
      split at h
      · rename_i s hs
        obtain ⟨rfl, rfl⟩ := exec_new h
        have hS := Step.pushNil hW [Res.nrow e 0] (fun _ => none) (fun x hx => by simp at hx; subst hx; trivial)
        refine ⟨_, .one _ _ (.own _ _ _ _ _ _ _ _ (by simp) (Nat.le_refl _) (fun h => absurd rfl h) (fun t' g' cells hst => ?_) (fun t' g' hst => ?_)), hS⟩
        · rw [get_push_row (Nat.le_refl _)] at hst
          simp at hst
        · exact ⟨Nat.zero_le _, rfl, rfl, rfl⟩
      · exact (exec_fail h).elim
    · exact plain h
  · exact plain h

end Go.AI
