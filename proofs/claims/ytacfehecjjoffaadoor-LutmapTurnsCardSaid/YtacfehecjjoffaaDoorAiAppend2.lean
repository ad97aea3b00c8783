/- append, as the abstract interpreter tells it. -/
import Derived.Test.YtacfehecjjoffaaDoorAiAppend
set_option linter.unusedVariables false
set_option linter.unusedSimpArgs false
namespace Go.AI
open Go

variable {P : Program} {c : Cfg} {E : Env} {st : St} {w : World} {wb : Nat} {callf : FuncId → List AV → St → Option (AV × St)} {av : AV} {st' : St}

theorem rows_append {s : Nat} {rows ns : List (List Cell)} (h1 : ∀ (i : Nat) (row : List Cell), rows[i]? = some row → row.length = s) (h2 : ∀ (i : Nat) (row : List Cell), ns[i]? = some row → row.length = s) :
    ∀ (i : Nat) (row : List Cell), (rows ++ ns)[i]? = some row → row.length = s := by
  intro i row hi
  by_cases hlt : i < rows.length
  · rw [List.getElem?_append_left hlt] at hi; exact h1 i row hi
  · rw [List.getElem?_append_right (by omega)] at hi; exact h2 _ row hi

/-- The value of a slice that a resource knows. -/
theorem tail_av {E' : Env} {st2 : St} {r n s : Nat} {rows : List (List Cell)} {A : Option Addr} {cap : Nat} (hst : st2[r]? = some (.tail n s)) (hn : n = rows.length) (htl : E'.tl r = (A, cap)) (hcp : CP E'.F (.slice (.tail r) s rows) (.slice A rows.length cap)) :
    AVC E' st2 (.one (.slice (.tail r) s rows)) (.slice A rows.length cap) := by
  refine .one _ _ (.pure _ _ hcp fun tok e' rows' he => ?_)
  simp only [Cell.slice.injEq] at he
  obtain ⟨rfl, rfl, rfl⟩ := he
  refine ⟨get_lt hst, fun n' e' hst' => ?_⟩
  rw [hst] at hst'
  simp only [Option.some.injEq, Res.tail.injEq] at hst'
  obtain ⟨rfl, rfl⟩ := hst'
  refine ⟨by omega, fun _ A' k cap' hv => ?_⟩
  simp only [Value.slice.injEq] at hv
  obtain ⟨rfl, _, rfl⟩ := hv
  exact htl.symm

theorem own_av {E' : Env} {st2 : St} {r g s : Nat} {t : TypeId} {cells : List Cell} {len cap : Nat} (hst : st2[r]? = some (.row t g cells)) (hc : len ≤ cap) (hsz : cap * s ≤ E'.sz r) :
    AVC E' st2 (.one (.own r g s true 0 len)) (.slice (some ⟨E'.loc r, 0, none⟩) len cap) := by
  refine .one _ _ (.own _ _ _ _ _ _ _ _ (get_lt hst) hc (fun _ => by simp) (fun t' g' cells' hst' => ?_) (fun t' g' hst' => ?_))
  · rw [hst] at hst'
    simp only [Option.some.injEq, Res.row.injEq] at hst'
    obtain ⟨_, rfl, _⟩ := hst'
    exact ⟨Nat.le_refl _, fun _ => ⟨fun _ => rfl, fun _ => by omega⟩⟩
  · rw [hst] at hst'; simp at hst'

theorem oneCells_of {us : Array Value} {cells : List Cell} (hu : us.size = cells.length) (hv : ∀ (i : Nat) (x : Cell), cells[i]? = some x → CP E.F x (us.getD i undef) ∧ x.noTok = true) : ∀ z ∈ us.toList, z.oneCell' = true := by
  intro z hz
  obtain ⟨j, hj⟩ := List.getElem?_of_mem hz
  have hj2 : j < cells.length := by have := (List.getElem?_eq_some_iff.1 hj).1; simp at this; omega
  have := (hv j _ (List.getElem?_eq_getElem hj2)).1.oneCell
  have hz2 : us.getD j undef = z := by
    rw [Array.getElem?_toList] at hj
    simp [Array.getD_eq_getD_getElem?, hj]
  rwa [hz2] at this

/-- append to a slice of one's own, row behind it. -/
theorem append_own {t tx ty e : TypeId} {inf : TypeInfo} {z : Value} {s x : Value} {r g len : Nat} {cells : List Cell} {ns : List (List Cell)} {news : Array Value} (hW : WS c E st w) (hz1 : z.cells.size = inf.size)
    (h2 : Arg2 P E w t tx ty e inf z x ns news) (hs : AVC E st (.one (.own r g inf.size true 0 len)) s) (hst : st[r]? = some (.row e g cells)) (hlen : len * inf.size ≤ cells.length)
    (f1 : (len + ns.length) * inf.bytes ≤ 140737488355328) (f2 : len + ns.length ≤ 9223372036854775807) :
    ∃ y w' E', (Builtin.append_ #[t, tx] ty #[s, x]).run P w = .ok y w' ∧ AVC E' (st.set r (.row e (g + 1) (cells.take (len * inf.size) ++ ns.flatten))) (.one (.own r (g + 1) inf.size true 0 (len + ns.length))) y ∧
      Step c E st w E' (st.set r (.row e (g + 1) (cells.take (len * inf.size) ++ ns.flatten))) w' := by
  have hnf : ns.flatten.length = ns.length * inf.size := flatten_length ns h2.rows
  have hns : news.size = ns.flatten.length := by rw [hnf]; exact h2.size
  obtain ⟨A, cap, rfl, hr, hcap, hA, h1, hn⟩ := hs.own_inv
  obtain ⟨h3, h4⟩ := (h1 e g cells hst).2 rfl
  have h3 := h3 (.inr rfl)
  have h4 := h4 rfl
  subst h3
  rw [Nat.zero_add] at h4
  obtain ⟨cs, b1, b2, b3, b4, b5⟩ := hW.row r e g cells hst
  have holds : ∀ (k : Nat) (y : Cell), (cells.take (len * inf.size))[k]? = some y → CC E st y ((cs.toList.take (len * inf.size)).toArray.getD k undef) := fun k y hk => by
    rw [List.getElem?_take] at hk
    split at hk
    · rename_i hlt
      have := b4 k y hk
      have hk3 : k < cells.length := (List.getElem?_eq_some_iff.1 hk).1
      have hk2 : k < cs.size := by omega
      simpa [Array.getD_eq_getD_getElem?, List.getElem?_take, hlt] using this
    · simp at hk
  have hto : (cs.toList.take (len * inf.size)).toArray.size = (cells.take (len * inf.size)).length := by simp; omega
  have hlsz : (cells.take (len * inf.size) ++ ns.flatten).length = (len + ns.length) * inf.size := by simp [hnf, Nat.add_mul]; omega
  by_cases hroom : len + ns.length ≤ cap
  · have hle : (len + ns.length) * inf.size ≤ cap * inf.size := Nat.mul_le_mul_right _ hroom
    have hsum : len * inf.size + news.toList.length = (len + ns.length) * inf.size := by rw [Array.length_toList, h2.size, Nat.add_mul]
    have hone := oneCells_of hns h2.cells
    have hstore := run_storeCells_at P (E.loc r) (len * inf.size) e news.toList 0 cs w b1 (by omega) hone
    simp only [Nat.add_zero] at hstore
    have hrun := h2.room ⟨E.loc r, 0, none⟩ len cap _ hroom (by rw [add_addr, Nat.zero_add]; exact hstore)
    have hcs' : (cs.toList.take (len * inf.size) ++ news.toList ++ cs.toList.drop (len * inf.size + news.toList.length)).toArray.size = cs.size := by
      simp only [List.size_toArray, List.length_append, List.length_take, List.length_drop, Array.length_toList]
      have : news.toList.length = news.size := by simp
      omega
    have harr : (cs.toList.take (len * inf.size) ++ news.toList ++ cs.toList.drop (len * inf.size + news.toList.length)).toArray = (cs.toList.take (len * inf.size)).toArray ++ news ++ (cs.toList.drop (len * inf.size + news.toList.length)).toArray := by
      apply Array.ext'; simp
    have hE : Ext w.heap.size (live E st) E st E (st.set r (.row e (g + 1) (cells.take (len * inf.size) ++ ns.flatten))) :=
      Ext.updated _ hst (Fz.le_refl _) (fun _ _ _ _ => rfl) (fun _ _ => ⟨rfl, rfl, rfl⟩) ⟨e, g + 1, _, rfl, by omega, fun h => ⟨rfl, rfl⟩⟩ (fun b hb => .inr ⟨r, by
        simp only [blk, get_set_eq hst] at hb; simp only [blk, hst]; exact hb⟩)
    have hS := Step.setRow hW hst (g + 1) (by omega) (cells.take (len * inf.size) ++ ns.flatten) (cs.toList.take (len * inf.size) ++ news.toList ++ cs.toList.drop (len * inf.size + news.toList.length)).toArray (by rw [hcs', b2]) (by rw [hcs', hlsz]; omega) (fun k y hk => by
      rw [harr]
      exact (grown_get (Q := fun y v => CC E st y v) hto hns holds (fun k y hk => .of_noTok (h2.cells k y hk).1 (h2.cells k y hk).2) k y hk).ext hE)
    exact ⟨_, _, _, hrun, own_av (E' := E) (get_set_eq hst) hroom (by omega), hS⟩
  · have hload := run_loadCells (P := P) w.drew ⟨E.loc r, 0, none⟩ (len * inf.size) (fun j => cs.getD j undef) (fun j hj => by
      rw [add_addr, Nat.zero_add]
      have hj2 : j < cs.size := by omega
      have b1' : w.drew.heap[E.loc r]? = some (.cells cs e (0, 0)) := b1
      simp [World.cell?, b1', hj2])
    have hfo : (Builtin.firstCells inf.size len (.slice (some ⟨E.loc r, 0, none⟩) len cap)).run P w.drew = .ok ((List.range (len * inf.size)).map fun j => cs.getD j undef).toArray w.drew := by
      simp only [Builtin.firstCells]; exact hload
    have hrun := h2.grow (some ⟨E.loc r, 0, none⟩) len cap _ hfo (by omega) f2 f1
    have hG := grownCap_ge w (len + ns.length) cap e
    have hgs := grown_size (z := z) (inf := inf) (olds := ((List.range (len * inf.size)).map fun j => cs.getD j undef).toArray) (news := news) (len := len) (k := ns.length) (cap := grownCap w (len + ns.length) cap e) hz1 (by simp) h2.size hG
    have hWd : WS c E st w.drew := hW.heap rfl
    have holds' : ∀ (k : Nat) (y : Cell), (cells.take (len * inf.size))[k]? = some y → CC E st y (((List.range (len * inf.size)).map fun j => cs.getD j undef).toArray.getD k undef) := fun k y hk => by
      rw [List.getElem?_take] at hk
      split at hk
      · rename_i hlt
        have := b4 k y hk
        simpa [Array.getD_eq_getD_getElem?, hlt] using this
      · simp at hk
    have hle2 : (len + ns.length) * inf.size ≤ grownCap w (len + ns.length) cap e * inf.size := Nat.mul_le_mul_right _ hG
    have hE : Ext w.heap.size (live E st) E st (E.moveRow r w.drew.heap.size (grownCap w (len + ns.length) cap e * inf.size)) (st.set r (.row e (g + 1) (cells.take (len * inf.size) ++ ns.flatten))) :=
      Ext.updated _ hst (Fz.le_refl _) (fun _ _ _ _ => rfl) (fun k hk => by simp only [Env.moveRow]; rw [if_neg hk, if_neg hk]; exact ⟨rfl, rfl, trivial⟩) ⟨e, g + 1, _, rfl, by omega, fun h => absurd h (by omega)⟩ (fun b hb => .inl (by
        simp [blk, get_set_eq hst, Env.moveRow] at hb; omega))
    have hS := (Step.drew hW).trans (Step.moveRow hWd hst (.inl ⟨e, cells, rfl⟩) e (g + 1) (by omega) (cells.take (len * inf.size) ++ ns.flatten) (((List.range (len * inf.size)).map fun j => cs.getD j undef).toArray ++ news ++ Builtin.zeroCells z.cells (grownCap w (len + ns.length) cap e - (len + ns.length))) (by rw [hgs, hlsz]; exact hle2) (fun k y hk => by
      rw [hgs]
      exact (grown_get (Q := fun y v => CC E st y v) (by simp; omega) hns holds' (fun k y hk => .of_noTok (h2.cells k y hk).1 (h2.cells k y hk).2) k y hk).ext hE))
    refine ⟨_, _, _, hrun, ?_, hS⟩
    have := own_av (E' := E.moveRow r w.drew.heap.size (((List.range (len * inf.size)).map fun j => cs.getD j undef).toArray ++ news ++ Builtin.zeroCells z.cells (grownCap w (len + ns.length) cap e - (len + ns.length))).size) (s := inf.size) (get_set_eq (x := .row e (g + 1) (cells.take (len * inf.size) ++ ns.flatten)) hst) hG (by simp only [Env.moveRow, if_true]; rw [hgs]; exact Nat.le_refl _)
    simpa [Env.moveRow] using this

/-- The same, nothing being behind it yet. -/
theorem append_nrow {t tx ty e : TypeId} {inf : TypeInfo} {z : Value} {s x : Value} {r g : Nat} {ns : List (List Cell)} {news : Array Value} (hW : WS c E st w) (hz1 : z.cells.size = inf.size)
    (h2 : Arg2 P E w t tx ty e inf z x ns news) (hs : AVC E st (.one (.own r g inf.size true 0 0)) s) (hst : st[r]? = some (.nrow e g))
    (f1 : ns.length * inf.bytes ≤ 140737488355328) (f2 : ns.length ≤ 9223372036854775807) :
    (ns = [] → ∃ y, (Builtin.append_ #[t, tx] ty #[s, x]).run P w = .ok y w ∧ AVC E st (.one (.own r g inf.size true 0 0)) y) ∧
    (ns ≠ [] → ∃ y w' E', (Builtin.append_ #[t, tx] ty #[s, x]).run P w = .ok y w' ∧ AVC E' (st.set r (.row e (g + 1) ns.flatten)) (.one (.own r (g + 1) inf.size true 0 ns.length)) y ∧ Step c E st w E' (st.set r (.row e (g + 1) ns.flatten)) w') := by
  have hnf : ns.flatten.length = ns.length * inf.size := flatten_length ns h2.rows
  have hns : news.size = ns.flatten.length := by rw [hnf]; exact h2.size
  obtain ⟨A, cap, rfl, hr, hcap, hA, h1, hn⟩ := hs.own_inv
  obtain ⟨_, _, rfl, rfl⟩ := hn e g hst
  refine ⟨fun hn0 => ?_, fun hne => ?_⟩
  · subst hn0
    exact ⟨_, by simpa using h2.nil 0 0 (by simp), hs⟩
  · have hpos : 0 < ns.length := List.length_pos_iff.2 hne
    have hrun := h2.grow none 0 0 #[] (by simp [Builtin.firstCells, loadCells, loadCellsFrom]) (by omega) (by omega) (by rw [Nat.zero_add]; exact f1)
    simp only [Nat.zero_add] at hrun
    have hG := grownCap_ge w ns.length 0 e
    have hgs := grown_size (z := z) (inf := inf) (olds := #[]) (news := news) (len := 0) (k := ns.length) (cap := grownCap w ns.length 0 e) hz1 (by simp) h2.size (by omega)
    rw [Nat.zero_add] at hgs
    have hWd : WS c E st w.drew := hW.heap rfl
    have hle2 : ns.length * inf.size ≤ grownCap w ns.length 0 e * inf.size := Nat.mul_le_mul_right _ hG
    have hE : Ext w.heap.size (live E st) E st (E.moveRow r w.drew.heap.size (grownCap w ns.length 0 e * inf.size)) (st.set r (.row e (g + 1) ns.flatten)) :=
      Ext.updated _ hst (Fz.le_refl _) (fun _ _ _ _ => rfl) (fun k hk => by simp only [Env.moveRow]; rw [if_neg hk, if_neg hk]; exact ⟨rfl, rfl, trivial⟩) (.inr ⟨e, g + 1, _, rfl, by omega⟩) (fun b hb => .inl (by
        simp [blk, get_set_eq hst, Env.moveRow] at hb; omega))
    have hS := (Step.drew hW).trans (Step.moveRow hWd hst (.inr ⟨e, rfl⟩) e (g + 1) (by omega) ns.flatten (#[] ++ news ++ Builtin.zeroCells z.cells (grownCap w ns.length 0 e - ns.length)) (by rw [hgs, hnf]; exact hle2) (fun k y hk => by
      rw [hgs]
      have := (grown_get (olds := #[]) (oc := []) (rest := Builtin.zeroCells z.cells (grownCap w ns.length 0 e - ns.length)) (Q := fun y v => CC E st y v) (by simp) hns (fun k y hk => by simp at hk) (fun k y hk => .of_noTok (h2.cells k y hk).1 (h2.cells k y hk).2) k y (by simpa using hk)).ext hE
      exact this))
    refine ⟨_, _, _, hrun, ?_, hS⟩
    have := own_av (E' := E.moveRow r w.drew.heap.size (#[] ++ news ++ Builtin.zeroCells z.cells (grownCap w ns.length 0 e - ns.length)).size) (s := inf.size) (get_set_eq (x := .row e (g + 1) ns.flatten) hst) hG (by simp only [Env.moveRow, if_true]; rw [hgs]; exact Nat.le_refl _)
    simpa [Env.moveRow] using this

/-- What append comes to, its second argument being known. -/
theorem append_core {t tx ty e : TypeId} {inf : TypeInfo} {z : Value} {i : TyInfo} {kd : Kind} {s x : Value} {sv : AV} {ns : List (List Cell)} {news : Array Value} (hW : WS c E st w) (hz1 : z.cells.size = inf.size) (hi1 : inf.size = i.size) (hi2 : inf.bytes = i.bytes)
    (h2 : Arg2 P E w t tx ty e inf z x ns news) (hs : AVC E st sv s)
    (h : (appendTo kd e i ns sv).exec wb callf st = some (av, st')) :
    ∃ y w' E', (Builtin.append_ #[t, tx] ty #[s, x]).run P w = .ok y w' ∧ AVC E' st' av y ∧ Step c E st w E' st' w' := by
  have hnf : ns.flatten.length = ns.length * inf.size := flatten_length ns h2.rows
  have hns : news.size = ns.flatten.length := by rw [hnf]; exact h2.size
  unfold appendTo at h
  split at h
  · -- without spare
    rename_i esz rows
    obtain ⟨A, cap, rfl, hcap, hcp, htok⟩ := hs.slice_inv
    have hc0 : cap = rows.length := htok A _ cap rfl
    subst hc0
    split at h
    · rename_i hcond
      obtain ⟨hesz, hfit⟩ := hcond
      simp only [fits, Bool.and_eq_true, decide_eq_true_eq] at hfit
      obtain ⟨f1, f2⟩ := hfit
      have hesz' : esz = inf.size ∨ rows = [] := by rw [hi1]; exact hesz
      have hrowlen : ∀ (j : Nat) (row : List Cell), rows[j]? = some row → row.length = inf.size := fun j row hj => by
        rcases hesz' with h1 | h1
        · rw [← h1]; exact hcp.rowlen j row hj
        · subst h1; simp at hj
      have hall := rows_append hrowlen h2.rows
      have hof : rows.flatten.length = rows.length * inf.size := flatten_length rows hrowlen
      obtain ⟨us, r1, r2, r3⟩ := pslice_read (P := P) (w := w.drew) (fun b o v hb => hW.hF b o v hb) hcp hesz'
      have hgrow : 0 < ns.length → _ := fun hpos => h2.grow A rows.length rows.length us (r1 _) (by omega) f2 (by rw [hi2]; exact f1)
      have hG := grownCap_ge w (rows.length + ns.length) rows.length e
      have hgs := grown_size (z := z) (inf := inf) (olds := us) (news := news) (len := rows.length) (k := ns.length) (cap := grownCap w (rows.length + ns.length) rows.length e) hz1 r2 h2.size hG
      have hget := grown_get (olds := us) (news := news) (rest := Builtin.zeroCells z.cells (grownCap w (rows.length + ns.length) rows.length e - (rows.length + ns.length))) (oc := rows.flatten) (nc := ns.flatten) (Q := fun x v => CP E.F x v ∧ x.noTok = true)
        (by rw [hof]; exact r2) hns r3 h2.cells
      rw [← List.flatten_append] at hget
      have hWd : WS c E st w.drew := hW.heap rfl
      have htokc : ∀ (h : Plan.exec wb callf st (.new (fun _ => [.tail (rows.length + ns.length) i.size]) fun r => .one (.slice (.tail r) i.size (rows ++ ns))) = some (av, st')),
          ∃ y w' E', (Builtin.append_ #[t, tx] ty #[.slice A rows.length rows.length, x]).run P w = .ok y w' ∧ AVC E' st' av y ∧ Step c E st w E' st' w' := by
        intro h
        obtain ⟨rfl, rfl⟩ := exec_new h
        rcases Nat.eq_zero_or_pos ns.length with h0 | hpos
        · have hn0 : ns = [] := List.eq_nil_of_length_eq_zero h0
          subst hn0
          have hrun : (Builtin.append_ #[t, tx] ty #[.slice A rows.length rows.length, x]).run P w = .ok (.slice A rows.length rows.length) w := by
            cases A with
            | none => simpa using h2.nil rows.length rows.length (by simp)
            | some a =>
              have hz0 : news.toList = [] := List.eq_nil_of_length_eq_zero (by simpa using h2.size)
              simpa using h2.room a rows.length rows.length w (by simp) (by rw [hz0]; simp [storeCells])
          have hS := Step.pushFull hW (rows.length + 0) i.size A
          refine ⟨_, _, _, hrun, ?_, hS⟩
          have := tail_av (E' := E.pushFull st.length A (rows.length + 0)) (st2 := st ++ [.tail (rows.length + 0) i.size]) (r := st.length) (s := i.size) (rows := rows ++ []) (A := A) (cap := rows.length) (by rw [get_push_row (Nat.le_refl _), if_pos rfl]) (by simp) (by simp [Env.pushFull]) (by
            simp only [List.append_nil]
            rcases hesz with h1 | h1
            · rw [← h1]; exact hcp.tok
            · subst h1
              exact .slice _ _ [] A 0 0 _ (fun _ _ => undef) (fun h => absurd rfl h) (by simp) (fun i row h => by simp at h) (fun i j row c h => by simp at h) (fun i j row c h => by simp at h) (fun i j row c h => by simp at h))
          simpa using this
        · have hrun := hgrow hpos
          have hS := (Step.drew hW).trans (Step.pushTail hWd e (rows.length + ns.length) i.size (grownCap w (rows.length + ns.length) rows.length e) (us ++ news ++ Builtin.zeroCells z.cells (grownCap w (rows.length + ns.length) rows.length e - (rows.length + ns.length))) hG (by rw [hgs, hi1]; exact Nat.le_refl _))
          refine ⟨_, _, _, hrun, ?_, hS⟩
          have hl : (rows ++ ns).length = rows.length + ns.length := by simp
          have hfl : (rows ++ ns).flatten.length = (rows.length + ns.length) * i.size := by rw [flatten_length _ hall, hl, hi1]
          have := tail_av (E' := E.pushTail st.length w.drew.heap.size ((rows.length + ns.length) * i.size) (grownCap w (rows.length + ns.length) rows.length e) (us ++ news ++ Builtin.zeroCells z.cells (grownCap w (rows.length + ns.length) rows.length e - (rows.length + ns.length)))) (st2 := st ++ [.tail (rows.length + ns.length) i.size]) (r := st.length) (s := i.size) (rows := rows ++ ns) (A := some ⟨w.heap.size, 0, none⟩) (cap := grownCap w (rows.length + ns.length) rows.length e)
            (by rw [get_push_row (Nat.le_refl _)]; simp) hl.symm (by simp [Env.pushTail]) (slice_cp' _ (fun k => (us ++ news ++ Builtin.zeroCells z.cells (grownCap w (rows.length + ns.length) rows.length e - (rows.length + ns.length))).getD k undef) (fun j row hj => by rw [← hi1]; exact hall j row hj) (fun k y hk => by
              have hlt : k < (rows.length + ns.length) * i.size := by have := (List.getElem?_eq_some_iff.1 hk).1; omega
              have hle : (rows.length + ns.length) * i.size ≤ grownCap w (rows.length + ns.length) rows.length e * i.size := Nat.mul_le_mul_right _ hG
              have hlt2 : k < (us ++ news ++ Builtin.zeroCells z.cells (grownCap w (rows.length + ns.length) rows.length e - (rows.length + ns.length))).size := by rw [hgs, hi1]; omega
              simp only [Env.pushTail, World.size_drew, if_true, Nat.zero_add]
              rw [if_pos hlt, Array.getD_eq_getD_getElem?, Array.getElem?_eq_getElem hlt2]
              rfl) (fun k y hk => ⟨(hget k y hk).1.mono hS.ext.F, (hget k y hk).2⟩) (by rw [hl]; exact hG))
          rw [hl] at this
          exact this
      cases kd with
      | plain => exact htokc h
      | tok => exact htokc h
      | own =>
        cases ns with
        | nil => exact (exec_fail h).elim
        | cons n0 ns' =>
          obtain ⟨rfl, rfl⟩ := exec_new h
          have hrun := hgrow (by simp)
          obtain ⟨E', q1, q2⟩ := newRow_cc hWd (e := e) (A := none) (cells := (rows ++ n0 :: ns').flatten) (cs := us ++ news ++ Builtin.zeroCells z.cells (grownCap w (rows.length + (n0 :: ns').length) rows.length e - (rows.length + (n0 :: ns').length))) (len := rows.length + (n0 :: ns').length) (cap := grownCap w (rows.length + (n0 :: ns').length) rows.length e) (esz := i.size)
            (by rw [flatten_length _ hall, hgs]; exact Nat.mul_le_mul_right _ (by simp only [List.length_append]; exact hG)) (fun k y hk => .of_noTok (hget k y hk).1 (hget k y hk).2) hG (by rw [hgs, hi1]; exact Nat.le_refl _)
          exact ⟨_, _, E', hrun, q1, (Step.drew hW).trans q2⟩
    · exact (exec_fail h).elim
  · -- the longest view of a slice
    rename_i r esz rows
    obtain ⟨A, cap, rfl, hcap, hcp, htok⟩ := hs.slice_inv
    obtain ⟨hr, htok⟩ := htok
    split at h
    · rename_i hcond
      obtain ⟨rfl, hfit⟩ := hcond
      simp only [fits, Bool.and_eq_true, decide_eq_true_eq] at hfit
      obtain ⟨f1, f2⟩ := hfit
      obtain ⟨res, res', hwb, hst, hk, rfl⟩ := exec_wr h
      cases res with
      | tail n s0 =>
        simp only at hk
        split at hk
        · rename_i hn
          obtain ⟨rfl, rfl⟩ := hn
          simp only [Option.some.injEq, Prod.mk.injEq] at hk
          obtain ⟨rfl, rfl⟩ := hk
          have htl : (A, cap) = E.tl r := (htok _ _ hst).2 rfl A _ cap rfl
          obtain ⟨hle, hspare⟩ := hW.tail r _ _ hst
          rw [← htl] at hle hspare
          simp only at hle hspare
          have hrowlen : ∀ (j : Nat) (row : List Cell), rows[j]? = some row → row.length = i.size := hcp.rowlen
          have hall := rows_append hrowlen (fun j row hj => by rw [← hi1]; exact h2.rows j row hj)
          have hof : rows.flatten.length = rows.length * i.size := flatten_length rows hrowlen
          have hl : (rows ++ ns).length = rows.length + ns.length := by simp
          have hfl : (rows ++ ns).flatten.length = (rows.length + ns.length) * i.size := by rw [flatten_length _ hall, hl]
          rcases Nat.eq_zero_or_pos ns.length with h0 | hpos
          · have hn0 : ns = [] := List.eq_nil_of_length_eq_zero h0
            subst hn0
            have hrun : (Builtin.append_ #[t, tx] ty #[.slice A rows.length cap, x]).run P w = .ok (.slice A rows.length cap) w := by
              cases A with
              | none => simpa using h2.nil rows.length cap (by simpa using hcap)
              | some a =>
                have hz0 : news.toList = [] := List.eq_nil_of_length_eq_zero (by simpa using h2.size)
                simpa using h2.room a rows.length cap w (by simpa using hcap) (by rw [hz0]; simp [storeCells])
            refine ⟨_, w, E, hrun, ?_, ?_⟩
            · simp only [List.length_nil, Nat.add_zero, List.append_nil]
              rw [set_same hst]
              exact tail_av hst rfl htl.symm hcp
            · simp only [List.length_nil, Nat.add_zero]
              rw [set_same hst]; exact Step.refl hW
          · by_cases hroom : rows.length + ns.length ≤ cap
            · obtain ⟨b, cs, t', a1, a2, a3, a4⟩ := hspare (by omega)
              subst a1
              have hcapsz : (rows.length + ns.length) * i.size ≤ cap * i.size := Nat.mul_le_mul_right _ hroom
              have hsum : rows.length * i.size + news.toList.length = (rows.length + ns.length) * i.size := by
                rw [Array.length_toList (xs := news), h2.size, hi1, Nat.add_mul]
              have hone := oneCells_of hns h2.cells
              have hstore := run_storeCells_at P b (rows.length * i.size) t' news.toList 0 cs w a2 (by omega) hone
              simp only [Nat.add_zero] at hstore
              have hrun := h2.room ⟨b, 0, none⟩ rows.length cap _ hroom (by rw [add_addr, Nat.zero_add, hi1]; exact hstore)
              have hcs' : (cs.toList.take (rows.length * i.size) ++ news.toList ++ cs.toList.drop (rows.length * i.size + news.toList.length)).toArray.size = cs.size := by
                simp only [List.size_toArray, List.length_append, List.length_take, List.length_drop, Array.length_toList]
                have : news.toList.length = news.size := by simp
                omega
              have hS := Step.growTail hW (n' := rows.length + ns.length) hst htl.symm (by omega) hroom (by omega) cs (cs.toList.take (rows.length * i.size) ++ news.toList ++ cs.toList.drop (rows.length * i.size + news.toList.length)).toArray a2 hcs' a3 (fun o ho => by
                have : o < (cs.toList.take (rows.length * i.size)).length := by simp; omega
                simp only [List.getElem?_toArray]
                rw [List.append_assoc, List.getElem?_append_left this, List.getElem?_take_of_lt ho, Array.getElem?_toList]) a4
              refine ⟨_, _, _, hrun, ?_, hS⟩
              obtain ⟨hfl0, b0, o0, vals, hB, hval⟩ := hcp.flat
              have := tail_av (E' := E.grow b (rows.length * i.size) ((rows.length + ns.length) * i.size) (cs.toList.take (rows.length * i.size) ++ news.toList ++ cs.toList.drop (rows.length * i.size + news.toList.length)).toArray) (st2 := st.set r (.tail (rows.length + ns.length) i.size)) (r := r) (s := i.size) (rows := rows ++ ns) (A := some ⟨b, 0, none⟩) (cap := cap)
                (get_set_eq hst) hl.symm (by simp [Env.grow, ← htl]) (slice_cp' _ (fun k => if k < rows.length * i.size then vals k else news.getD (k - rows.length * i.size) undef) hall (fun k y hk => ?_) (fun k y hk => ?_) (by rw [hl]; exact hroom))
              · rw [hl] at this; exact this
              · have hlt : k < (rows.length + ns.length) * i.size := by have := (List.getElem?_eq_some_iff.1 hk).1; omega
                rw [Nat.zero_add]
                rw [List.flatten_append] at hk
                by_cases hk2 : k < rows.length * i.size
                · rw [List.getElem?_append_left (by omega)] at hk
                  have hq := (hval k y hk).1
                  have hne : rows ≠ [] := fun e => by subst e; simp at hk2
                  have := hB hne
                  simp only [Option.some.injEq, Addr.mk.injEq] at this
                  obtain ⟨rfl, rfl, _⟩ := this
                  rw [Nat.zero_add] at hq
                  rw [if_pos hk2]
                  exact hS.ext.F _ _ _ hq
                · rw [if_neg hk2]
                  simp only [Env.grow]
                  rw [if_pos ⟨trivial, by omega, hlt⟩]
                  have hto : (cs.toList.take (rows.length * i.size)).length = rows.length * i.size := by simp; omega
                  have hlt3 : k - rows.length * i.size < news.toList.length := by omega
                  simp only [List.getElem?_toArray]
                  rw [List.append_assoc, List.getElem?_append_right (by omega), List.getElem?_append_left (by omega), hto, Array.getElem?_toList]
                  have hlt4 : k - rows.length * i.size < news.size := by simpa using hlt3
                  simp [Array.getD_eq_getD_getElem?, hlt4]
              · rw [List.flatten_append] at hk
                by_cases hk2 : k < rows.length * i.size
                · rw [List.getElem?_append_left (by omega)] at hk
                  rw [if_pos hk2]
                  exact ⟨(hval k y hk).2.1.mono hS.ext.F, (hval k y hk).2.2⟩
                · rw [List.getElem?_append_right (by omega), hof] at hk
                  rw [if_neg hk2]
                  exact ⟨(h2.cells _ y hk).1.mono hS.ext.F, (h2.cells _ y hk).2⟩
            · obtain ⟨us, r1, r2, r3⟩ := pslice_read (P := P) (w := w.drew) (s := inf.size) (fun b o v hb => hW.hF b o v hb) hcp (.inl hi1.symm)
              have hrun := h2.grow A rows.length cap us (r1 _) (by omega) f2 (by rw [hi2]; exact f1)
              have hG := grownCap_ge w (rows.length + ns.length) cap e
              have hgs := grown_size (z := z) (inf := inf) (olds := us) (news := news) (len := rows.length) (k := ns.length) (cap := grownCap w (rows.length + ns.length) cap e) hz1 r2 h2.size hG
              have hget := grown_get (olds := us) (news := news) (rest := Builtin.zeroCells z.cells (grownCap w (rows.length + ns.length) cap e - (rows.length + ns.length))) (oc := rows.flatten) (nc := ns.flatten) (Q := fun x v => CP E.F x v ∧ x.noTok = true)
                (by rw [hof, r2, hi1]) hns r3 h2.cells
              rw [← List.flatten_append] at hget
              have hWd : WS c E st w.drew := hW.heap rfl
              have hS := (Step.drew hW).trans (Step.moveTail hWd (t := e) hst (n' := rows.length + ns.length) (cap := grownCap w (rows.length + ns.length) cap e) (by omega) hG (us ++ news ++ Builtin.zeroCells z.cells (grownCap w (rows.length + ns.length) cap e - (rows.length + ns.length))) (by rw [hgs, hi1]; exact Nat.le_refl _))
              refine ⟨_, _, _, hrun, ?_, hS⟩
              have := tail_av (E' := E.moveTail r w.drew.heap.size ((rows.length + ns.length) * i.size) (grownCap w (rows.length + ns.length) cap e) (us ++ news ++ Builtin.zeroCells z.cells (grownCap w (rows.length + ns.length) cap e - (rows.length + ns.length)))) (st2 := st.set r (.tail (rows.length + ns.length) i.size)) (r := r) (s := i.size) (rows := rows ++ ns) (A := some ⟨w.heap.size, 0, none⟩) (cap := grownCap w (rows.length + ns.length) cap e)
                (get_set_eq hst) hl.symm (by simp [Env.moveTail]) (slice_cp' _ (fun k => (us ++ news ++ Builtin.zeroCells z.cells (grownCap w (rows.length + ns.length) cap e - (rows.length + ns.length))).getD k undef) hall (fun k y hk => by
                  have hlt : k < (rows.length + ns.length) * i.size := by have := (List.getElem?_eq_some_iff.1 hk).1; omega
                  have hle : (rows.length + ns.length) * i.size ≤ grownCap w (rows.length + ns.length) cap e * i.size := Nat.mul_le_mul_right _ hG
                  have hlt2 : k < (us ++ news ++ Builtin.zeroCells z.cells (grownCap w (rows.length + ns.length) cap e - (rows.length + ns.length))).size := by rw [hgs, hi1]; omega
                  simp only [Env.moveTail, World.size_drew, if_true, Nat.zero_add]
                  rw [if_pos hlt, Array.getD_eq_getD_getElem?, Array.getElem?_eq_getElem hlt2]
                  rfl) (fun k y hk => ⟨(hget k y hk).1.mono hS.ext.F, (hget k y hk).2⟩) (by rw [hl]; exact hG))
              rw [hl] at this
              exact this
        · exact absurd hk (by simp)
      | _ => exact absurd hk (by simp)
    · exact (exec_fail h).elim
  · rename_i r g esz cp off len
    split at h
    · rename_i hcond
      obtain ⟨rfl, rfl, rfl, hfit⟩ := hcond
      simp only [fits, Bool.and_eq_true, decide_eq_true_eq] at hfit
      obtain ⟨f1, f2⟩ := hfit
      obtain ⟨res, res', hwb, hst, hk, rfl⟩ := exec_wr h
      cases res with
      | row t' g' cells =>
        simp only at hk
        split at hk
        · rename_i hg
          obtain ⟨rfl, rfl, hlen⟩ := hg
          simp only [Option.some.injEq, Prod.mk.injEq] at hk
          obtain ⟨rfl, rfl⟩ := hk
          rw [← hi1] at hs hlen ⊢
          exact append_own hW hz1 h2 hs hst hlen (by rw [hi2]; exact f1) f2
        · exact absurd hk (by simp)
      | nrow t' g' =>
        simp only at hk
        split at hk
        · rename_i hg
          obtain ⟨rfl, rfl, rfl⟩ := hg
          rw [Nat.zero_add] at f1 f2
          rw [← hi1] at hs hk
          obtain ⟨n1, n2⟩ := append_nrow hW hz1 h2 hs hst (by rw [hi2]; exact f1) f2
          split at hk
          · simp only [Option.some.injEq, Prod.mk.injEq] at hk
            obtain ⟨rfl, rfl⟩ := hk
            obtain ⟨y, y1, y2⟩ := n1 rfl
            exact ⟨y, w, E, y1, by rw [set_same hst]; exact y2, by rw [set_same hst]; exact Step.refl hW⟩
          · simp only [Option.some.injEq, Prod.mk.injEq] at hk
            obtain ⟨rfl, rfl⟩ := hk
            exact n2 (by simp)
        · exact absurd hk (by simp)
      | _ => exact absurd hk (by simp)
    · exact (exec_fail h).elim
  · exact (exec_fail h).elim

theorem append_types (t tx ty : TypeId) (rest : List TypeId) (args : Array Value) : Builtin.append_ (t :: tx :: rest).toArray ty args = Builtin.append_ #[t, tx] ty args := by
  unfold Builtin.append_
  simp

theorem appendPlan_sound {kd : Kind} {t ty : TypeId} {ts : List TypeId} {sv xv : AV} {s x : Value} (hty : ∀ t i, c.ty t = some i → TyOK P t i) (hW : WS c E st w) (hs : AVC E st sv s) (hx : AVC E st xv x)
    (h : (appendPlan c kd t ts.head? sv xv).exec wb callf st = some (av, st')) : ∃ y w' E', (Builtin.append_ (t :: ts).toArray ty #[s, x]).run P w = .ok y w' ∧ AVC E' st' av y ∧ Step c E st w E' st' w' := by
  unfold appendPlan at h
  split at h
  · rename_i e _ _ _ _ hc
    obtain ⟨d, hd, hk⟩ := (hty _ _ hc).desc
    simp only [descOK] at hk; subst hk
    split at h
    · rename_i i hce
      have ht := hty e i hce
      obtain ⟨inf, z, h1, h2, h3, h4, h5, h6, h7, _⟩ := ht.info
      cases ts with
      | nil =>
        have hn : appendNews c i ([] : List TypeId).head? xv = none := by simp [appendNews]
        rw [hn] at h
        exact (exec_fail h).elim
      | cons tx rest =>
        simp only [List.head?_cons, Option.bind_some] at h
        rw [append_types]
        generalize hnews : appendNews c i (some tx) xv = news at h
        cases news with
        | none => exact (exec_fail h).elim
        | some ns =>
          have key : ∃ nw, Arg2 P E w t tx ty e inf z x ns nw := by
            unfold appendNews at hnews
            simp only [Option.bind_some] at hnews
            split at hnews
            · rename_i k2 _ _ _ _ k n hcx
              have := hx.int_inv; subst this
              obtain ⟨d2, hd2, hk2⟩ := (hty _ _ hcx).desc
              simp only [descOK] at hk2; subst hk2
              split at hnews
              · rename_i hb
                obtain ⟨zc, hzc, rfl⟩ := Option.map_eq_some_iff.1 hnews
                have e0 : ((n.toNat : Nat) : Int) = n := by omega
                have := arg2_zeros (E := E) (w := w) (ty := ty) (k := k) (i := i) (n := n.toNat) hd h1 h4 hd2 (by omega) (by omega) (fun E st j x hx => zeroMatch_cc (h7 j x hx)) hzc (by omega) (by
                  rw [h3]
                  have : (((n.toNat * i.bytes : Nat)) : Int) ≤ 140737488355328 := by rw [Int.natCast_mul, e0]; exact hb.2.1
                  omega)
                rw [e0] at this
                exact ⟨_, this⟩
              · simp at hnews
            · rename_i hcx
              obtain ⟨d2, hd2, hk2⟩ := (hty _ _ hcx).desc
              simp only [descOK] at hk2; subst hk2
              obtain ⟨B, capB, rfl, hcap, hcp, _⟩ := hx.slice_inv
              split at hnews
              · rename_i he
                simp only [Option.some.injEq] at hnews; subst hnews
                exact arg2_slice hW hd h1 h4 hd2 hcp (by rw [h2]; exact he)
              · simp at hnews
            · simp at hnews
          obtain ⟨nw, ha⟩ := key
          exact append_core hW (by omega) h2 h3 ha hs h
    · exact (exec_fail h).elim
  · exact (exec_fail h).elim

end Go.AI
