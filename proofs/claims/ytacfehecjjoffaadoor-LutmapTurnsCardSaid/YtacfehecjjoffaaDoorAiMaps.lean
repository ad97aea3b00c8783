/- Maps. -/
import Derived.Test.YtacfehecjjoffaaDoorAiAppend2
set_option linter.unusedVariables false
set_option linter.unusedSimpArgs false
namespace Go.AI
open Go Go.MapKept

variable {P : Program} {c : Cfg} {E : Env} {st : St} {w : World} {wb : Nat} {callf : FuncId → List AV → St → Option (AV × St)} {av : AV} {st' : St}

theorem keyOf_inv {kt : TypeId} {x : AV} {key : Cell} {v : Value} (hty : ∀ t i, c.ty t = some i → TyOK P t i) (hx : AVC E st x v) (h : keyOf c kt x = some key) :
    ∃ d, P.underlying kt = some d ∧ IsKey d v ∧ CP E.F key v ∧ x = .one key ∧
      ∀ e m, keyOf c kt (.one e) = some e → CP E.F e m → (sameKey key e = true → Instr.sameNow d v m = some true ∧ m = v) ∧ (sameKey key e = false → Instr.sameNow d v m = some false) := by
  unfold keyOf at h
  split at h
  · rename_i k _ _ _ _ k' n hc
    have := hx.int_inv; subst this
    split at h
    · rename_i hk
      subst hk
      simp only [Option.some.injEq] at h; subst h
      obtain ⟨d, hd, hk⟩ := (hty _ _ hc).desc
      simp only [descOK] at hk; subst hk
      refine ⟨_, hd, by simp [IsKey], .int _ _, rfl, fun e m he hm => ?_⟩
      unfold keyOf at he
      rw [hc] at he
      split at he
      · rename_i k2 _ _ _ _ k3 n2 hc2 hx2
        simp only [AV.one.injEq] at hx2; subst hx2
        split at he
        · rename_i hk2
          simp only [Option.some.injEq, TyInfo.mk.injEq, Ty.int.injEq] at hc2
          obtain ⟨rfl, _⟩ := hc2
          subst hk2
          cases hm
          simp only [sameKey, Instr.sameNow, if_true]
          refine ⟨fun hh => ⟨by rw [hh], ?_⟩, fun hh => by rw [hh]⟩
          simp only [beq_iff_eq] at hh; rw [hh]
        · simp at he
      · rename_i hc2 _; simp at hc2
      · rename_i hc2 _; simp at hc2
      · simp at he
    · simp at h
  · rename_i hc
    have := hx.bool_inv; subst this
    simp only [Option.some.injEq] at h; subst h
    obtain ⟨d, hd, hk⟩ := (hty _ _ hc).desc
    simp only [descOK] at hk; subst hk
    refine ⟨_, hd, by simp [IsKey], .bool _, rfl, fun e m he hm => ?_⟩
    unfold keyOf at he
    rw [hc] at he
    split at he
    · rename_i hc2 _; simp at hc2
    · rename_i hx2
      simp only [AV.one.injEq] at hx2; subst hx2
      cases hm
      simp only [sameKey, Instr.sameNow]
      refine ⟨fun hh => ⟨by rw [hh], ?_⟩, fun hh => by rw [hh]⟩
      simp only [beq_iff_eq] at hh; rw [hh]
    · rename_i hc2 _; simp at hc2
    · simp at he
  · rename_i hc
    have := hx.str_inv; subst this
    simp only [Option.some.injEq] at h; subst h
    obtain ⟨d, hd, hk⟩ := (hty _ _ hc).desc
    simp only [descOK] at hk; subst hk
    refine ⟨_, hd, by simp [IsKey], .str _, rfl, fun e m he hm => ?_⟩
    unfold keyOf at he
    rw [hc] at he
    split at he
    · rename_i hc2 _; simp at hc2
    · rename_i hc2 _; simp at hc2
    · rename_i hx2
      simp only [AV.one.injEq] at hx2; subst hx2
      cases hm
      simp only [sameKey, Instr.sameNow]
      refine ⟨fun hh => ⟨by rw [hh], ?_⟩, fun hh => by rw [hh]⟩
      rw [bytes_beq] at hh; rw [hh]
    · simp at he
  · simp at h

theorem find_sound {kt : TypeId} {key : Cell} {v : Value} {d : TypeDesc} (hk : ∀ e m, keyOf c kt (.one e) = some e → CP E.F e m → (sameKey key e = true → Instr.sameNow d v m = some true ∧ m = v) ∧ (sameKey key e = false → Instr.sameNow d v m = some false)) :
    ∀ (es : List (Cell × List Cell)) (l : List MapEntry) (i0 : Nat), l.length = es.length → (∀ (i : Nat) (e : Cell × List Cell), es[i]? = some e → ∃ m, l[i]? = some m ∧ keyOf c kt (.one e.1) = some e.1 ∧ CP E.F e.1 m.key) →
      (mapFind key es = none ∧ Instr.findNow d v l i0 = some none ∧ (∀ x, mapPut key x es = es ++ [(key, x)]) ∧ mapDel key es = es) ∨
      ∃ (j : Nat) (e : Cell × List Cell) (m : MapEntry), mapFind key es = some e.2 ∧ es[j]? = some e ∧ l[j]? = some m ∧ Instr.findNow d v l i0 = some (some (i0 + j, m.val)) ∧ m.key = v ∧ (∀ x, mapPut key x es = es.set j (key, x)) ∧ mapDel key es = es.eraseIdx j
  | [], l, i0, hl, _ => by
    have : l = [] := List.eq_nil_of_length_eq_zero (by simpa using hl)
    subst this
    exact .inl ⟨rfl, rfl, fun x => rfl, rfl⟩
  | e :: es, [], i0, hl, _ => by simp at hl
  | e :: es, m :: l, i0, hl, h => by
    obtain ⟨m', h1, h2, h3⟩ := h 0 e (by simp)
    simp only [List.getElem?_cons_zero, Option.some.injEq] at h1; subst h1
    obtain ⟨a1, a2⟩ := hk e.1 m.key h2 h3
    cases hs : sameKey key e.1 with
    | true =>
      obtain ⟨b1, b2⟩ := a1 hs
      exact .inr ⟨0, e, m, by simp [mapFind, hs], by simp, by simp, by simp [Instr.findNow, b1], b2, fun x => by simp [mapPut, hs], by simp [mapDel, hs]⟩
    | false =>
      have b1 := a2 hs
      rcases find_sound hk es l (i0 + 1) (by simpa using hl) (fun i e' hi => by simpa using h (i + 1) e' (by simpa using hi)) with ⟨c1, c2, c3, c4⟩ | ⟨j, e', m', c1, c2, c3, c4, c5, c6, c7⟩
      · exact .inl ⟨by simp [mapFind, hs, c1], by simp [Instr.findNow, b1, c2], fun x => by simp [mapPut, hs, c3], by simp [mapDel, hs, c4]⟩
      · exact .inr ⟨j + 1, e', m', by simp [mapFind, hs, c1], by simpa using c2, by simpa using c3, by simp [Instr.findNow, b1, c4]; omega, c5, fun x => by simp [mapPut, hs, c6], by simp [mapDel, hs, c7]⟩

theorem avOf_zero {e : TypeId} {i : TyInfo} {a : AV} {z : Value} (hty : ∀ t i, c.ty t = some i → TyOK P t i) (hc : c.ty e = some i) (hz : ∀ w, (zeroValue e).run P w = .ok z w) (h : avOf c e i.zero = some a) : AVC E st a z := by
  have ht := hty e i hc
  obtain ⟨info, z', h1, h2, h3, h4, h5, h6, h7, h8, h9⟩ := ht.info
  have hz' : (zeroValue e).run P default = .ok z' default := by simp [zeroValue, typeInfo, h1, h4]
  have hzz := hz default
  rw [hz'] at hzz
  injection hzz with hzz _
  subst hzz
  have hzc : ∀ (j : Nat) (x : Cell), i.zero[j]? = some x → CC E st x (z'.cells.getD j undef) := fun j x hx => zeroMatch_cc (h7 j x hx)
  unfold avOf Cfg.isAgg at h
  rw [hc] at h
  simp only [Option.map_some] at h
  cases hq : aggTy i.ty with
  | true =>
    have h : some (AV.agg i.zero) = some a := by
      cases hi : i.ty <;> rw [hi] at hq h <;> first | (simp [aggTy] at hq; done) | exact h
    simp only [Option.some.injEq] at h; subst h
    obtain ⟨cs, rfl⟩ := h8 hq
    exact .agg _ _ h5 hzc
  | false =>
    have h : (match i.zero with | [x] => some (AV.one x) | _ => none) = some a := by
      cases hi : i.ty <;> rw [hi] at hq h <;> first | (simp [aggTy] at hq; done) | exact h
    split at h
    · rename_i x hx
      simp only [Option.some.injEq] at h; subst h
      have := hzc 0 x (by rw [hx]; simp)
      have hone := h9 hq
      rw [cells_of_oneCell hone] at this
      exact .one _ _ this
    · simp at h

theorem lookup_sound {t : TypeId} {m k : AV} {mv kv : Value} {ok : Bool} (hty : ∀ t i, c.ty t = some i → TyOK P t i) (hW : WS c E st w) (hm : AVC E st m mv) (hk : AVC E st k kv) (h : (lookupPlan c t m k ok).exec wb callf st = some (av, st')) :
    st' = st ∧ ∃ y, (Instr.lookup t mv kv ok).run P w = .ok y w ∧ AVC E st av y := by
  unfold lookupPlan at h
  split at h
  · rename_i kt e _ _ _ _ r hc
    obtain ⟨d, hd, hkk⟩ := (hty _ _ hc).desc
    simp only [descOK] at hkk; subst hkk
    obtain ⟨mm, rfl, hr, hloc⟩ := hm.map_inv
    split at h
    · rename_i key i hkey hce
      obtain ⟨dk, hdk, hisk, hcp, rfl, hsame⟩ := keyOf_inv hty hk hkey
      obtain ⟨z, hz, z1, z2, z3⟩ := zero_run (hty _ _ hce)
      obtain ⟨res, hst, hk2, rfl⟩ := exec_rd h
      cases res with
      | map kt' et' es =>
        simp only at hk2
        split at hk2
        · rename_i hh
          obtain ⟨rfl, rfl⟩ := hh
          have := hloc _ _ _ hst
          subst this
          obtain ⟨ms, clock, b1, b2, b3⟩ := hW.map r _ _ es hst
          have hobj := MapKept.run_getObj_map (P := P) b1
          have hck := run_checkKey (P := P) (w := w) hdk hisk ms.isEmpty 9999
          refine ⟨rfl, ?_⟩
          rcases find_sound (E := E) hsame es ms.toList 0 (by simpa using b2) (fun i e' hi => by
            obtain ⟨m, q1, q2, q3, _⟩ := b3 i e' hi
            exact ⟨m, by simpa using q1, q2, q3⟩) with ⟨c1, c2, _, _⟩ | ⟨j, e', m', c1, c2, c3, c4, c5, _, _⟩
          · rw [c1] at hk2
            simp only at hk2
            obtain ⟨a, ha, rfl⟩ := Option.map_eq_some_iff.1 hk2
            have hf := run_findKey (P := P) (w := w) hdk c2
            have hza := avOf_zero (E := E) (st := st') hty hce hz ha
            cases ok with
            | true =>
              exact ⟨.tuple #[z, .bool false], by simp [Instr.lookup, run_underlying hd, hobj, hck, hf, hz], .tup _ _ rfl (fun i x hi => by
                match i, hi with
                | 0, hi => simp at hi; subst hi; exact hza
                | 1, hi => simp at hi; subst hi; exact bool_cc _ _ _
                | i + 2, hi => simp at hi)⟩
            | false => exact ⟨z, by simp [Instr.lookup, run_underlying hd, hobj, hck, hf, hz], by simpa using hza⟩
          · rw [c1] at hk2
            simp only at hk2
            obtain ⟨a, ha, rfl⟩ := Option.map_eq_some_iff.1 hk2
            have hf := run_findKey (P := P) (w := w) hdk c4
            obtain ⟨m2, q1, q2, q3, a2, q4, q5⟩ := b3 j e' c2
            have : m2 = m' := by
              rw [Array.getElem?_toList] at c3
              rw [c3] at q1; simpa using q1.symm
            subst this
            rw [ha] at q4
            simp only [Option.some.injEq] at q4; subst q4
            cases ok with
            | true =>
              exact ⟨.tuple #[m2.val, .bool true], by simp [Instr.lookup, run_underlying hd, hobj, hck, hf], .tup _ _ rfl (fun i x hi => by
                match i, hi with
                | 0, hi => simp at hi; subst hi; exact q5
                | 1, hi => simp at hi; subst hi; exact bool_cc _ _ _
                | i + 2, hi => simp at hi)⟩
            | false => exact ⟨m2.val, by simp [Instr.lookup, run_underlying hd, hobj, hck, hf], by simpa using q5⟩
        · exact absurd hk2 (by simp)
      | _ => exact absurd hk2 (by simp)
    · exact (exec_fail h).elim
  · exact (exec_fail h).elim

theorem map_ext {r kt et : Nat} {es es' : List (Cell × List Cell)} (hst : st[r]? = some (.map kt et es)) : Ext w.heap.size (live E st) E st E (st.set r (.map kt et es')) :=
  Ext.updated _ hst (Fz.le_refl _) (fun _ _ _ _ => rfl) (fun _ _ => ⟨rfl, rfl, rfl⟩) ⟨es', rfl, rfl⟩ (fun b hb2 => .inr ⟨r, by
    simp only [blk, get_set_eq hst] at hb2; simp only [blk, hst]; exact hb2⟩)

theorem sameShape_sound {e : TypeId} {v : AV} {vs : List Cell} {u : Value} (hv : v.cells = some vs) (h : sameShape v (avOf c e vs) = true) (hu : AVC E st v u) : ∃ av, avOf c e vs = some av ∧ AVC E st av u := by
  cases v with
  | any => simp [AV.cells] at hv
  | tup _ => simp [AV.cells] at hv
  | one x =>
    simp [AV.cells] at hv; subst hv
    unfold sameShape at h
    split at h
    · rename_i y hy heq
      refine ⟨_, heq, ?_⟩
      unfold avOf at heq
      split at heq
      · simp at heq
      · simp only [Option.some.injEq, AV.one.injEq] at heq
        subst heq
        simp only [AV.one.injEq] at hy
        exact hu
      · simp at heq
    · rename_i hx _; simp at hx
    · simp at h
  | agg cs =>
    simp [AV.cells] at hv; subst hv
    unfold sameShape at h
    split at h
    · rename_i hx _; simp at hx
    · rename_i y hy heq
      refine ⟨_, heq, ?_⟩
      unfold avOf at heq
      split at heq
      · simp only [Option.some.injEq, AV.agg.injEq] at heq
        subst heq
        exact hu
      · split at heq <;> simp at heq
      · simp at heq
    · simp at h

theorem update_sound {t : TypeId} {m k v : AV} {mv kv vv : Value} (hty : ∀ t i, c.ty t = some i → TyOK P t i) (hW : WS c E st w) (hm : AVC E st m mv) (hk : AVC E st k kv) (hv : AVC E st v vv) (h : (updatePlan c t m k v).exec wb callf st = some (av, st')) :
    av = .any ∧ ∃ w' E', (Instr.mapUpdate t mv kv vv).run P w = .ok () w' ∧ Step c E st w E' st' w' := by
  unfold updatePlan at h
  split at h
  · rename_i kt e _ _ _ _ r hc
    obtain ⟨d, hd, hkk⟩ := (hty _ _ hc).desc
    simp only [descOK] at hkk; subst hkk
    obtain ⟨mm, rfl, hr, hloc⟩ := hm.map_inv
    split at h
    · rename_i key vs n hkey hvs hn
      have hkey0 := hkey
      obtain ⟨dk, hdk, hisk, hcp, rfl, hsame⟩ := keyOf_inv hty hk hkey
      split at h
      · rename_i hcond
        obtain ⟨hlen, hshape⟩ := hcond
        obtain ⟨res, res', hwb, hst, hk2, rfl⟩ := exec_wr h
        cases res with
        | map kt' et' es =>
          simp only at hk2
          split at hk2
          · rename_i hh
            obtain ⟨rfl, rfl⟩ := hh
            simp only [Option.some.injEq, Prod.mk.injEq] at hk2
            obtain ⟨rfl, rfl⟩ := hk2
            have := hloc _ _ _ hst
            subst this
            obtain ⟨ms, clock, b1, b2, b3⟩ := hW.map r _ _ es hst
            have hobj := MapKept.run_getObj_map (P := P) b1
            have hck := run_checkKey (P := P) (w := w) hdk hisk false 9999
            obtain ⟨a, ha1, ha2⟩ := sameShape_sound hvs hshape hv
            refine ⟨rfl, ?_⟩
            rcases find_sound (E := E) hsame es ms.toList 0 (by simpa using b2) (fun i e' hi => by
              obtain ⟨m, q1, q2, q3, _⟩ := b3 i e' hi
              exact ⟨m, by simpa using q1, q2, q3⟩) with ⟨c1, c2, c3, _⟩ | ⟨j, e', m', c1, c2, c3, c4, c5, c6, _⟩
            · have hf := run_findKey (P := P) (w := w) hdk c2
              rw [c3]
              have hset := MapKept.run_setObj_map (P := P) (o := .map (ms.push { key := kv, val := vv, born := clock }) (clock + 1)) b1
              refine ⟨{ w with heap := w.heap.setIfInBounds (E.loc r) (.map (ms.push { key := kv, val := vv, born := clock }) (clock + 1)) }, E, by simp only [Instr.mapUpdate, Sem.run_bind, run_underlying hd, Result.andThen_ok, hobj, hck, hf, hset], ?_⟩
              have he := map_ext (E := E) (w := w) (es' := es ++ [(key, vs)]) hst
              refine Step.setMap hW hst (es ++ [(key, vs)]) _ _ (by simp [b2]) (fun i e' hi => ?_)
              by_cases hlt : i < es.length
              · rw [List.getElem?_append_left hlt] at hi
                obtain ⟨m, q1, q2, q3, a', q4, q5⟩ := b3 i e' hi
                refine ⟨m, ?_, q2, q3, a', q4, q5.ext he⟩
                rw [Array.getElem?_push, if_neg (by omega)]; exact q1
              · rw [List.getElem?_append_right (by omega)] at hi
                have h0 : i - es.length = 0 := by
                  have := (List.getElem?_eq_some_iff.1 hi).1
                  simp at this; omega
                rw [h0] at hi
                simp only [List.getElem?_cons_zero, Option.some.injEq] at hi; subst hi
                exact ⟨_, by rw [Array.getElem?_push, if_pos (by omega)], hkey, hcp, a, ha1, ha2.ext he⟩
            · have hf := run_findKey (P := P) (w := w) hdk c4
              rw [c6]
              rw [Array.getElem?_toList] at c3
              have hstay : (Instr.keyThatStays (((ms[j]?).map (·.key)).getD kv) kv).run P w = .ok kv w := by
                rw [c3]; simp only [Option.map_some, Option.getD_some, c5]
                exact run_keyThatStays hisk
              have hset := MapKept.run_setObj_map (P := P) (o := .map (ms.modify j fun e => { e with key := kv, val := vv }) clock) b1
              refine ⟨{ w with heap := w.heap.setIfInBounds (E.loc r) (.map (ms.modify j fun e => { e with key := kv, val := vv }) clock) }, E, by simp only [Instr.mapUpdate, Sem.run_bind, run_underlying hd, Result.andThen_ok, hobj, hck, hf, Nat.zero_add, hstay, hset], ?_⟩
              have he := map_ext (E := E) (w := w) (es' := es.set j (key, vs)) hst
              refine Step.setMap hW hst (es.set j (key, vs)) _ _ (by simp [b2]) (fun i e2 hi => ?_)
              by_cases hij : i = j
              · subst hij
                rw [List.getElem?_set] at hi
                have hlt : i < es.length := (List.getElem?_eq_some_iff.1 c2).1
                simp only [if_true, hlt, Option.some.injEq] at hi
                subst hi
                exact ⟨{ m' with key := kv, val := vv }, by simp [Array.getElem?_modify, c3], hkey, hcp, a, ha1, ha2.ext he⟩
              · rw [List.getElem?_set, if_neg (Ne.symm hij)] at hi
                obtain ⟨m, q1, q2, q3, a', q4, q5⟩ := b3 i e2 hi
                exact ⟨m, by rw [Array.getElem?_modify, if_neg (Ne.symm hij)]; exact q1, q2, q3, a', q4, q5.ext he⟩
          · exact absurd hk2 (by simp)
        | _ => exact absurd hk2 (by simp)
      · exact (exec_fail h).elim
    · exact (exec_fail h).elim
  · exact (exec_fail h).elim

theorem delete_sound {t ty : TypeId} {ts : Array TypeId} {m k : AV} {mv kv : Value} (hty : ∀ t i, c.ty t = some i → TyOK P t i) (hW : WS c E st w) (hm : AVC E st m mv) (hk : AVC E st k kv) (hts : ts[0]? = some t) (h : (deletePlan c t m k).exec wb callf st = some (av, st')) :
    ∃ z w' E', (Builtin.delete_ ts ty #[mv, kv]).run P w = .ok z w' ∧ AVC E' st' av z ∧ Step c E st w E' st' w' := by
  unfold deletePlan at h
  split at h
  · rename_i kt e _ _ _ _ r hc
    obtain ⟨d, hd, hkk⟩ := (hty _ _ hc).desc
    simp only [descOK] at hkk; subst hkk
    obtain ⟨mm, rfl, hr, hloc⟩ := hm.map_inv
    split at h
    · rename_i key hkey
      obtain ⟨dk, hdk, hisk, hcp, rfl, hsame⟩ := keyOf_inv hty hk hkey
      obtain ⟨res, res', hwb, hst, hk2, rfl⟩ := exec_wr h
      cases res with
      | map kt' et' es =>
        simp only at hk2
        split at hk2
        · rename_i hh
          subst hh
          simp only [Option.some.injEq, Prod.mk.injEq] at hk2
          obtain ⟨rfl, rfl⟩ := hk2
          have := hloc _ _ _ hst
          subst this
          obtain ⟨ms, clock, b1, b2, b3⟩ := hW.map r _ _ es hst
          have hobj := MapKept.run_getObj_map (P := P) b1
          have hck := run_checkKey (P := P) (w := w) hdk hisk ms.isEmpty 9999
          rcases find_sound (E := E) hsame es ms.toList 0 (by simpa using b2) (fun i e' hi => by
            obtain ⟨m, q1, q2, q3, _⟩ := b3 i e' hi
            exact ⟨m, by simpa using q1, q2, q3⟩) with ⟨c1, c2, _, c3⟩ | ⟨j, e', m', c1, c2, c3, c4, c5, _, c6⟩
          · have hf := run_findKey (P := P) (w := w) hdk c2
            rw [c3]
            have hset := MapKept.run_setObj_map (P := P) (o := .map ms clock) b1
            refine ⟨.tuple #[], { w with heap := w.heap.setIfInBounds (E.loc r) (.map ms clock) }, E, by simp only [Builtin.delete_, hts, List.getElem?_toArray, List.getElem?_cons_zero, List.getElem?_cons_succ, Sem.run_bind, run_underlying hd, Result.andThen_ok, hobj, hck, hf, hset, Sem.run_pure], .tup [] #[] rfl (fun i x hi => by simp at hi), ?_⟩
            have he := map_ext (E := E) (w := w) (es' := es) hst
            refine Step.setMap hW hst es _ _ b2 (fun i e' hi => ?_)
            obtain ⟨m, q1, q2, q3, a', q4, q5⟩ := b3 i e' hi
            exact ⟨m, q1, q2, q3, a', q4, q5.ext he⟩
          · have hf := run_findKey (P := P) (w := w) hdk c4
            rw [c6]
            have hset := MapKept.run_setObj_map (P := P) (o := .map (ms.eraseIdxIfInBounds j) clock) b1
            have hlt : j < ms.size := by
              have := (List.getElem?_eq_some_iff.1 c3).1; simpa using this
            refine ⟨.tuple #[], { w with heap := w.heap.setIfInBounds (E.loc r) (.map (ms.eraseIdxIfInBounds j) clock) }, E, by simp only [Builtin.delete_, hts, List.getElem?_toArray, List.getElem?_cons_zero, List.getElem?_cons_succ, Sem.run_bind, run_underlying hd, Result.andThen_ok, hobj, hck, hf, Nat.zero_add, hset, Sem.run_pure], .tup [] #[] rfl (fun i x hi => by simp at hi), ?_⟩
            have he := map_ext (E := E) (w := w) (es' := es.eraseIdx j) hst
            have hms : ms.eraseIdxIfInBounds j = (ms.toList.eraseIdx j).toArray := by
              apply Array.ext'
              unfold Array.eraseIdxIfInBounds
              rw [dif_pos hlt, Array.toList_eraseIdx]
            rw [hms]
            refine Step.setMap hW hst (es.eraseIdx j) _ _ (by simp [List.length_eraseIdx, b2]) (fun i e2 hi => ?_)
            rw [List.getElem?_eraseIdx] at hi
            by_cases hij : i < j
            · rw [if_pos hij] at hi
              obtain ⟨m, q1, q2, q3, a', q4, q5⟩ := b3 i e2 hi
              exact ⟨m, by simp [List.getElem?_eraseIdx, hij, q1], q2, q3, a', q4, q5.ext he⟩
            · rw [if_neg hij] at hi
              obtain ⟨m, q1, q2, q3, a', q4, q5⟩ := b3 (i + 1) e2 hi
              exact ⟨m, by simp [List.getElem?_eraseIdx, hij, q1], q2, q3, a', q4, q5.ext he⟩
        · exact absurd hk2 (by simp)
      | _ => exact absurd hk2 (by simp)
    · exact (exec_fail h).elim
  · exact (exec_fail h).elim

end Go.AI
