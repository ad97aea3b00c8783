/- The abstract interpreter's runs are the program's. -/
import Derived.Test.YtacfehecjjoffaaDoorAiRun
set_option linter.unusedVariables false
set_option linter.unusedSimpArgs false
namespace Go.AI
open Go

def Ex.toExit : Ex → Exit
  | .normal => .normal
  | .exit id => .exit id
  | .ret => .ret

/-- From the middle of a loop: the body, then the loop anew. -/
def wpIn (P : Program) (body : Code) (Q : Exit → Act → World → Prop) (a : Act) (w : World) : Prop :=
  ∀ (b : Frame) (k : List Item) (cs : List Frame), ∃ e a' w', Q e a' w' ∧ Arrives P (lone (b.at a (.code body :: .inLoop body :: k)) cs w) b k cs e a' w'

theorem wpIn_step {P : Program} {body : Code} {Q : Exit → Act → World → Prop} {a : Act} {w : World} (h : body.wp P (Exit.then (wpIn P body Q) Q) a w) : wpIn P body Q a w := by
  intro b k cs
  obtain ⟨e, a₁, w₁, hq, harr⟩ := h b (.inLoop body :: k) cs
  cases e with
  | normal =>
    obtain ⟨e₂, a₂, w₂, hq₂, harr₂⟩ := hq b k cs
    exact ⟨e₂, a₂, w₂, hq₂, .of_steps (Steps.trans harr (.one step_inLoop)) harr₂⟩
  | exit id => exact ⟨_, a₁, w₁, hq, .pass (x := .inLoop body) rfl (fun _ _ => .inl (by simp)) harr⟩
  | goto l => exact ⟨_, a₁, w₁, hq, .pass (x := .inLoop body) rfl (fun _ _ => .inl (by simp)) harr⟩
  | ret => exact ⟨_, a₁, w₁, hq, .pass (x := .inLoop body) rfl (fun _ _ => .inl (by simp)) harr⟩
  | panic ch => exact ⟨_, a₁, w₁, hq, .pass (x := .inLoop body) rfl (fun _ _ => .inl (by simp)) harr⟩
  | outgrown => exact ⟨_, a₁, w₁, hq, .pass (x := .inLoop body) rfl (fun _ _ => .inl (by simp)) harr⟩
theorem wp_loop_in {P : Program} {body : Code} {Q : Exit → Act → World → Prop} {a : Act} {w : World} (h : wpIn P body Q a w) : (Code.loop body).wp P Q a w := by
  intro b k cs
  obtain ⟨e, a', w', hq, harr⟩ := h b k cs
  exact ⟨e, a', w', hq, .of_steps (.one step_loop) harr⟩

structure RecOK (P : Program) (c : Cfg) (rec : Task → Option Out) : Prop where
  code : ∀ f wb code fr st e fr' st', rec (.code f wb code fr st) = some (.code e fr' st') → drawsOK code = true → ∀ E w a Q, Here c (c.ntmps f) E st w fr a →
    (∀ a' w' E', Step c E st w E' st' w' → Here c (c.ntmps f) E' st' w' fr' a' → Q e.toExit a' w') → code.wp P Q a w
  loop : ∀ f wb body fr st e fr' st', rec (.code f wb (.loop body) fr st) = some (.code e fr' st') → drawsOK body = true → ∀ E w a Q, Here c (c.ntmps f) E st w fr a →
    (∀ a' w' E', Step c E st w E' st' w' → Here c (c.ntmps f) E' st' w' fr' a' → Q e.toExit a' w') → wpIn P body Q a w
  call : ∀ f wb args st v st', rec (.call f wb args st) = some (.call v st') → ∀ E w vals, WS c E st w → ArgsC E st args vals → FnRuns P f vals w fun x w' => ∃ E', AVC E' st' v x ∧ Step c E st w E' st' w'

variable {P : Program} {c : Cfg} {E : Env} {st : St} {w : World} {wb n : Nat} {a : Act} {st' : St}

/-! results -/
theorem loadVar_run {t : TypeId} {x : AV} {v : Value} {r : Nat} {k : Res → Option AV} {res : Res} {av : AV} (hty : ∀ t i, c.ty t = some i → TyOK P t i) (hW : WS c E st w) (hx : AVC E st x v) (hp : loadPlan c t x = .rd r k) (hr : st[r]? = some res) (hk : k res = some av) :
    ∃ y, (do loadVar t (← asAddr v) : Sem Value).run P w = .ok y w ∧ AVC E st av y := by
  have he : (loadPlan c t x).exec 0 (fun _ _ _ => none) st = some (av, st) := by rw [hp]; simp [Plan.exec, hr, hk]
  obtain ⟨_, y, h1, h2⟩ := loadPlan_sound (P := P) hty hW hx he
  refine ⟨y, ?_, h2⟩
  have hv : ∃ a, v = .pointer (some a) := by
    unfold loadPlan at hp
    split at hp
    · obtain ⟨a, ha, _⟩ := hx.ptr_inv; exact ⟨a, ha⟩
    · obtain ⟨b, o, hv, _⟩ := fp_mem hW hx.one_cells.1; exact ⟨_, hv⟩
    · simp at hp
  obtain ⟨a, rfl⟩ := hv
  simpa [Instr.loadAt, Instr.sureAddr, asAddr] using h1

def resOf (tmps : Array Value) : ResultVar → Sem Value
  | .tmp t => pure (tmps.getD t undef)
  | .cell x t => do loadVar t (← asAddr (tmps.getD x undef))

theorem results_eq (fn : Func) (tmps : Array Value) : results fn tmps = (do let vs ← fn.results.mapM (resOf tmps); pure (if h : vs.size = 1 then vs[0] else .tuple vs)) := by
  have e : (fun r => resOf tmps r) = resOf tmps := rfl
  unfold results
  rw [← e]
  congr 2

theorem results_sound {fr : Fr} (hty : ∀ t i, c.ty t = some i → TyOK P t i) (hW : WS c E st w) (hf : FrC E st fr a) : ∀ (rs : List ResultVar) (vs : List AV), resultsAV c fr st rs = some vs →
    ∃ us : List Value, (rs.mapM (resOf a.tmps) : Sem (List Value)).run P w = .ok us w ∧ us.length = vs.length ∧ ∀ (i : Nat) (x : AV), vs[i]? = some x → AVC E st x (us.getD i undef)
  | [], vs, h => by
    simp only [resultsAV, Option.some.injEq] at h; subst h
    exact ⟨[], by simp, rfl, fun i x h => by simp at h⟩
  | .tmp t :: rs, vs, h => by
    simp only [resultsAV] at h
    obtain ⟨vs', h', rfl⟩ := Option.map_eq_some_iff.1 h
    obtain ⟨us, h1, h2, h3⟩ := results_sound hty hW hf rs vs' h'
    have h0 : (resOf a.tmps (.tmp t)).run P w = .ok (a.tmps.getD t undef) w := by simp only [resOf, Sem.run_pure]
    refine ⟨a.tmps.getD t undef :: us, by simp [List.mapM_cons, h1, h0], by simp [h2], fun i x hi => ?_⟩
    cases i with
    | zero => simp only [List.getElem?_cons_zero, Option.some.injEq] at hi; subst hi; simpa using hf t
    | succ i => simpa using h3 i x (by simpa using hi)
  | .cell x t :: rs, vs, h => by
    simp only [resultsAV] at h
    split at h
    · rename_i r k hp
      obtain ⟨res, hr, h⟩ := Option.bind_eq_some_iff.1 h
      obtain ⟨v, hv, h⟩ := Option.bind_eq_some_iff.1 h
      obtain ⟨vs', h', rfl⟩ := Option.map_eq_some_iff.1 h
      obtain ⟨us, h1, h2, h3⟩ := results_sound hty hW hf rs vs' h'
      obtain ⟨y, y1, y2⟩ := loadVar_run (P := P) hty hW (hf x) hp hr hv
      have h0 : (resOf a.tmps (.cell x t)).run P w = .ok y w := y1
      refine ⟨y :: us, by simp [List.mapM_cons, h1, h0], by simp [h2], fun i z hi => ?_⟩
      cases i with
      | zero => simp only [List.getElem?_cons_zero, Option.some.injEq] at hi; subst hi; simpa using y2
      | succ i => simpa using h3 i z (by simpa using hi)
    · simp at h

theorem results_run {fr : Fr} {fn : Func} {vs : List AV} (hty : ∀ t i, c.ty t = some i → TyOK P t i) (hW : WS c E st w) (hf : FrC E st fr a) (h : resultsAV c fr st fn.results.toList = some vs) :
    ∃ x, (results fn a.tmps).run P w = .ok x w ∧ AVC E st (tupAV vs) x := by
  obtain ⟨us, h1, h2, h3⟩ := results_sound (P := P) hty hW hf _ vs h
  have hm : (fn.results.mapM (resOf a.tmps) : Sem (Array Value)).run P w = .ok us.toArray w := by
    rw [Array.mapM_eq_mapM_toList]
    simp [h1]
  have hres : (results fn a.tmps).run P w = .ok (if h : us.toArray.size = 1 then us.toArray[0] else .tuple us.toArray) w := by
    rw [results_eq]
    simp only [Sem.run_bind, hm, Result.andThen_ok, Sem.run_pure]
  refine ⟨_, hres, ?_⟩
  match vs, us, h2, h3 with
  | [v], [u], _, h3 => simpa [tupAV] using h3 0 v (by simp)
  | [], [], _, h3 => exact .tup _ _ rfl (fun i x h => by simp at h)
  | v :: v' :: vs, u :: u' :: us, h2, h3 =>
    rw [dif_neg (by simp)]
    refine .tup _ _ (by simpa using h2) fun i x hi => ?_
    have := h3 i x hi
    rw [List.getD_eq_getElem?_getD] at this
    rw [Array.getD_eq_getD_getElem?]
    simpa using this

/-! arguments -/
theorem argFr_get : ∀ (l : List AV) (k t : Nat), (argFr k l).get t = if k ≤ t then (l[t - k]?).getD .any else .any
  | [], k, t => by simp [argFr, Fr.get]
  | x :: l, k, t => by
    simp only [argFr, Fr.get]
    by_cases h : k = t
    · subst h; simp
    · rw [if_neg h, argFr_get l (k + 1) t]
      by_cases hk : k + 1 ≤ t
      · rw [if_pos hk, if_pos (by omega)]
        obtain ⟨m, hm⟩ : ∃ m, t - k = m + 1 := ⟨t - k - 1, by omega⟩
        rw [hm, show t - (k + 1) = m by omega]; simp
      · rw [if_neg hk, if_neg (by omega)]

theorem args_here {args : List AV} {vals : Array Value} (hW : WS c E st w) (ha : ArgsC E st args vals) (hn : args.length ≤ n) :
    Here c n E st w (argFr 0 args) { tmps := vals ++ Array.replicate (n - vals.size) undef, defers := [] } where
  ws := hW
  fr := fun t => by
    rw [argFr_get]
    simp only [Nat.zero_le, if_true, Nat.sub_zero]
    cases hx : args[t]? with
    | none => exact .any _
    | some x =>
      have hlt : t < vals.size := by have := (List.getElem?_eq_some_iff.1 hx).1; have := ha.1; omega
      have := ha.2 t x hx
      rw [Array.getD_eq_getD_getElem?] at this
      rw [Array.getD_eq_getD_getElem?, Array.getElem?_append_left hlt]
      exact this
  size := by have := ha.1; simp; omega
  defers := rfl

theorem pureCell_sound {x y : Cell} {v : Value} {E' : Env} {st' : St} (hF : E.F.le E'.F) (h : x.pure1 = some y) (hx : CC E st x v) : CC E' st' y v := by
  obtain ⟨h1, h2⟩ := pure1_sound h hx
  exact .of_noTok (h1.mono hF) h2
theorem pureXCell_sound {x y : Cell} {v : Value} {st' : St} (h : x.pureX = some y) (hx : CC E st x v) : CC E st' y v := by
  unfold Cell.pureX at h
  split at h
  · simp only [Option.some.injEq] at h; subst h
    obtain ⟨A, cap, rfl, hcap, hcp, htok⟩ := (AVC.one _ _ hx).slice_inv
    exact .pure _ _ hcp fun tok e rows he => by
      simp only [Cell.slice.injEq] at he
      obtain ⟨rfl, rfl, rfl⟩ := he
      exact htok
  · exact pureCell_sound (Fz.le_refl _) h hx
theorem purifyX_spec : ∀ (l l' : List Cell), purifyX l = some l' → l'.length = l.length ∧ ∀ (i : Nat) (x : Cell), l'[i]? = some x → ∃ y, l[i]? = some y ∧ y.pureX = some x
  | [], l', h => by simp only [purifyX, Option.some.injEq] at h; subst h; exact ⟨rfl, fun i x h => by simp at h⟩
  | c :: l, l', h => by
    simp only [purifyX] at h
    split at h
    · rename_i c' m hc hm
      simp only [Option.some.injEq] at h; subst h
      obtain ⟨h1, h2⟩ := purifyX_spec l m hm
      refine ⟨by simp [h1], fun i x hi => ?_⟩
      cases i with
      | zero => simp at hi; subst hi; exact ⟨c, by simp, hc⟩
      | succ i => simpa using h2 i x (by simpa using hi)
    · simp at h
theorem pureAV_sound {x y : AV} {v : Value} {st' : St} (h : x.pure1 = some y) (hx : AVC E st x v) : AVC E st' y v := by
  cases x with
  | any => simp [AV.pure1] at h
  | tup _ => simp [AV.pure1] at h
  | one z =>
    simp only [AV.pure1] at h
    obtain ⟨z', hz, rfl⟩ := Option.map_eq_some_iff.1 h
    exact .one _ _ (pureCell_sound (Fz.le_refl _) hz hx.one_cells.1)
  | agg cs =>
    simp only [AV.pure1] at h
    obtain ⟨cs', hz, rfl⟩ := Option.map_eq_some_iff.1 h
    obtain ⟨vs, rfl, hs, hc⟩ := hx.agg_inv
    obtain ⟨l1, l2⟩ := purify_spec _ _ hz
    refine .agg _ _ (by omega) fun i x hi => ?_
    obtain ⟨y, hy, hp⟩ := l2 i x hi
    exact pureCell_sound (Fz.le_refl _) hp (hc i y hy)
theorem pureXAV_sound {x y : AV} {v : Value} {st' : St} (h : x.pureX = some y) (hx : AVC E st x v) : AVC E st' y v := by
  cases x with
  | any => simp [AV.pureX] at h
  | tup _ => simp [AV.pureX] at h
  | one z =>
    simp only [AV.pureX] at h
    obtain ⟨z', hz, rfl⟩ := Option.map_eq_some_iff.1 h
    exact .one _ _ (pureXCell_sound hz hx.one_cells.1)
  | agg cs =>
    simp only [AV.pureX] at h
    obtain ⟨cs', hz, rfl⟩ := Option.map_eq_some_iff.1 h
    obtain ⟨vs, rfl, hs, hc⟩ := hx.agg_inv
    obtain ⟨l1, l2⟩ := purifyX_spec _ _ hz
    refine .agg _ _ (by omega) fun i x hi => ?_
    obtain ⟨y, hy, hp⟩ := l2 i x hi
    exact pureXCell_sound hp (hc i y hy)
theorem pureArgs_spec : ∀ (l l' : List AV), pureArgs l = some l' → l'.length = l.length ∧ ∀ (i : Nat) (x : AV), l'[i]? = some x → ∃ y, l[i]? = some y ∧ y.pure1 = some x
  | [], l', h => by simp only [pureArgs, Option.some.injEq] at h; subst h; exact ⟨rfl, fun i x h => by simp at h⟩
  | c :: l, l', h => by
    simp only [pureArgs] at h
    split at h
    · rename_i c' m hc hm
      simp only [Option.some.injEq] at h; subst h
      obtain ⟨h1, h2⟩ := pureArgs_spec l m hm
      refine ⟨by simp [h1], fun i x hi => ?_⟩
      cases i with
      | zero => simp at hi; subst hi; exact ⟨c, by simp, hc⟩
      | succ i => simpa using h2 i x (by simpa using hi)
    · simp at h
theorem pureArgsX_spec : ∀ (l l' : List AV), pureArgsX l = some l' → l'.length = l.length ∧ ∀ (i : Nat) (x : AV), l'[i]? = some x → ∃ y, l[i]? = some y ∧ y.pureX = some x
  | [], l', h => by simp only [pureArgsX, Option.some.injEq] at h; subst h; exact ⟨rfl, fun i x h => by simp at h⟩
  | c :: l, l', h => by
    simp only [pureArgsX] at h
    split at h
    · rename_i c' m hc hm
      simp only [Option.some.injEq] at h; subst h
      obtain ⟨h1, h2⟩ := pureArgsX_spec l m hm
      refine ⟨by simp [h1], fun i x hi => ?_⟩
      cases i with
      | zero => simp at hi; subst hi; exact ⟨c, by simp, hc⟩
      | succ i => simpa using h2 i x (by simpa using hi)
    · simp at h
theorem pureArgs_sound {args args' : List AV} {vals : Array Value} (h : pureArgs args = some args') (ha : ArgsC E st args vals) (st' : St) : ArgsC E st' args' vals := by
  obtain ⟨l1, l2⟩ := pureArgs_spec _ _ h
  refine ⟨by rw [l1]; exact ha.1, fun i x hi => ?_⟩
  obtain ⟨y, hy, hp⟩ := l2 i x hi
  exact pureAV_sound hp (ha.2 i y hy)
theorem pureArgsX_sound {args args' : List AV} {vals : Array Value} (h : pureArgsX args = some args') (ha : ArgsC E st args vals) (st' : St) : ArgsC E st' args' vals := by
  obtain ⟨l1, l2⟩ := pureArgsX_spec _ _ h
  refine ⟨by rw [l1]; exact ha.1, fun i x hi => ?_⟩
  obtain ⟨y, hy, hp⟩ := l2 i x hi
  exact pureXAV_sound hp (ha.2 i y hy)

/-! calls -/
theorem callFunc_run {f : FuncId} {fn : Func} {code : Code} (hf : P.funcs[f]? = some fn) (hb : fn.body = some code) (hn : (fn.name == "runtime.NumGoroutine") = false) (vals : Array Value) (w : World) : (callFunc f vals).run P w = .ok (.enter f vals) w := by
  have hn' : ¬ fn.name = "runtime.NumGoroutine" := by simpa using hn
  simp [callFunc, hf, hb, hn']

/-- A body's run. -/
theorem callBody_sound (hC : CfgOK P c) {rec : Task → Option Out} (hr : RecOK P c rec) {f : FuncId} {fi : FnInfo} {args : List AV} {vals : Array Value} {v : AV} (hf : c.fn f = some fi) (hW : WS c E st w) (ha : ArgsC E st args vals)
    (h : callBody c rec f fi wb args st = some (v, st')) {R : Value → World → Prop} (hR : ∀ x w' E', Step c E st w E' st' w' → AVC E' st' v x → R x w') : FnRuns P f vals w R := by
  obtain ⟨fn, f1, f2, f3, f4, f5, f6⟩ := hC.fn f fi hf
  have hnt : c.ntmps f = fi.ntmps := by simp [Cfg.ntmps, hf]
  unfold callBody at h
  split at h
  · rename_i hlen
    split at h
    · rename_i e fr1 st1 hb
      split at h
      · rename_i he
        obtain ⟨vs, hvs, h⟩ := Option.map_eq_some_iff.1 h
        simp only [Prod.mk.injEq] at h
        obtain ⟨rfl, rfl⟩ := h
        unfold FnRuns
        rw [callFunc_run f1 f2 f5]
        refine calls_of_wp f1 f2 ?_
        refine hr.code _ _ _ _ _ _ _ _ hb f6 E w _ _ (by rw [hnt, f3]; exact args_here hW ha hlen) fun a' w' E' hS h' => ?_
        obtain ⟨x, x1, x2⟩ := results_run (P := P) (fn := fn) hC.ty h'.ws h'.fr (by rw [f4]; exact hvs)
        rcases he with rfl | rfl
        · exact ⟨h'.defers, x, x1, hR x w' E' hS x2⟩
        · exact ⟨h'.defers, x, x1, hR x w' E' hS x2⟩
      · simp at h
    · simp at h
  · simp at h

/-- A call that only reads: what it made is frozen or forgotten. -/
theorem ro_sound {E1 : Env} {st1 : St} {w1 : World} {v v' : AV} {x : Value} (hW : WS c E st w) (hS : Step c E st w E1 st1 w1) (hk : Keeps st.length st st1) (hx : AVC E1 st1 v x) (ho : outAV st1 st.length v = some v') :
    ∃ E', AVC E' st v' x ∧ Step c E st w E' st w1 := by
  have hlen := hS.ext.len
  have htake : (kill (okOf st.length) st1).take st.length = st := by
    apply List.ext_getElem?
    intro r
    by_cases hr : r < st.length
    · rw [take_get hr, kill_get, hk r hr hr]
      obtain ⟨y, hy⟩ : ∃ y, st[r]? = some y := ⟨_, List.getElem?_eq_getElem hr⟩
      rw [hy]
      cases y with
      | row t g cells =>
        have hok : okOf st.length r = false := by simp [okOf]; omega
        simp [killed, hok]
      | _ => rfl
    · rw [List.getElem?_take, if_neg hr, List.getElem?_eq_none (by omega)]
  have hS2 := hS.trans (Step.freeze hS.ws (okOf st.length))
  have hv := outAV_sound hS.ws hlen hx v' ho
  rw [htake] at hv
  have hS3 := hS2.take (n := st.length) (Nat.le_refl _) (by rw [kill_length]; exact hlen) (by
    intro r y hr hy
    have hy' : st[r]? = some y := by rw [← take_get hr, htake] at hy; exact hy
    refine ⟨fun t g cells he i z hz => ?_, fun kt et es he i e hi z hz => ?_⟩
    · subst he
      obtain ⟨_, _, _, _, a4, _⟩ := hW.row r t g cells hy'
      exact (a4 i z hz).refs
    · subst he
      obtain ⟨_, _, _, _, a3⟩ := hW.map r kt et es hy'
      obtain ⟨m, _, _, _, av, b4, b5⟩ := a3 i e hi
      have := b5.refs
      unfold avOf at b4
      split at b4
      · simp only [Option.some.injEq] at b4; subst b4
        simp only [AV.refs, List.all_eq_true] at this
        exact this z hz
      · split at b4
        · rename_i y' hy2
          simp only [Option.some.injEq] at b4; subst b4
          rw [hy2] at hz
          simp only [List.mem_singleton] at hz; subst hz
          simpa [AV.refs] using this
        · simp at b4
      · simp at b4)
  rw [htake] at hS3
  exact ⟨_, hv, hS3⟩

theorem callStep_sound (hC : CfgOK P c) {rec : Task → Option Out} (hr : RecOK P c rec) (hk : RecKeeps rec) {f : FuncId} {args : List AV} {vals : Array Value} {v : AV} (hW : WS c E st w) (ha : ArgsC E st args vals)
    (h : callStep c rec f wb args st = some (v, st')) : FnRuns P f vals w fun x w' => ∃ E', AVC E' st' v x ∧ Step c E st w E' st' w' := by
  unfold callStep at h
  split at h
  · rename_i p hp
    obtain ⟨args', hargs, h⟩ := Option.bind_eq_some_iff.1 h
    obtain ⟨v1, hv, h⟩ := Option.map_eq_some_iff.1 h
    simp only [Prod.mk.injEq] at h
    obtain ⟨rfl, rfl⟩ := h
    exact hC.prim f p args' v1 hp hv E st w vals hW (pureArgs_sound hargs ha st)
  · split at h
    · rename_i p hp
      split at h
      · exact hC.primS f p args st v st' hp h E w vals hW ha
      · simp at h
    · split at h
      · simp at h
      · rename_i fi hf
        split at h
        · obtain ⟨⟨v1, st1⟩, hb, h⟩ := Option.map_eq_some_iff.1 h
          simp only [Prod.mk.injEq] at h
          obtain ⟨rfl, rfl⟩ := h
          exact callBody_sound hC hr hf hW ha hb fun x w' E' hS hx => ⟨E', hx.trim _, hS.trim _⟩
        · rename_i args' hargs _
          obtain ⟨⟨v1, st1⟩, hb, h⟩ := Option.bind_eq_some_iff.1 h
          have ha' : ArgsC E [] args' vals := by
            split at hargs
            · exact pureArgsX_sound hargs ha []
            · exact pureArgs_sound hargs ha []
          exact callBody_sound hC hr hf hW.nil ha' hb fun x w' E' hS hx => handOn_sound hW hS hx h
        · obtain ⟨⟨v1, st1⟩, hb, h⟩ := Option.bind_eq_some_iff.1 h
          obtain ⟨v2, hv2, h⟩ := Option.bind_eq_some_iff.1 h
          split at h
          · simp only [Option.some.injEq, Prod.mk.injEq] at h
            obtain ⟨rfl, rfl⟩ := h
            exact callBody_sound hC hr hf hW ha hb fun x w' E' hS hx => ro_sound hW hS (callBody_keeps hk hb) hx hv2
          · simp at h

theorem step_sound (hC : CfgOK P c) {rec : Task → Option Out} (hr : RecOK P c rec) (hk : RecKeeps rec) (hfree : ∀ wb, CallFree c (callfOf rec wb)) : RecOK P c (step c rec) := by
  have hcall : ∀ wb, CallOK P c (callfOf rec wb) := fun wb f args st v st' h E w vals hW ha => hr.call _ _ _ _ _ _ (callfOf_some h) E w vals hW ha
  have hloop : ∀ f wb body fr st e fr' st', step c rec (.code f wb (.loop body) fr st) = some (.code e fr' st') → drawsOK body = true → ∀ E w a Q, Here c (c.ntmps f) E st w fr a →
      (∀ a' w' E', Step c E st w E' st' w' → Here c (c.ntmps f) E' st' w' fr' a' → Q e.toExit a' w') → wpIn P body Q a w := by
    intro f wb body fr st e fr' st' h hd E w a Q hh hQ
    simp only [step] at h
    refine wpIn_step ?_
    split at h
    · rename_i fr1 st1 h1
      refine hr.code _ _ _ _ _ _ _ _ h1 hd E w a _ ⟨hh.ws, hh.fr.atHead f body, hh.size, hh.defers⟩ fun a' w' E' hS h' => ?_
      have hS' := hS.trim ((c.atHead f body fr1).refs st.length)
      exact hr.loop _ _ _ _ _ _ _ _ h hd E' w' a' Q ⟨hS'.ws, (h'.fr.atHead f body).trim _, h'.size, h'.defers⟩ fun a2 w2 E2 hS2 h2 => hQ a2 w2 E2 (hS'.trans hS2) h2
    · rename_i hne
      refine hr.code _ _ _ _ _ _ _ _ h hd E w a _ ⟨hh.ws, hh.fr.atHead f body, hh.size, hh.defers⟩ fun a' w' E' hS h' => ?_
      cases e with
      | normal => exact absurd h (hne _ _)
      | exit id => exact hQ a' w' E' hS h'
      | ret => exact hQ a' w' E' hS h'
  refine ⟨fun f wb code fr st e fr' st' h hd E w a Q hh hQ => ?_, hloop, fun f wb args st v st' h E w vals hW ha => ?_⟩
  · cases code with
    | skip =>
      simp only [step, Option.some.injEq, Out.code.injEq] at h; obtain ⟨rfl, rfl, rfl⟩ := h
      exact wp_skip (hQ a w E (Step.refl hh.ws) hh)
    | label l =>
      simp only [step, Option.some.injEq, Out.code.injEq] at h; obtain ⟨rfl, rfl, rfl⟩ := h
      exact wp_label (hQ a w E (Step.refl hh.ws) hh)
    | exit id =>
      simp only [step, Option.some.injEq, Out.code.injEq] at h; obtain ⟨rfl, rfl, rfl⟩ := h
      exact wp_exit (hQ a w E (Step.refl hh.ws) hh)
    | ret =>
      simp only [step, Option.some.injEq, Out.code.injEq] at h; obtain ⟨rfl, rfl, rfl⟩ := h
      exact wp_ret (hQ a w E (Step.refl hh.ws) hh)
    | region id ops draw =>
      simp only [step] at h
      split at h
      · simp at h
      · rename_i hcl
        obtain ⟨⟨fr1, st1⟩, ho, h⟩ := Option.map_eq_some_iff.1 h
        simp only [Option.some.injEq, Out.code.injEq] at h
        obtain ⟨rfl, rfl, rfl⟩ := h
        refine region_sound hC (hcall wb) (hfree wb) (by simpa [drawsOK] using hd) (fun hdr => ?_) ho hh fun a' w' E' hS h' => hQ a' w' E' hS ⟨h'.ws, ?_, h'.size, h'.defers⟩
        · rw [hdr] at hcl
          simpa using hcl
        · split
          · exact h'.fr.keep _
          · exact h'.fr
    | seq x y =>
      simp only [step] at h
      simp only [drawsOK, Bool.and_eq_true] at hd
      refine wp_seq ?_
      split at h
      · rename_i fr1 st1 h1
        refine hr.code _ _ _ _ _ _ _ _ h1 hd.1 E w a _ hh fun a' w' E' hS h' => ?_
        exact hr.code _ _ _ _ _ _ _ _ h hd.2 E' w' a' Q h' fun a2 w2 E2 hS2 h2 => hQ a2 w2 E2 (hS.trans hS2) h2
      · rename_i hne
        refine hr.code _ _ _ _ _ _ _ _ h hd.1 E w a _ hh fun a' w' E' hS h' => ?_
        cases e with
        | normal => exact absurd h (hne _ _)
        | exit id => exact hQ a' w' E' hS h'
        | ret => exact hQ a' w' E' hS h'
    | cond x p q =>
      simp only [step] at h
      simp only [drawsOK, Bool.and_eq_true] at hd
      have hx := eval_sound hh.ws hh.fr x
      split at h
      · rename_i hev
        rw [hev] at hx
        exact wp_cond_true hx.bool_inv (hr.code _ _ _ _ _ _ _ _ h hd.1 E w a Q hh hQ)
      · rename_i hev
        rw [hev] at hx
        exact wp_cond_false hx.bool_inv (hr.code _ _ _ _ _ _ _ _ h hd.2 E w a Q hh hQ)
      · simp at h
    | block id body =>
      simp only [step] at h
      simp only [drawsOK] at hd
      refine wp_block ?_
      split at h
      · rename_i id' fr1 st1 h1
        simp only [Option.some.injEq, Out.code.injEq] at h
        obtain ⟨rfl, rfl, rfl⟩ := h
        refine hr.code _ _ _ _ _ _ _ _ h1 hd E w a _ hh fun a' w' E' hS h' => ?_
        have := hQ a' w' E' hS h'
        simp only [Ex.toExit, Exit.inBlock]
        by_cases hid : id' = id
        · rw [if_pos hid] at this ⊢; exact this
        · rw [if_neg hid] at this ⊢; exact this
      · rename_i hne
        refine hr.code _ _ _ _ _ _ _ _ h hd E w a _ hh fun a' w' E' hS h' => ?_
        cases e with
        | normal => exact hQ a' w' E' hS h'
        | exit id => exact absurd h (hne _ _ _)
        | ret => exact hQ a' w' E' hS h'
    | loop body =>
      simp only [drawsOK] at hd
      exact wp_loop_in (hloop f wb body fr st e fr' st' h hd E w a Q hh hQ)
    | scope body =>
      simp only [step] at h
      simp only [drawsOK] at hd
      refine wp_scope_straight ?_
      refine hr.code _ _ _ _ _ _ _ _ h hd E w a _ hh fun a' w' E' hS h' => ?_
      have := hQ a' w' E' hS h'
      cases e <;> exact this
    | _ => simp [step] at h
  · simp only [step] at h
    obtain ⟨⟨v1, st1⟩, hc, h⟩ := Option.map_eq_some_iff.1 h
    simp only [Out.call.injEq] at h
    obtain ⟨rfl, rfl⟩ := h
    exact callStep_sound hC hr hk hW ha hc

/-- What the abstract interpreter finds, the program does. -/
theorem run_sound (hC : CfgOK P c) : ∀ n, RecOK P c (run c n)
  | 0 => ⟨fun _ _ _ _ _ _ _ _ h => by simp [run] at h, fun _ _ _ _ _ _ _ _ h => by simp [run] at h, fun _ _ _ _ _ _ h => by simp [run] at h⟩
  | n + 1 => step_sound hC (run_sound hC n) (run_keeps n) fun wb => run_free n

end Go.AI
