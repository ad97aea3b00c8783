/- Regions, code, calls. -/
import Derived.Test.YtacfehecjjoffaaDoorAiLeave2
import Derived.Test.YtacfehecjjoffaaDoorAiKeeps
import Derived.Scope
set_option linter.unusedVariables false
set_option linter.unusedSimpArgs false
namespace Go.AI
open Go

def drawsOK : Code → Bool
  | .region _ ops draw => !draw || Region.lexB .any ops
  | .seq a b => drawsOK a && drawsOK b
  | .cond _ a b => drawsOK a && drawsOK b
  | .block _ b => drawsOK b
  | .loop b => drawsOK b
  | .scope b => drawsOK b
  | _ => true

structure CfgOK (P : Program) (c : Cfg) : Prop where
  mixed : P.follows .mixedOrders = true
  ty : ∀ t i, c.ty t = some i → TyOK P t i
  fn : ∀ f fi, c.fn f = some fi → ∃ fn, P.funcs[f]? = some fn ∧ fn.body = some fi.body ∧ fn.ntmps = fi.ntmps ∧ fn.results.toList = fi.results ∧ (fn.name == "runtime.NumGoroutine") = false ∧ drawsOK fi.body = true
  prim : ∀ f p args v, c.prim f = some p → p args = some v → ∀ E st w vals, WS c E st w → ArgsC E st args vals → FnRuns P f vals w fun x w' => ∃ E', AVC E' st v x ∧ Step c E st w E' st w'
  primS : ∀ f p args st v st', c.primS f = some p → p args st = some (v, st') → ∀ E w vals, WS c E st w → ArgsC E st args vals → FnRuns P f vals w fun x w' => ∃ E', AVC E' st' v x ∧ Step c E st w E' st' w'

structure Here (c : Cfg) (n : Nat) (E : Env) (st : St) (w : World) (fr : Fr) (a : Act) : Prop where
  ws : WS c E st w
  fr : FrC E st fr a
  size : n ≤ a.tmps.size
  defers : a.defers = []

variable {P : Program} {c : Cfg} {E : Env} {st : St} {w : World} {wb n : Nat} {callf : FuncId → List AV → St → Option (AV × St)} {av : AV} {st' : St} {o : Oper} {a : Act} {ops : Array Oper}

theorem put_size (a : Act) (d : Option Tmp) (v : Value) : (a.put d v).tmps.size = a.tmps.size := by cases d <;> simp [Act.put]
theorem put_defers (a : Act) (d : Option Tmp) (v : Value) : (a.put d v).defers = a.defers := by cases d <;> rfl
theorem put_get (a : Act) {d : Option Tmp} (v : Value) (hd : ∀ t, d = some t → t < a.tmps.size) (s : Nat) : (a.put d v).tmps.getD s undef = if d = some s then v else a.tmps.getD s undef := by
  cases d with
  | none => simp [Act.put]
  | some t =>
    have := hd t rfl
    simp only [Act.put, Array.getD_eq_getD_getElem?, Array.getElem?_setIfInBounds]
    by_cases h : t = s
    · subst h; simp [this]
    · rw [if_neg h, if_neg (by simpa using h)]

theorem putFr_lt {fr fr' : Fr} {d : Option Tmp} {v : AV} (h : putFr n fr d v = some fr') : ∀ t, d = some t → t < n := by
  intro t ht
  subst ht
  unfold putFr at h
  simp only at h
  split at h
  · assumption
  · simp at h

theorem Here.put {E' : Env} {st' : St} {w' : World} {fr fr' : Fr} {d : Option Tmp} {v : AV} {x : Value} (h : Here c n E st w fr a) (hS : Step c E st w E' st' w') (hv : AVC E' st' v x) (hp : putFr n fr d v = some fr') :
    Here c n E' st' w' fr' (a.put d x) where
  ws := hS.ws
  fr := fun s => by
    rw [putFr_get hp s, put_get a x (fun t ht => Nat.lt_of_lt_of_le (putFr_lt hp t ht) h.size) s]
    by_cases hs : d = some s
    · rw [if_pos hs, if_pos hs]; exact hv
    · rw [if_neg hs, if_neg hs]; exact (h.fr s).ext hS.ext
  size := by rw [put_size]; exact h.size
  defers := by rw [put_defers]; exact h.defers

theorem wanted_sound {fr : Fr} {b : Bool} (h : Here c n E st w fr a) (hw : wantedIn ops.toList o fr = some b) : Region.wanted o (yielded ops a.tmps) = b := by
  unfold wantedIn at hw
  unfold Region.wanted
  cases hg : o.guard with
  | none => rw [hg] at hw; simpa using hw
  | some gw =>
    obtain ⟨g, want⟩ := gw
    rw [hg] at hw
    simp only [Array.getElem?_toList] at hw
    cases hd : (ops[g]?).bind (·.dst) with
    | none => rw [hd] at hw; simp at hw
    | some d =>
      rw [hd] at hw
      simp only at hw
      split at hw
      · rename_i b' hb'
        simp only [Option.some.injEq] at hw
        have := h.fr d
        rw [hb'] at this
        have hv := this.bool_inv
        have hy : yielded ops a.tmps g = some b' := by
          unfold yielded
          rw [hd]
          simp only [Option.bind_some]
          rw [Array.getD_eq_getD_getElem?] at hv
          cases hx : a.tmps[d]? with
          | none => rw [hx] at hv; simp [undef] at hv
          | some y => rw [hx] at hv; simp at hv; subst hv; rfl
        simp only [hy]
        rw [← hw]
        cases b' <;> cases want <;> rfl
      · simp at hw

/-- One operation of a region. -/
theorem opStep_sound (hC : CfgOK P c) (hcall : CallOK P c callf) {kd : Nat → Kind} {i : Nat} {fr fr' : Fr} (hi : ops[i]? = some o) (h : Here c n E st w fr a) (hs : opStep c kd n wb callf ops.toList i o fr st = some (fr', st'))
    {Q : Exit → Act → World → Prop} {K : Act → World → Prop} (hK : ∀ a' w' E', Step c E st w E' st' w' → Here c n E' st' w' fr' a' → K a' w') : wpOp P ops Q i K a w := by
  unfold wpOp
  rw [hi]
  obtain ⟨v, hp, hv⟩ := opStep_spec hs
  rcases hv with ⟨hw, rfl, rfl⟩ | ⟨hw, he⟩
  · have := wanted_sound h hw
    simp only [this, Bool.false_eq_true, if_false]
    exact hK _ _ E (Step.refl h.ws) (h.put (Step.refl h.ws) (.any undef) hp)
  · have := wanted_sound h hw
    simp only [this, if_true]
    left
    exact op_sound hC.ty h.ws h.fr hcall he K Q fun x w' E' hx hS => hK _ _ E' hS (h.put hS hx hp)

theorem ops_sound (hC : CfgOK P c) (hcall : CallOK P c callf) {f rid : Nat} {frN : Fr} {stN : St} {Q : Exit → Act → World → Prop} :
    ∀ (l : List Oper) (k : Nat) (fr : Fr) (st : St) (a : Act) (E : Env) (w : World), (∀ j, l[j]? = ops[k + j]?) → opsRun c f n wb rid callf ops.toList k l fr st = some (frN, stN) → Here c n E st w fr a →
      (∀ a' w' E', Step c E st w E' stN w' → Here c n E' stN w' frN a' → Q .normal a' w') → wpOps P ops Q (List.range' k l.length) a w
  | [], k, fr, st, a, E, w, hl, hr, h, hQ => by
    simp only [opsRun, Option.some.injEq, Prod.mk.injEq] at hr
    obtain ⟨rfl, rfl⟩ := hr
    exact hQ a w E (Step.refl h.ws) h
  | o :: l, k, fr, st, a, E, w, hl, hr, h, hQ => by
    have h0 : ops[k]? = some o := by simpa using (hl 0).symm
    rw [opsRun_cons] at hr
    obtain ⟨⟨fr1, st1⟩, hs, hr⟩ := Option.bind_eq_some_iff.1 hr
    rw [List.length_cons, List.range'_succ, wpOps_cons]
    refine opStep_sound hC hcall h0 h hs fun a' w' E' hS h' => ?_
    exact ops_sound hC hcall l (k + 1) fr1 st1 a' E' w' (fun j => by have := hl (j + 1); simpa [Nat.add_assoc, Nat.add_comm 1 j] using this) hr h' fun a2 w2 E2 hS2 h2 => hQ a2 w2 E2 (hS.trans hS2) h2

theorem any_sound (hC : CfgOK P c) (hcall : CallOK P c callf) {kd : Nat → Kind} {es : Nat → Eff} {frN : Fr} {stN : St} {Q : Exit → Act → World → Prop} :
    ∀ (fuel : Nat) (listed : Array Bool) (fr : Fr) (st : St) (a : Act) (E : Env) (w : World),
      AnyRun ops (opStep c kd n wb callf ops.toList) (opEff c kd ops.toList) es (fun fr st => FrEq frN fr ∧ stN = st) fuel listed fr st → Here c n E st w fr a →
      (∀ a' w' E', Step c E st w E' stN w' → Here c n E' stN w' frN a' → Q .normal a' w') → wpAny P .any ops Q fuel listed a w := by
  have fin : ∀ (fr : Fr) (st : St) (a : Act) (E : Env) (w : World), FrEq frN fr ∧ stN = st → Here c n E st w fr a → (∀ a' w' E', Step c E st w E' stN w' → Here c n E' stN w' frN a' → Q .normal a' w') → Q .normal a w := by
    rintro fr st a E w ⟨hq, rfl⟩ h hQ
    exact hQ a w E (Step.refl h.ws) ⟨h.ws, fun s => by rw [hq s]; exact h.fr s, h.size, h.defers⟩
  intro fuel
  induction fuel with
  | zero => intro listed fr st a E w hr h hQ; exact ⟨hr.1, fin fr st a E w hr.2 h hQ⟩
  | succ fuel ih =>
    intro listed fr st a E w hr h hQ
    refine ⟨fun h0 => fin fr st a E w (hr.1 h0) h hQ, fun i hi => ?_⟩
    obtain ⟨_, o, ho, _⟩ := mem_ready.1 hi
    obtain ⟨fr1, st1, h1, _, h2⟩ := hr.2 i hi o ho
    exact opStep_sound hC hcall ho h h1 fun a' w' E' hS h' => ih _ fr1 st1 a' E' w' h2 h' fun a2 w2 E2 hS2 h3 => hQ a2 w2 E2 (hS.trans hS2) h3

theorem region_sound (hC : CfgOK P c) (hcall : CallOK P c callf) (hfree : CallFree c callf) {f rid : Nat} {draw : Bool} {fr frN : Fr} {stN : St} {Q : Exit → Act → World → Prop} (hd : (!draw || Region.lexB .any ops) = true)
    (hclash : draw = true → clashFree ops (opsEff c f n wb rid callf ops.toList 0 ops.toList fr st) = true) (hr : opsRun c f n wb rid callf ops.toList 0 ops.toList fr st = some (frN, stN)) (h : Here c n E st w fr a)
    (hQ : ∀ a' w' E', Step c E st w E' stN w' → Here c n E' stN w' frN a' → Q .normal a' w') : (Code.region rid ops draw).wp P Q a w := by
  cases draw with
  | false =>
    refine wp_region ?_
    have := ops_sound (Q := Q) hC hcall ops.toList 0 fr st a E w (fun j => by simp) hr h hQ
    rw [List.range_eq_range']
    simpa using this
  | true =>
    simp only [Bool.not_true, Bool.false_or] at hd
    obtain ⟨es, hany⟩ := anyRun_of hfree hd hr (hclash rfl)
    refine wp_region_any hC.mixed ?_
    have hW : Step c E st w E st { w with drawn := w.drawn + 1 } := Step.drew h.ws
    exact any_sound hC hcall _ _ fr st a E _ hany ⟨hW.ws, h.fr, h.size, h.defers⟩ fun a' w' E' hS h' => hQ a' w' E' (hW.trans hS) h'

end Go.AI
