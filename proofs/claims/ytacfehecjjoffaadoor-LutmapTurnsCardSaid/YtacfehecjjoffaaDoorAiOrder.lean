/- Where the order of operations is open: any order comes to what the text's order comes to, in the abstract interpreter's own terms. -/
import Derived.Test.YtacfehecjjoffaaDoorAiCore
import Derived.Still
set_option linter.unusedVariables false
set_option linter.unusedSimpArgs false
namespace Go.AI
open Go

theorem get_set (t : Nat) (v : AV) (fr : Fr) (s : Nat) : (fr.set t v).get s = if s = t then v else fr.get s := by
  simp only [Fr.set, Fr.get]
  by_cases h : t = s
  · subst h; simp
  · rw [if_neg h, if_neg (Ne.symm h)]

def FrEq (fr fr' : Fr) : Prop := ∀ t, fr.get t = fr'.get t
theorem FrEq.set {fr fr' : Fr} (h : FrEq fr fr') (t : Nat) (v : AV) : FrEq (fr.set t v) (fr'.set t v) := fun s => by
  rw [get_set, get_set, h s]
theorem FrEq.swap (fr : Fr) {t s : Nat} (v u : AV) (h : t ≠ s) : FrEq ((fr.set t v).set s u) ((fr.set s u).set t v) := fun k => by
  rw [get_set, get_set, get_set, get_set]
  by_cases h1 : k = s
  · subst h1; rw [if_pos rfl, if_neg (Ne.symm h), if_pos rfl]
  · rw [if_neg h1, if_neg h1]

theorem eval_congr {c : Cfg} {fr fr' : Fr} (x : Operand) (h : ∀ t, x = .tmp t → fr.get t = fr'.get t) : c.eval fr x = c.eval fr' x := by
  cases x with
  | tmp t => exact h t rfl
  | _ => rfl

theorem pairs_congr {ρ ρ' : Operand → AV} (ps : Array (Nat × Operand)) (h : ∀ x ∈ ps.map (·.2), ρ x = ρ' x) :
    (ps.toList.map fun (i, x) => (i, ρ x)) = (ps.toList.map fun (i, x) => (i, ρ' x)) :=
  List.map_congr_left fun p hm => by
    obtain ⟨i, x⟩ := p
    simp only [h x (Array.mem_map.2 ⟨(i, x), by simpa using hm, rfl⟩)]
theorem list_congr {ρ ρ' : Operand → AV} (xs : Array Operand) (h : ∀ x ∈ xs, ρ x = ρ' x) : xs.toList.map ρ = xs.toList.map ρ' :=
  List.map_congr_left fun p hm => h p (by simpa using hm)

theorem callPlan_congr {c : Cfg} {kd : Kind} {fr fr' : Fr} (cl : Call) (h : ∀ x ∈ cl.operands, c.eval fr x = c.eval fr' x) : callPlan c kd fr cl = callPlan c kd fr' cl := by
  have hargs := list_congr (ρ := c.eval fr) (ρ' := c.eval fr') cl.args fun x hx => h x (by simp [Call.operands, hx])
  unfold callPlan
  simp only [hargs]
  cases hc : cl.callee with
  | value f => have hf : c.eval fr f = c.eval fr' f := h f (by simp [Call.operands, hc]); simp only [hf]
  | invoke r m => rfl
  | builtin b => rfl

theorem opPlan_congr {c : Cfg} {kd : Kind} {fr fr' : Fr} (o : Oper) (h : ∀ x ∈ o.op.operands, c.eval fr x = c.eval fr' x) : opPlan c kd o fr = opPlan c kd o fr' := by
  obtain ⟨dst, op, type, pos, after, guard⟩ := o
  cases op <;> simp only [Op.operands] at h <;> simp only [opPlan]
  case build t ps => rw [pairs_congr ps fun x hx => h x (by simpa using hx)]
  case buildSlice t n ps => rw [pairs_congr ps fun x hx => h x (by simpa using hx)]
  case makeFunc fn first captured =>
    cases fn <;> simp only [] <;> first
      | (rw [list_congr (ρ := c.eval fr) (ρ' := c.eval fr') first fun x hx => h x (by simp [hx]), list_congr (ρ := c.eval fr) (ρ' := c.eval fr') captured fun x hx => h x (by simp [hx])]; done)
      | rfl
  case call cl => exact callPlan_congr cl h
  case makeMap t r => cases r <;> rfl
  case slice t x lo hi mx => cases lo <;> cases hi <;> cases mx <;> simp_all
  all_goals (first | rfl | (simp_all; done))

section
variable {c : Cfg} {ops : Array Oper} {wb : Nat} {callf : FuncId → List AV → St → Option (AV × St)}

/-- One operation, in the abstract. -/
def opStep (c : Cfg) (kd : Nat → Kind) (n wb : Nat) (callf : FuncId → List AV → St → Option (AV × St)) (ops : List Oper) (i : Nat) (o : Oper) (fr : Fr) (st : St) : Option (Fr × St) :=
  match wantedIn ops o fr with
  | none => none
  | some false => (putFr n fr o.dst .any).map fun fr => (fr, st)
  | some true => ((opPlan c (kd i) o fr).exec wb callf st).bind fun (v, st) => (putFr n fr o.dst v).map fun fr => (fr, st)
def opEff (c : Cfg) (kd : Nat → Kind) (ops : List Oper) (i : Nat) (o : Oper) (fr : Fr) : Eff :=
  match wantedIn ops o fr with
  | none => .bad
  | some false => .none
  | some true => (opPlan c (kd i) o fr).eff c

theorem opsRun_cons {f : FuncId} {n rid : Nat} {ol : List Oper} {i : Nat} {o : Oper} {rest : List Oper} {fr : Fr} {st : St} :
    opsRun c f n wb rid callf ol i (o :: rest) fr st = (opStep c (c.kind f rid) n wb callf ol i o fr st).bind fun (fr, st) => opsRun c f n wb rid callf ol (i + 1) rest fr st := by
  simp only [opsRun, opStep]
  cases wantedIn ol o fr with
  | none => rfl
  | some b =>
    cases b with
    | false => cases putFr n fr o.dst .any <;> rfl
    | true =>
      cases (opPlan c (c.kind f rid i) o fr).exec wb callf st with
      | none => rfl
      | some p => obtain ⟨v, st'⟩ := p; simp only [Option.bind_some]; cases putFr n fr o.dst v <;> rfl

/-- What is asked of calls: those that stand alone look at no resource, and those whose order may be open change none. -/
structure CallFree (c : Cfg) (callf : FuncId → List AV → St → Option (AV × St)) : Prop where
  alone : ∀ f args st v st', c.alone f args = true → callf f args st = some (v, st') → st' = st ∧ ∀ st2, callf f args st2 = some (v, st2)
  still : ∀ f args st v st', (Plan.call f args).eff c ≠ .bad → callf f args st = some (v, st') → st' = st

theorem exec_swap (hcf : CallFree c callf) {p q : Plan} {v u : AV} {st st1 st2 : St} (h1 : p.exec wb callf st = some (v, st1)) (h2 : q.exec wb callf st1 = some (u, st2)) (hc : (p.eff c).clash (q.eff c) = false) :
    ∃ st1', q.exec wb callf st = some (u, st1') ∧ p.exec wb callf st1' = some (v, st2) := by
  have callq : ∀ f args, q = .call f args → (p.exec wb callf st = some (v, st1)) → st2 = st1 := by
    intro f args hq _
    subst hq
    refine hcf.still f args st1 u st2 ?_ h2
    intro hb; rw [hb] at hc; cases hp : p.eff c <;> rw [hp] at hc <;> simp [Eff.clash] at hc
  have callp : ∀ f args, p = .call f args → st1 = st := by
    intro f args hp
    subst hp
    refine hcf.still f args st v st1 ?_ h1
    intro hb; rw [hb] at hc; simp [Eff.clash] at hc
  have callAll : ∀ f args, (Plan.call f args).eff c = .none ∨ (Plan.call f args).eff c = .all ∨ (Plan.call f args).eff c = .bad := by
    intro f args
    simp only [Plan.eff]
    split
    · exact .inl rfl
    · split
      · exact .inr (.inr rfl)
      · exact .inr (.inl rfl)
  have callNone : ∀ f args, (Plan.call f args).eff c = .none → c.alone f args = true := by
    intro f args h
    simp only [Plan.eff] at h
    split at h
    · assumption
    · split at h <;> simp at h
  cases p with
  | fail => simp [Plan.exec] at h1
  | val v' =>
    simp only [Plan.exec, Option.some.injEq, Prod.mk.injEq] at h1
    obtain ⟨rfl, rfl⟩ := h1
    exact ⟨st2, h2, rfl⟩
  | new xs k => simp [Plan.eff, Eff.clash] at hc
  | rd r k =>
    have hst : st1 = st := by
      simp only [Plan.exec] at h1
      obtain ⟨x, _, h1⟩ := Option.bind_eq_some_iff.1 h1
      obtain ⟨_, _, h1⟩ := Option.map_eq_some_iff.1 h1
      simp only [Prod.mk.injEq] at h1
      exact h1.2.symm
    subst hst
    cases q with
    | fail => simp [Plan.exec] at h2
    | val u' =>
      simp only [Plan.exec, Option.some.injEq, Prod.mk.injEq] at h2
      obtain ⟨rfl, rfl⟩ := h2
      exact ⟨st1, rfl, h1⟩
    | new xs k => simp [Plan.eff, Eff.clash] at hc
    | rd s k' =>
      have hst2 : st2 = st1 := by
        simp only [Plan.exec] at h2
        obtain ⟨x, _, h2⟩ := Option.bind_eq_some_iff.1 h2
        obtain ⟨_, _, h2⟩ := Option.map_eq_some_iff.1 h2
        simp only [Prod.mk.injEq] at h2
        exact h2.2.symm
      subst hst2
      exact ⟨st2, h2, h1⟩
    | wr s k' =>
      have hne : r ≠ s := by simpa [Plan.eff, Eff.clash] using hc
      refine ⟨st2, h2, ?_⟩
      simp only [Plan.exec] at h1 h2 ⊢
      split at h2
      · obtain ⟨x, hx, h2⟩ := Option.bind_eq_some_iff.1 h2
        obtain ⟨⟨u', x'⟩, hk, h2⟩ := Option.map_eq_some_iff.1 h2
        simp only [Prod.mk.injEq] at h2
        obtain ⟨_, rfl⟩ := h2
        obtain ⟨y, hy, h1⟩ := Option.bind_eq_some_iff.1 h1
        obtain ⟨v', hv, h1⟩ := Option.map_eq_some_iff.1 h1
        simp only [Prod.mk.injEq] at h1
        rw [List.getElem?_set, if_neg (Ne.symm hne), hy]
        simp [hv, h1.1]
      · simp at h2
    | call f args =>
      have := callq f args rfl h1
      subst this
      exact ⟨st2, h2, h1⟩
  | wr r k =>
    cases q with
    | fail => simp [Plan.exec] at h2
    | val u' =>
      simp only [Plan.exec, Option.some.injEq, Prod.mk.injEq] at h2
      obtain ⟨rfl, rfl⟩ := h2
      exact ⟨st, rfl, h1⟩
    | new xs k => simp [Plan.eff, Eff.clash] at hc
    | rd s k' =>
      have hne : r ≠ s := by simpa [Plan.eff, Eff.clash] using hc
      simp only [Plan.exec] at h1 h2 ⊢
      split at h1
      · rename_i hwb
        obtain ⟨x, hx, h1⟩ := Option.bind_eq_some_iff.1 h1
        obtain ⟨⟨v', x'⟩, hk, h1⟩ := Option.map_eq_some_iff.1 h1
        simp only [Prod.mk.injEq] at h1
        obtain ⟨rfl, rfl⟩ := h1
        obtain ⟨y, hy, h2⟩ := Option.bind_eq_some_iff.1 h2
        obtain ⟨u', hu, h2⟩ := Option.map_eq_some_iff.1 h2
        simp only [Prod.mk.injEq] at h2
        obtain ⟨rfl, rfl⟩ := h2
        rw [List.getElem?_set, if_neg hne] at hy
        refine ⟨st, by rw [hy]; simp [hu], ?_⟩
        simp [hwb, hx, hk]
      · simp at h1
    | wr s k' =>
      have hne : r ≠ s := by simpa [Plan.eff, Eff.clash] using hc
      simp only [Plan.exec] at h1 h2 ⊢
      split at h1
      · rename_i hwb
        split at h2
        · rename_i hwb2
          obtain ⟨x, hx, h1⟩ := Option.bind_eq_some_iff.1 h1
          obtain ⟨⟨v', x'⟩, hk, h1⟩ := Option.map_eq_some_iff.1 h1
          simp only [Prod.mk.injEq] at h1
          obtain ⟨rfl, rfl⟩ := h1
          obtain ⟨y, hy, h2⟩ := Option.bind_eq_some_iff.1 h2
          obtain ⟨⟨u', y'⟩, hu, h2⟩ := Option.map_eq_some_iff.1 h2
          simp only [Prod.mk.injEq] at h2
          obtain ⟨rfl, rfl⟩ := h2
          rw [List.getElem?_set, if_neg hne] at hy
          refine ⟨st.set s y', by rw [if_pos hwb2, hy]; simp [hu], ?_⟩
          rw [if_pos hwb, List.getElem?_set, if_neg (Ne.symm hne), hx]
          simp only [Option.bind_some, hk, Option.map_some, Option.some.injEq, Prod.mk.injEq, true_and]
          exact List.set_comm _ _ hne.symm
        · simp at h2
      · simp at h1
    | call f args =>
      have hst2 := callq f args rfl h1
      have hal : c.alone f args = true := by
        rcases callAll f args with h | h | h
        · exact callNone f args h
        · rw [h] at hc; simp [Plan.eff, Eff.clash] at hc
        · rw [h] at hc; simp [Plan.eff, Eff.clash] at hc
      obtain ⟨e1, e2⟩ := hcf.alone f args st1 u st2 hal h2
      subst e1
      exact ⟨st, e2 st, h1⟩
  | call f args =>
    have hst := callp f args rfl
    subst hst
    cases q with
    | fail => simp [Plan.exec] at h2
    | val u' =>
      simp only [Plan.exec, Option.some.injEq, Prod.mk.injEq] at h2
      obtain ⟨rfl, rfl⟩ := h2
      exact ⟨st1, rfl, h1⟩
    | new xs k => cases h : (Plan.call f args).eff c <;> rw [h] at hc <;> simp [Plan.eff, Eff.clash] at hc
    | rd s k' =>
      have hst2 : st2 = st1 := by
        simp only [Plan.exec] at h2
        obtain ⟨x, _, h2⟩ := Option.bind_eq_some_iff.1 h2
        obtain ⟨_, _, h2⟩ := Option.map_eq_some_iff.1 h2
        simp only [Prod.mk.injEq] at h2
        exact h2.2.symm
      subst hst2
      exact ⟨st2, h2, h1⟩
    | wr s k' =>
      have hal : c.alone f args = true := by
        rcases callAll f args with h | h | h
        · exact callNone f args h
        · rw [h] at hc; simp [Plan.eff, Eff.clash] at hc
        · rw [h] at hc; simp [Plan.eff, Eff.clash] at hc
      obtain ⟨e1, e2⟩ := hcf.alone f args st1 v st1 hal h1
      exact ⟨st2, h2, e2 st2⟩
    | call g args' =>
      have := callq g args' rfl h1
      subst this
      exact ⟨st2, h2, h1⟩

/-- Any order that the operations' bonds leave open. 'es': the effects. -/
def AnyRun (ops : Array Oper) (stp : Nat → Oper → Fr → St → Option (Fr × St)) (eff : Nat → Oper → Fr → Eff) (es : Nat → Eff) (K : Fr → St → Prop) : Nat → Array Bool → Fr → St → Prop
  | 0, listed, fr, st => Region.ready .any ops listed = [] ∧ K fr st
  | fuel + 1, listed, fr, st =>
    (Region.ready .any ops listed = [] → K fr st) ∧
    ∀ i ∈ Region.ready .any ops listed, ∀ o, ops[i]? = some o → ∃ fr' st', stp i o fr st = some (fr', st') ∧ eff i o fr = es i ∧ AnyRun ops stp eff es K fuel (listed.setIfInBounds i true) fr' st'

theorem wantedIn_congr {o : Oper} {fr fr' : Fr} (h : ∀ t ∈ o.looksAt ops, fr.get t = fr'.get t) : wantedIn ops.toList o fr = wantedIn ops.toList o fr' := by
  unfold wantedIn
  cases hg : o.guard with
  | none => rfl
  | some gw =>
    obtain ⟨g, want⟩ := gw
    simp only [Array.getElem?_toList]
    cases hd : (ops[g]?).bind (·.dst) with
    | none => rfl
    | some d =>
      have : d ∈ o.looksAt ops := by simp [Oper.looksAt, hg, hd]
      simp only [h d this]

theorem opPlan_looks {kd : Kind} {o : Oper} {fr fr' : Fr} (h : ∀ t ∈ o.looksAt ops, fr.get t = fr'.get t) : opPlan c kd o fr = opPlan c kd o fr' :=
  opPlan_congr o fun x hx => eval_congr x fun t ht => h t (by
    subst ht
    exact List.mem_append_left _ (List.mem_filterMap.2 ⟨.tmp t, by simpa using hx, rfl⟩))

theorem opEff_looks {kd : Nat → Kind} {i : Nat} {o : Oper} {fr fr' : Fr} (h : ∀ t ∈ o.looksAt ops, fr.get t = fr'.get t) : opEff c kd ops.toList i o fr = opEff c kd ops.toList i o fr' := by
  unfold opEff
  rw [wantedIn_congr h, opPlan_looks h]

/-- A step is: a value, found by looking at some places alone, and put. -/
theorem opStep_spec {kd : Nat → Kind} {n i : Nat} {o : Oper} {fr fr1 : Fr} {st st1 : St} (h : opStep c kd n wb callf ops.toList i o fr st = some (fr1, st1)) :
    ∃ v, putFr n fr o.dst v = some fr1 ∧ ((wantedIn ops.toList o fr = some false ∧ v = .any ∧ st1 = st) ∨ (wantedIn ops.toList o fr = some true ∧ (opPlan c (kd i) o fr).exec wb callf st = some (v, st1))) := by
  unfold opStep at h
  split at h
  · simp at h
  · rename_i hw
    obtain ⟨fr', hp, h⟩ := Option.map_eq_some_iff.1 h
    simp only [Prod.mk.injEq] at h
    obtain ⟨rfl, rfl⟩ := h
    exact ⟨.any, hp, .inl ⟨hw, rfl, rfl⟩⟩
  · rename_i hw
    obtain ⟨⟨v, st'⟩, he, h⟩ := Option.bind_eq_some_iff.1 h
    obtain ⟨fr', hp, h⟩ := Option.map_eq_some_iff.1 h
    simp only [Prod.mk.injEq] at h
    obtain ⟨rfl, rfl⟩ := h
    exact ⟨v, hp, .inr ⟨hw, he⟩⟩
theorem opStep_of {kd : Nat → Kind} {n i : Nat} {o : Oper} {fr fr1 : Fr} {st st1 : St} {v : AV} (hp : putFr n fr o.dst v = some fr1)
    (h : (wantedIn ops.toList o fr = some false ∧ v = .any ∧ st1 = st) ∨ (wantedIn ops.toList o fr = some true ∧ (opPlan c (kd i) o fr).exec wb callf st = some (v, st1))) :
    opStep c kd n wb callf ops.toList i o fr st = some (fr1, st1) := by
  unfold opStep
  rcases h with ⟨hw, rfl, rfl⟩ | ⟨hw, he⟩
  · rw [hw]; simp [hp]
  · rw [hw]; simp [he, hp]

theorem putFr_get {n : Nat} {fr fr1 : Fr} {d : Option Tmp} {v : AV} (h : putFr n fr d v = some fr1) (s : Nat) : fr1.get s = if d = some s then v else fr.get s := by
  unfold putFr at h
  cases d with
  | none => simp at h; subst h; simp
  | some d =>
    simp only at h
    split at h
    · simp only [Option.some.injEq] at h; subst h
      rw [get_set]
      by_cases hd : s = d
      · subst hd; simp
      · rw [if_neg hd, if_neg (by simpa using Ne.symm hd)]
    · simp at h
theorem putFr_some {n : Nat} {fr fr1 : Fr} (fr' : Fr) {d : Option Tmp} {v : AV} (h : putFr n fr d v = some fr1) (u : AV) : ∃ fr2, putFr n fr' d u = some fr2 := by
  unfold putFr at h ⊢
  cases d with
  | none => exact ⟨_, rfl⟩
  | some d =>
    simp only at h ⊢
    split at h
    · rename_i hd; rw [if_pos hd]; exact ⟨_, rfl⟩
    · simp at h

theorem opStep_eq {kd : Nat → Kind} {n i : Nat} {o : Oper} {fr fr' fr1 : Fr} {st st1 : St} (hq : FrEq fr fr') (h : opStep c kd n wb callf ops.toList i o fr st = some (fr1, st1)) :
    ∃ fr1', opStep c kd n wb callf ops.toList i o fr' st = some (fr1', st1) ∧ FrEq fr1 fr1' := by
  obtain ⟨v, hp, hv⟩ := opStep_spec h
  obtain ⟨fr1', hp'⟩ := putFr_some fr' hp v
  rw [wantedIn_congr (fun t _ => hq t), opPlan_looks (ops := ops) (fun t _ => hq t)] at hv
  exact ⟨fr1', opStep_of hp' hv, fun s => by rw [putFr_get hp s, putFr_get hp' s, hq s]⟩

theorem opStep_swap (hcf : CallFree c callf) {kd : Nat → Kind} {n i j : Nat} {oi oj : Oper} {fr fr1 fr2 : Fr} {st st1 st2 : St} (hap : oi.apart ops oj = true)
    (h1 : opStep c kd n wb callf ops.toList i oi fr st = some (fr1, st1)) (h2 : opStep c kd n wb callf ops.toList j oj fr1 st1 = some (fr2, st2))
    (hc : (opEff c kd ops.toList i oi fr).clash (opEff c kd ops.toList j oj fr1) = false) :
    ∃ fr1' st1' fr2', opStep c kd n wb callf ops.toList j oj fr st = some (fr1', st1') ∧ opEff c kd ops.toList j oj fr = opEff c kd ops.toList j oj fr1 ∧
      opStep c kd n wb callf ops.toList i oi fr1' st1' = some (fr2', st2) ∧ opEff c kd ops.toList i oi fr1' = opEff c kd ops.toList i oi fr ∧ FrEq fr2 fr2' := by
  obtain ⟨a1, a2, a3⟩ := Oper.apart_spec hap
  obtain ⟨v, hp, hv⟩ := opStep_spec h1
  obtain ⟨u, hq, hu⟩ := opStep_spec h2
  have hlj : ∀ t ∈ oj.looksAt ops, fr1.get t = fr.get t := fun t ht => by
    rw [putFr_get hp t, if_neg]
    intro hd; exact a1 t hd ht
  obtain ⟨fr1', hq'⟩ := putFr_some fr hq u
  have hli : ∀ t ∈ oi.looksAt ops, fr1'.get t = fr.get t := fun t ht => by
    rw [putFr_get hq' t, if_neg]
    intro hd; exact a3 t hd ht
  obtain ⟨fr2', hp'⟩ := putFr_some fr1' hp v
  have heq : FrEq fr2 fr2' := fun s => by
    rw [putFr_get hq s, putFr_get hp s, putFr_get hp' s, putFr_get hq' s]
    by_cases hs : oj.dst = some s
    · rw [if_pos hs, if_pos hs, if_neg]
      intro hd; exact a2 s hd hs
    · rw [if_neg hs, if_neg hs]
  have ej := opEff_looks (c := c) (kd := kd) (i := j) hlj
  have ei := opEff_looks (c := c) (kd := kd) (i := i) hli
  rw [wantedIn_congr hlj, opPlan_looks (ops := ops) hlj] at hu
  rcases hv with ⟨w1, rfl, rfl⟩ | ⟨w1, e1⟩
  · refine ⟨fr1', st2, fr2', opStep_of hq' hu, ej.symm, opStep_of hp' (.inl ⟨by rw [wantedIn_congr hli]; exact w1, rfl, rfl⟩), ei, heq⟩
  · rcases hu with ⟨w2, rfl, rfl⟩ | ⟨w2, e2⟩
    · exact ⟨fr1', st, fr2', opStep_of hq' (.inl ⟨w2, rfl, rfl⟩), ej.symm, opStep_of hp' (.inr ⟨by rw [wantedIn_congr hli]; exact w1, by rw [opPlan_looks (ops := ops) hli]; exact e1⟩), ei, heq⟩
    · have hc' : ((opPlan c (kd i) oi fr).eff c).clash ((opPlan c (kd j) oj fr).eff c) = false := by
        rw [ej] at hc
        unfold opEff at hc
        rw [w1, w2] at hc
        exact hc
      obtain ⟨st1', q1, q2⟩ := exec_swap hcf e1 e2 hc'
      exact ⟨fr1', st1', fr2', opStep_of hq' (.inr ⟨w2, q1⟩), ej.symm, opStep_of hp' (.inr ⟨by rw [wantedIn_congr hli]; exact w1, by rw [opPlan_looks (ops := ops) hli]; exact q2⟩), ei, heq⟩

theorem AnyRun.eq {kd : Nat → Kind} {n : Nat} {es : Nat → Eff} {K : Fr → St → Prop} (hK : ∀ fr fr' st, FrEq fr fr' → K fr st → K fr' st) :
    ∀ (fuel : Nat) (listed : Array Bool) (fr fr' : Fr) (st : St), FrEq fr fr' → AnyRun ops (opStep c kd n wb callf ops.toList) (opEff c kd ops.toList) es K fuel listed fr st →
      AnyRun ops (opStep c kd n wb callf ops.toList) (opEff c kd ops.toList) es K fuel listed fr' st
  | 0, listed, fr, fr', st, hq, h => ⟨h.1, hK _ _ _ hq h.2⟩
  | fuel + 1, listed, fr, fr', st, hq, h => by
    refine ⟨fun h0 => hK _ _ _ hq (h.1 h0), fun i hi o ho => ?_⟩
    obtain ⟨fr1, st1, h1, h2, h3⟩ := h.2 i hi o ho
    obtain ⟨fr1', h4, h5⟩ := opStep_eq hq h1
    exact ⟨fr1', st1, h4, by rw [← opEff_looks (fun t _ => hq t)]; exact h2, AnyRun.eq hK fuel _ _ _ _ h5 h3⟩

/-- What is listed is listed with all that it waits for. -/
def Closed (ops : Array Oper) (listed : Array Bool) : Prop := ∀ (k : Nat) (o : Oper), ops[k]? = some o → listed.getD k false = true → ∀ e ∈ o.after, Region.binds .any e = true → listed.getD e.on false = true

theorem getD_set_eq {listed : Array Bool} {j : Nat} (h : j < listed.size) (d : Bool) : (listed.setIfInBounds j true).getD j d = true := by simp [h]

theorem Closed.set {listed : Array Bool} {j : Nat} (hcl : Closed ops listed) (hj : j ∈ Region.ready .any ops listed) : Closed ops (listed.setIfInBounds j true) := by
  intro k o ho hk e he hb
  obtain ⟨hjun, oj, hoj, hall⟩ := mem_ready.1 hj
  by_cases hkj : j = k
  · subst hkj
    rw [hoj] at ho
    simp only [Option.some.injEq] at ho; subst ho
    exact getD_set_true (hall e he hb)
  · rw [getD_set_ne false hkj] at hk
    exact getD_set_true (hcl k o ho hk e he hb)

theorem anyRun_first (hcf : CallFree c callf) {kd : Nat → Kind} {n i : Nat} {oi : Oper} {es : Nat → Eff} {K : Fr → St → Prop} (hK : ∀ fr fr' st, FrEq fr fr' → K fr st → K fr' st) (hi : ops[i]? = some oi) :
    ∀ (fuel : Nat) (listed : Array Bool) (fr fr1 : Fr) (st st1 : St), Closed ops listed →
      (∀ j oj, ops[j]? = some oj → j ≠ i → listed.getD j true = false → (∀ e ∈ oj.after, Region.binds .any e = true → e.on ≠ i) → oi.apart ops oj = true) →
      (∀ j oj, ops[j]? = some oj → j ≠ i → listed.getD j true = false → (∀ l, Closed ops l → j ∈ Region.ready .any ops l → l.getD i true = false → (es i).clash (es j) = false)) →
      i ∈ Region.ready .any ops listed → opStep c kd n wb callf ops.toList i oi fr st = some (fr1, st1) → opEff c kd ops.toList i oi fr = es i →
      AnyRun ops (opStep c kd n wb callf ops.toList) (opEff c kd ops.toList) es K fuel (listed.setIfInBounds i true) fr1 st1 →
      AnyRun ops (opStep c kd n wb callf ops.toList) (opEff c kd ops.toList) es K (fuel + 1) listed fr st := by
  intro fuel
  induction fuel with
  | zero =>
    intro listed fr fr1 st st1 hcl _ _ hr h1 he H
    refine ⟨fun h => (by rw [h] at hr; cases hr), fun j hj oj hoj => ?_⟩
    by_cases hji : j = i
    · subst hji
      rw [hi] at hoj; simp only [Option.some.injEq] at hoj; subst hoj
      exact ⟨fr1, st1, h1, he, H⟩
    · have := ready_mono hj hji
      rw [H.1] at this
      cases this
  | succ fuel ih =>
    intro listed fr fr1 st st1 hcl hfree hno hr h1 he H
    refine ⟨fun h => (by rw [h] at hr; cases hr), fun j hj oj hoj => ?_⟩
    by_cases hji : j = i
    · subst hji
      rw [hi] at hoj; simp only [Option.some.injEq] at hoj; subst hoj
      exact ⟨fr1, st1, h1, he, H⟩
    · obtain ⟨fr2, st2, h2, he2, H2⟩ := H.2 j (ready_mono hj hji) oj hoj
      obtain ⟨hjun, oj', hoj', hall⟩ := mem_ready.1 hj
      rw [hoj] at hoj'; simp only [Option.some.injEq] at hoj'; subst hoj'
      have hiun := (mem_ready.1 hr).1
      have hnot : ∀ e ∈ oj.after, Region.binds .any e = true → e.on ≠ i := fun e he hb heq => by
        have h1 := hall e he hb
        rw [heq] at h1
        rcases Nat.lt_or_ge i listed.size with h' | h'
        · simp [h'] at hiun h1; rw [hiun] at h1; cases h1
        · simp [Array.getElem?_eq_none h'] at h1
      have hap := hfree j oj hoj hji hjun hnot
      have hcl2 := hno j oj hoj hji hjun listed hcl hj hiun
      obtain ⟨fr1', st1', fr2', q1, q2, q3, q4, q5⟩ := opStep_swap hcf hap h1 h2 (by rw [he, he2]; exact hcl2)
      refine ⟨fr1', st1', q1, by rw [q2]; exact he2, ?_⟩
      refine ih (listed.setIfInBounds j true) fr1' fr2' st1' st2 (hcl.set hj) (fun k ok hk hki hun hno' => hfree k ok hk hki ?_ hno') (fun k ok hk hki hun => hno k ok hk hki ?_) (ready_mono hr (Ne.symm hji)) q3 (by rw [q4]; exact he) ?_
      · by_cases hjk : j = k
        · subst hjk; exact hjun
        · rw [getD_set_ne true hjk] at hun; exact hun
      · by_cases hjk : j = k
        · subst hjk; exact hjun
        · rw [getD_set_ne true hjk] at hun; exact hun
      · rw [Array.setIfInBounds_comm _ _ hji]
        exact AnyRun.eq hK _ _ _ _ _ q5 H2
end

end Go.AI
