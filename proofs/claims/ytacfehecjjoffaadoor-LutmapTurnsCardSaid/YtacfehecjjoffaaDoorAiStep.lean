/- One operation: what the abstract interpreter says of it holds in the model. -/
import Derived.Test.YtacfehecjjoffaaDoorAiMaps
import Derived.Test.YtacfehecjjoffaaDoorAiOrder2
set_option linter.unusedVariables false
set_option linter.unusedSimpArgs false
namespace Go.AI
open Go

/-- A function's run, told by its value and the world behind it. -/
def FnRuns (P : Program) (f : FuncId) (vals : Array Value) (w : World) (R : Value → World → Prop) : Prop :=
  match (callFunc f vals).run P w with
  | .ok (.value v) w' => R v w'
  | .ok (.enter g as) w' => Calls P g as w' fun e w'' => match e with | .returned v => R v w'' | _ => False
  | _ => False

theorem FnRuns.mono {P : Program} {f : FuncId} {vals : Array Value} {w : World} {R R' : Value → World → Prop} (h : FnRuns P f vals w R) (hr : ∀ v w', R v w' → R' v w') : FnRuns P f vals w R' := by
  unfold FnRuns at *
  generalize (callFunc f vals).run P w = r at *
  cases r with
  | halt x w' => exact h
  | ok n w' =>
    cases n <;> simp only at h ⊢ <;> try exact h
    case value v => exact hr _ _ h
    case enter g as =>
      refine Calls.mono h fun e w'' he => ?_
      cases e with
      | returned v => exact hr _ _ he
      | _ => exact he

def ArgsC (E : Env) (st : St) (args : List AV) (vals : Array Value) : Prop := vals.size = args.length ∧ ∀ (i : Nat) (x : AV), args[i]? = some x → AVC E st x (vals.getD i undef)

def CallOK (P : Program) (c : Cfg) (callf : FuncId → List AV → St → Option (AV × St)) : Prop :=
  ∀ f args st v st', callf f args st = some (v, st') → ∀ E w vals, WS c E st w → ArgsC E st args vals → FnRuns P f vals w fun x w' => ∃ E', AVC E' st' v x ∧ Step c E st w E' st' w'

def OpGood (P : Program) (c : Cfg) (E : Env) (st : St) (w : World) (o : Oper) (a : Act) (v : AV) (st' : St) : Prop :=
  ∀ (next : Act → World → Prop) (Q : Exit → Act → World → Prop), (∀ x w' E', AVC E' st' v x → Step c E st w E' st' w' → next (a.put o.dst x) w') → o.wp P a w next Q

variable {P : Program} {c : Cfg} {E : Env} {st : St} {w : World} {wb : Nat} {callf : FuncId → List AV → St → Option (AV × St)} {av : AV} {st' : St} {o : Oper} {a : Act}

theorem good_value {x : Value} {w' : World} {E' : Env} (hr : (execOp a.eval o).run P w = .ok (.value x) w') (hv : AVC E' st' av x) (hS : Step c E st w E' st' w') : OpGood P c E st w o a av st' := by
  intro next Q hn
  unfold Oper.wp
  rw [hr]
  exact hn x w' E' hv hS
theorem good_skip {w' : World} {E' : Env} (hr : (execOp a.eval o).run P w = .ok .skip w') (hv : AVC E' st' av undef) (hS : Step c E st w E' st' w') : OpGood P c E st w o a av st' := by
  intro next Q hn
  unfold Oper.wp
  rw [hr]
  exact hn undef w' E' hv hS

theorem good_call {f : FuncId} {vals : Array Value} (hr : (execOp a.eval o).run P w = (callFunc f vals).run P w) (h : FnRuns P f vals w fun x w' => ∃ E', AVC E' st' av x ∧ Step c E st w E' st' w') : OpGood P c E st w o a av st' := by
  intro next Q hn
  unfold Oper.wp
  rw [hr]
  unfold FnRuns at h
  generalize (callFunc f vals).run P w = r at *
  cases r with
  | halt x w' => exact h.elim
  | ok n w' =>
    cases n <;> simp only [Oper.upon] at h ⊢ <;> try exact h.elim
    case value v => obtain ⟨E', h1, h2⟩ := h; exact hn _ _ E' h1 h2
    case enter g as =>
      refine Calls.mono h fun e w'' he => ?_
      cases e with
      | returned v => obtain ⟨E', h1, h2⟩ := he; exact hn _ _ E' h1 h2
      | _ => exact he.elim

theorem pairs_sound {fr : Fr} (hW : WS c E st w) (hf : FrC E st fr a) (ps : Array (Nat × Operand)) :
    (ps.map fun (i, x) => (i, a.eval x)).size = (ps.toList.map fun (i, x) => (i, c.eval fr x)).length ∧
    ∀ (i : Nat) (p : Nat × AV), (ps.toList.map fun (i, x) => (i, c.eval fr x))[i]? = some p → ∃ q : Nat × Value, (ps.map fun (i, x) => (i, a.eval x)).toList[i]? = some q ∧ q.1 = p.1 ∧ AVC E st p.2 q.2 := by
  refine ⟨by simp, fun i p hp => ?_⟩
  rw [List.getElem?_map] at hp
  obtain ⟨⟨k, x⟩, hx, hp⟩ := Option.map_eq_some_iff.1 hp
  subst hp
  refine ⟨(k, a.eval x), ?_, rfl, eval_sound hW hf x⟩
  rw [Array.toList_map, List.getElem?_map, hx]
  rfl

theorem args_sound {fr : Fr} (hW : WS c E st w) (hf : FrC E st fr a) (xs : Array Operand) (i : Nat) (x : AV) (h : (xs.toList.map (c.eval fr))[i]? = some x) : ∃ v, (xs.map a.eval)[i]? = some v ∧ AVC E st x v := by
  rw [List.getElem?_map] at h
  obtain ⟨y, hy, rfl⟩ := Option.map_eq_some_iff.1 h
  refine ⟨a.eval y, ?_, eval_sound hW hf y⟩
  rw [Array.getElem?_map, ← Array.getElem?_toList, hy]; rfl

theorem oneAll_sound : ∀ (l : List AV) (cs : List Cell), opPlan.oneAll l = some cs → l = cs.map .one
  | [], cs, h => by simp only [opPlan.oneAll, Option.some.injEq] at h; subst h; rfl
  | .one x :: l, cs, h => by
    simp only [opPlan.oneAll] at h
    obtain ⟨cs', h', rfl⟩ := Option.map_eq_some_iff.1 h
    rw [oneAll_sound l cs' h']; rfl
  | .any :: l, cs, h => by simp [opPlan.oneAll] at h
  | .agg _ :: l, cs, h => by simp [opPlan.oneAll] at h
  | .tup _ :: l, cs, h => by simp [opPlan.oneAll] at h

theorem optC_map {fr : Fr} (hW : WS c E st w) (hf : FrC E st fr a) (x : Option Operand) : optC E st (x.map (c.eval fr)) (x.map a.eval) := by
  cases x with
  | none => trivial
  | some x => exact eval_sound hW hf x

theorem run_do_value {s : Sem Value} {x : Value} {w' : World} (h : s.run P w = .ok x w') : (do pure (Next.value (← s)) : Sem Next).run P w = .ok (.value x) w' := by simp [h]
theorem run_do_skip {s : Sem Unit} {w' : World} (h : s.run P w = .ok () w') : (do s; pure Next.skip : Sem Next).run P w = .ok .skip w' := by simp [h]

theorem callPlan_sound {kd : Kind} {fr : Fr} {cl : Call} (ho : o.op = .call cl) (hty : ∀ t i, c.ty t = some i → TyOK P t i) (hW : WS c E st w) (hf : FrC E st fr a) (hcall : CallOK P c callf)
    (h : (callPlan c kd fr cl).exec wb callf st = some (av, st')) : OpGood P c E st w o a av st' := by
  have hex : execOp a.eval o = (do let d ← resolve a.eval cl o.type; invoke d.target d.args) := by
    unfold execOp; rw [ho]
  have hargs := args_sound hW hf cl.args
  unfold callPlan at h
  simp only at h
  cases hc : cl.callee with
  | value f =>
    rw [hc] at h
    simp only at h
    split at h
    · rename_i g first captured hev
      have hfv := eval_sound hW hf f
      rw [hev] at hfv
      obtain ⟨fs, cs, hval, s1, s2, c1, c2⟩ := hfv.func_inv
      have hA : ArgsC E st (first.map .one ++ cl.args.toList.map (c.eval fr) ++ captured.map .one) (fs ++ cl.args.map a.eval ++ cs) := by
        refine ⟨by simp [s1, s2], fun i x hi => ?_⟩
        by_cases h1 : i < first.length
        · rw [List.append_assoc, List.getElem?_append_left (by simpa using h1)] at hi
          rw [List.getElem?_map] at hi
          obtain ⟨y, hy, rfl⟩ := Option.map_eq_some_iff.1 hi
          have := c1 i y hy
          rw [Array.getD_eq_getD_getElem?, Array.append_assoc, Array.getElem?_append_left (by omega), ← Array.getD_eq_getD_getElem?]
          exact .one _ _ this
        · by_cases h2 : i < first.length + cl.args.size
          · rw [List.append_assoc, List.getElem?_append_right (by simpa using h1), List.getElem?_append_left (by simp; omega)] at hi
            obtain ⟨v, hv, hv2⟩ := hargs _ x hi
            simp only [List.length_map] at hv
            rw [Array.getD_eq_getD_getElem?, Array.append_assoc, Array.getElem?_append_right (by omega), Array.getElem?_append_left (by simp; omega), s1, hv]
            exact hv2
          · rw [List.getElem?_append_right (by simp; omega)] at hi
            rw [List.getElem?_map] at hi
            obtain ⟨y, hy, rfl⟩ := Option.map_eq_some_iff.1 hi
            have := c2 _ y hy
            rw [Array.getD_eq_getD_getElem?] at this
            rw [Array.getD_eq_getD_getElem?, Array.getElem?_append_right (by simp; omega)]
            refine .one _ _ ?_
            have e : (first.map AV.one ++ cl.args.toList.map (c.eval fr)).length = (fs ++ cl.args.map a.eval).size := by simp [s1]
            rw [e] at this
            exact this
      refine good_call (f := g) (vals := fs ++ cl.args.map a.eval ++ cs) ?_ (hcall g _ st av st' h E w _ hW hA)
      rw [hex]
      simp only [resolve, hc, hval, Deferred.ofValue, pure_bind, invoke]
    · exact (exec_fail h).elim
  | invoke r m => rw [hc] at h; exact (exec_fail h).elim
  | builtin b =>
    rw [hc] at h
    simp only at h
    obtain ⟨ks, hbi⟩ : ∃ ks, (execOp a.eval o) = builtin b cl.argTypes o.type ks (cl.args.map a.eval) := by
      rw [hex]; simp only [resolve, hc, pure_bind, invoke]
      exact ⟨_, rfl⟩
    have fin : ∀ (s : Sem Value), builtin b cl.argTypes o.type ks (cl.args.map a.eval) = (do pure (.value (← s))) → ∀ x w' E', s.run P w = .ok x w' → AVC E' st' av x → Step c E st w E' st' w' → OpGood P c E st w o a av st' := by
      intro s hs x w' E' hr hv hS
      refine good_value (x := x) (w' := w') (E' := E') ?_ hv hS
      rw [hbi, hs]; exact run_do_value hr
    have one : ∀ x, cl.args.toList.map (c.eval fr) = [x] → ∃ v, cl.args.map a.eval = #[v] ∧ AVC E st x v := by
      intro x hx
      obtain ⟨v, hv, hv2⟩ := hargs 0 x (by rw [hx]; rfl)
      have hsz : (cl.args.map a.eval).size = 1 := by have := congrArg List.length hx; simpa using this
      refine ⟨v, ?_, hv2⟩
      apply Array.ext (by simpa using hsz)
      intro i h1 h2
      have : i = 0 := by simp at h2; omega
      subst this
      rw [Array.getElem?_eq_getElem h1] at hv
      simpa using hv
    have two : ∀ x y, cl.args.toList.map (c.eval fr) = [x, y] → ∃ v u, cl.args.map a.eval = #[v, u] ∧ AVC E st x v ∧ AVC E st y u := by
      intro x y hx
      obtain ⟨v, hv, hv2⟩ := hargs 0 x (by rw [hx]; rfl)
      obtain ⟨u, hu, hu2⟩ := hargs 1 y (by rw [hx]; rfl)
      have hsz : (cl.args.map a.eval).size = 2 := by have := congrArg List.length hx; simpa using this
      refine ⟨v, u, ?_, hv2, hu2⟩
      apply Array.ext (by simpa using hsz)
      intro i h1 h2
      match i, h1 with
      | 0, h1 => rw [Array.getElem?_eq_getElem h1] at hv; simpa using hv
      | 1, h1 => rw [Array.getElem?_eq_getElem h1] at hu; simpa using hu
      | i + 2, h1 => omega
    have hts : ∀ t ts, cl.argTypes.toList = t :: ts → cl.argTypes[0]? = some t := fun t ts h => by rw [← Array.getElem?_toList, h]; rfl
    split at h
    · rename_i t ts s x hat hal
      obtain ⟨v, u, e1, e2, e3⟩ := two _ _ hal
      have hat' : cl.argTypes = (t :: ts).toArray := by rw [← hat]
      obtain ⟨y, w', E', r1, r2, r3⟩ := appendPlan_sound (P := P) (ty := o.type) hty hW e2 e3 h
      exact fin (Builtin.append_ cl.argTypes o.type #[v, u]) (by rw [e1]; rfl) y w' E' (by rw [hat']; exact r1) r2 r3
    · rename_i t ts x hat hal
      obtain ⟨v, e1, e2⟩ := one _ hal
      obtain ⟨rfl, y, r1, r2⟩ := lenPlan_sound (P := P) (ty := o.type) hty hW e2 cl.argTypes (hts _ _ hat) #[v] rfl h
      exact fin (Builtin.len_ cl.argTypes o.type #[v]) (by rw [e1]; rfl) y w E r1 r2 (Step.refl hW)
    · rename_i t ts x hat hal
      obtain ⟨v, e1, e2⟩ := one _ hal
      obtain ⟨rfl, y, r1, r2⟩ := capPlan_sound (P := P) (w := w) (ty := o.type) hty e2 cl.argTypes (hts _ _ hat) #[v] rfl h
      exact fin (Builtin.cap_ cl.argTypes o.type #[v]) (by rw [e1]; rfl) y w E r1 r2 (Step.refl hW)
    · rename_i t ts x y hat hal
      obtain ⟨v, u, e1, e2, e3⟩ := two _ _ hal
      obtain ⟨y, w', E', r1, r2, r3⟩ := copyPlan_sound (P := P) (ty := o.type) hty hW e2 e3 (hts _ _ hat) h
      exact fin (Builtin.copy_ cl.argTypes o.type #[v, u]) (by rw [e1]; rfl) y w' E' r1 r2 r3
    · rename_i t ts x hat hal
      obtain ⟨v, e1, e2⟩ := one _ hal
      obtain ⟨y, w', E', r1, r2, r3⟩ := clearPlan_sound (P := P) (ty := o.type) hty hW e2 (hts _ _ hat) h
      exact fin (Builtin.clear_ cl.argTypes o.type #[v]) (by rw [e1]; rfl) y w' E' r1 r2 r3
    · rename_i t ts x y hat hal
      obtain ⟨v, u, e1, e2, e3⟩ := two _ _ hal
      obtain ⟨y, w', E', r1, r2, r3⟩ := delete_sound (P := P) (ty := o.type) hty hW e2 e3 (hts _ _ hat) h
      exact fin (Builtin.delete_ cl.argTypes o.type #[v, u]) (by rw [e1]; rfl) y w' E' r1 r2 r3
    · obtain ⟨hm, rfl⟩ := exec_opt h
      obtain ⟨y, r1, r2⟩ := minmax_sound (P := P) (w := w) (b := true) (ts := cl.argTypes) (ty := o.type) (vs := cl.args.map a.eval) (by simp) hargs hm
      exact fin (Builtin.max_ cl.argTypes o.type (cl.args.map a.eval)) rfl y w E (by simpa using r1) r2 (Step.refl hW)
    · obtain ⟨hm, rfl⟩ := exec_opt h
      obtain ⟨y, r1, r2⟩ := minmax_sound (P := P) (w := w) (b := false) (ts := cl.argTypes) (ty := o.type) (vs := cl.args.map a.eval) (by simp) hargs hm
      exact fin (Builtin.min_ cl.argTypes o.type (cl.args.map a.eval)) rfl y w E (by simpa using r1) r2 (Step.refl hW)
    · exact (exec_fail h).elim

end Go.AI
