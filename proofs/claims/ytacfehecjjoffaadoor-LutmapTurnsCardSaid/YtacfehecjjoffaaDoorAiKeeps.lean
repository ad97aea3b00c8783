/- What may not be written is not; which calls stand alone. -/
import Derived.Test.YtacfehecjjoffaaDoorAiOrder2
set_option linter.unusedVariables false
set_option linter.unusedSimpArgs false
namespace Go.AI
open Go

def Keeps (wb : Nat) (st st' : St) : Prop := ∀ r, r < wb → r < st.length → st'[r]? = st[r]?

theorem Keeps.refl (wb : Nat) (st : St) : Keeps wb st st := fun _ _ _ => rfl
theorem Keeps.trans {wb : Nat} {st st1 st2 : St} (h : Keeps wb st st1) (h' : Keeps wb st1 st2) : Keeps wb st st2 := fun r h1 h2 => by
  have e := h r h1 h2
  have : r < st1.length := by
    rw [List.getElem?_eq_getElem h2] at e
    exact (List.getElem?_eq_some_iff.1 e).1
  rw [h' r h1 this, e]
theorem keeps_trim (wb : Nat) (st st' : St) (ok : Bool) (h : Keeps wb st st') : Keeps wb st (trim st.length ok st') := fun r h1 h2 => by
  unfold trim
  split
  · exact h r h1 h2
  · split
    · rw [List.getElem?_take, if_pos h2]; exact h r h1 h2
    · exact h r h1 h2

variable {c : Cfg} {wb : Nat} {callf : FuncId → List AV → St → Option (AV × St)}

theorem exec_keeps (hc : ∀ f args st v st', callf f args st = some (v, st') → Keeps wb st st') {p : Plan} {v : AV} {st st' : St} (h : p.exec wb callf st = some (v, st')) : Keeps wb st st' := by
  cases p with
  | fail => simp [Plan.exec] at h
  | val v' =>
    simp only [Plan.exec, Option.some.injEq, Prod.mk.injEq] at h
    obtain ⟨_, rfl⟩ := h
    exact .refl _ _
  | rd r k =>
    simp only [Plan.exec] at h
    obtain ⟨x, _, h⟩ := Option.bind_eq_some_iff.1 h
    obtain ⟨_, _, h⟩ := Option.map_eq_some_iff.1 h
    simp only [Prod.mk.injEq] at h
    obtain ⟨_, rfl⟩ := h
    exact .refl _ _
  | wr r k =>
    simp only [Plan.exec] at h
    split at h
    · rename_i hwb
      obtain ⟨x, hx, h⟩ := Option.bind_eq_some_iff.1 h
      obtain ⟨⟨v', x'⟩, hk, h⟩ := Option.map_eq_some_iff.1 h
      simp only [Prod.mk.injEq] at h
      obtain ⟨_, rfl⟩ := h
      intro r' h1 h2
      rw [List.getElem?_set, if_neg (by omega)]
    · simp at h
  | new xs k =>
    simp only [Plan.exec, Option.some.injEq, Prod.mk.injEq] at h
    obtain ⟨_, rfl⟩ := h
    intro r' h1 h2
    rw [List.getElem?_append_left h2]
  | call f args => exact hc f args st v st' h

theorem opStep_keeps (hc : ∀ f args st v st', callf f args st = some (v, st') → Keeps wb st st') {kd : Nat → Kind} {n i : Nat} {ol : List Oper} {o : Oper} {fr fr' : Fr} {st st' : St}
    (h : opStep c kd n wb callf ol i o fr st = some (fr', st')) : Keeps wb st st' := by
  unfold opStep at h
  split at h
  · simp at h
  · obtain ⟨_, _, h⟩ := Option.map_eq_some_iff.1 h
    simp only [Prod.mk.injEq] at h
    obtain ⟨_, rfl⟩ := h
    exact .refl _ _
  · obtain ⟨⟨v, st1⟩, he, h⟩ := Option.bind_eq_some_iff.1 h
    obtain ⟨_, _, h⟩ := Option.map_eq_some_iff.1 h
    simp only [Prod.mk.injEq] at h
    obtain ⟨_, rfl⟩ := h
    exact exec_keeps hc he

theorem opsRun_keeps (hc : ∀ f args st v st', callf f args st = some (v, st') → Keeps wb st st') {f : FuncId} {n rid : Nat} {ol : List Oper} {fr' : Fr} {st' : St} :
    ∀ (l : List Oper) (k : Nat) (fr : Fr) (st : St), opsRun c f n wb rid callf ol k l fr st = some (fr', st') → Keeps wb st st'
  | [], k, fr, st, h => by
    simp only [opsRun, Option.some.injEq, Prod.mk.injEq] at h
    obtain ⟨_, rfl⟩ := h
    exact .refl _ _
  | o :: l, k, fr, st, h => by
    rw [opsRun_cons] at h
    obtain ⟨⟨fr1, st1⟩, hs, h⟩ := Option.bind_eq_some_iff.1 h
    exact (opStep_keeps hc hs).trans (opsRun_keeps hc l (k + 1) fr1 st1 h)

structure RecKeeps (rec : Task → Option Out) : Prop where
  code : ∀ f wb code fr st e fr' st', rec (.code f wb code fr st) = some (.code e fr' st') → Keeps wb st st'
  call : ∀ f wb args st v st', rec (.call f wb args st) = some (.call v st') → Keeps wb st st'

theorem handOn_keeps {kd : Kind} {v v' : AV} {st1 st st' : St} (h : handOn kd v st1 st = some (v', st')) : Keeps wb st st' := by
  have app : ∀ (x : Res), Keeps wb st (st ++ [x]) := fun x r h1 h2 => by rw [List.getElem?_append_left h2]
  cases kd with
  | plain =>
    simp only [handOn] at h
    obtain ⟨_, _, h⟩ := Option.map_eq_some_iff.1 h
    simp only [Prod.mk.injEq] at h
    obtain ⟨_, rfl⟩ := h
    exact .refl _ _
  | own =>
    simp only [handOn] at h
    split at h
    · split at h
      · split at h
        · obtain ⟨_, _, h⟩ := Option.map_eq_some_iff.1 h
          simp only [Prod.mk.injEq] at h
          obtain ⟨_, rfl⟩ := h
          exact app _
        · simp at h
      · split at h
        · simp only [Option.some.injEq, Prod.mk.injEq] at h
          obtain ⟨_, rfl⟩ := h
          exact app _
        · simp at h
      · simp at h
    · simp only [Option.some.injEq, Prod.mk.injEq] at h
      obtain ⟨_, rfl⟩ := h
      exact .refl _ _
    · simp only [Option.some.injEq, Prod.mk.injEq] at h
      obtain ⟨_, rfl⟩ := h
      exact .refl _ _
    · simp at h
  | tok =>
    simp only [handOn] at h
    split at h
    · split at h
      · split at h
        · simp only [Option.some.injEq, Prod.mk.injEq] at h
          obtain ⟨_, rfl⟩ := h
          exact app _
        · simp at h
      · simp at h
    · split at h
      · split at h
        · obtain ⟨_, _, h⟩ := Option.map_eq_some_iff.1 h
          simp only [Prod.mk.injEq] at h
          obtain ⟨_, rfl⟩ := h
          exact app _
        · simp at h
      · split at h
        · simp only [Option.some.injEq, Prod.mk.injEq] at h
          obtain ⟨_, rfl⟩ := h
          exact app _
        · simp at h
      · simp at h
    · simp at h

theorem callBody_keeps {rec : Task → Option Out} (hr : RecKeeps rec) {f : FuncId} {fi : FnInfo} {args : List AV} {st : St} {v : AV} {st' : St} (h : callBody c rec f fi wb args st = some (v, st')) : Keeps wb st st' := by
  unfold callBody at h
  split at h
  · split at h
    · rename_i e fr' st1 hb
      split at h
      · obtain ⟨_, _, h⟩ := Option.map_eq_some_iff.1 h
        simp only [Prod.mk.injEq] at h
        obtain ⟨_, rfl⟩ := h
        exact hr.code _ _ _ _ _ _ _ _ hb
      · simp at h
    · simp at h
  · simp at h

theorem callStep_keeps {rec : Task → Option Out} (hr : RecKeeps rec) {f : FuncId} {args : List AV} {st : St} {v : AV} {st' : St} (h : callStep c rec f wb args st = some (v, st')) : Keeps wb st st' := by
  unfold callStep at h
  split at h
  · obtain ⟨_, _, h⟩ := Option.bind_eq_some_iff.1 h
    obtain ⟨_, _, h⟩ := Option.map_eq_some_iff.1 h
    simp only [Prod.mk.injEq] at h
    obtain ⟨_, rfl⟩ := h
    exact .refl _ _
  · split at h
    · split at h
      · rename_i hwb; subst hwb; intro r h1; omega
      · simp at h
    · split at h
      · simp at h
      · split at h
        · obtain ⟨⟨v1, st1⟩, hb, h⟩ := Option.map_eq_some_iff.1 h
          simp only [Prod.mk.injEq] at h
          obtain ⟨_, rfl⟩ := h
          exact keeps_trim _ _ _ _ (callBody_keeps hr hb)
        · obtain ⟨⟨v1, st1⟩, hb, h⟩ := Option.bind_eq_some_iff.1 h
          exact handOn_keeps h
        · obtain ⟨⟨v1, st1⟩, hb, h⟩ := Option.bind_eq_some_iff.1 h
          obtain ⟨v2, _, h⟩ := Option.bind_eq_some_iff.1 h
          split at h
          · simp only [Option.some.injEq, Prod.mk.injEq] at h
            obtain ⟨_, rfl⟩ := h
            exact .refl _ _
          · simp at h

theorem callfOf_some {rec : Task → Option Out} {g : FuncId} {args : List AV} {st st' : St} {v : AV} (h : callfOf rec wb g args st = some (v, st')) : rec (.call g wb args st) = some (.call v st') := by
  unfold callfOf at h
  split at h
  · rename_i hr
    simp only [Option.some.injEq, Prod.mk.injEq] at h
    obtain ⟨rfl, rfl⟩ := h
    exact hr
  · simp at h

theorem step_keeps {rec : Task → Option Out} (hr : RecKeeps rec) : RecKeeps (step c rec) where
  call := fun f wb args st v st' h => by
    simp only [step] at h
    obtain ⟨⟨v1, st1⟩, hc, h⟩ := Option.map_eq_some_iff.1 h
    simp only [Out.call.injEq] at h
    obtain ⟨_, rfl⟩ := h
    exact callStep_keeps hr hc
  code := fun f wb code fr st e fr' st' h => by
    have hcall : ∀ g args st v st', callfOf rec wb g args st = some (v, st') → Keeps wb st st' := fun g args st v st' h => hr.call _ _ _ _ _ _ (callfOf_some h)
    cases code <;> simp only [step] at h
    case skip => simp only [Option.some.injEq, Out.code.injEq] at h; obtain ⟨_, _, rfl⟩ := h; exact .refl _ _
    case region id ops draw =>
      split at h
      · simp at h
      · obtain ⟨⟨fr1, st1⟩, ho, h⟩ := Option.map_eq_some_iff.1 h
        simp only [Out.code.injEq] at h
        obtain ⟨_, _, rfl⟩ := h
        exact opsRun_keeps hcall _ _ _ _ ho
    case seq a b =>
      split at h
      · rename_i fr1 st1 h1
        exact (hr.code _ _ _ _ _ _ _ _ h1).trans (hr.code _ _ _ _ _ _ _ _ h)
      · exact hr.code _ _ _ _ _ _ _ _ h
    case cond x a b =>
      split at h
      · exact hr.code _ _ _ _ _ _ _ _ h
      · exact hr.code _ _ _ _ _ _ _ _ h
      · simp at h
    case block id body =>
      split at h
      · rename_i id' fr1 st1 h1
        simp only [Option.some.injEq, Out.code.injEq] at h
        obtain ⟨_, _, rfl⟩ := h
        exact hr.code _ _ _ _ _ _ _ _ h1
      · exact hr.code _ _ _ _ _ _ _ _ h
    case loop body =>
      split at h
      · rename_i fr1 st1 h1
        exact (keeps_trim _ _ _ _ (hr.code _ _ _ _ _ _ _ _ h1)).trans (hr.code _ _ _ _ _ _ _ _ h)
      · exact hr.code _ _ _ _ _ _ _ _ h
    case scope body => exact hr.code _ _ _ _ _ _ _ _ h
    case label l => simp only [Option.some.injEq, Out.code.injEq] at h; obtain ⟨_, _, rfl⟩ := h; exact .refl _ _
    case exit id => simp only [Option.some.injEq, Out.code.injEq] at h; obtain ⟨_, _, rfl⟩ := h; exact .refl _ _
    case ret => simp only [Option.some.injEq, Out.code.injEq] at h; obtain ⟨_, _, rfl⟩ := h; exact .refl _ _
    all_goals simp at h

theorem run_keeps : ∀ n, RecKeeps (run c n)
  | 0 => ⟨fun _ _ _ _ _ _ _ _ h => by simp [run] at h, fun _ _ _ _ _ _ h => by simp [run] at h⟩
  | n + 1 => step_keeps (run_keeps n)

/-! calls whose order may be open -/
theorem pureX_some (x : Cell) (h : x.pure1.isSome = true) : x.pureX.isSome = true := by
  cases x with
  | slice tok e rows => cases tok <;> simp_all [Cell.pureX, Cell.pure1]
  | _ => simpa [Cell.pureX] using h
theorem purifyX_some : ∀ (l : List Cell), (purify l).isSome = true → (purifyX l).isSome = true
  | [], _ => rfl
  | x :: l, h => by
    simp only [purify] at h
    split at h
    · rename_i y m hy hm
      have h1 := pureX_some x (by rw [hy]; rfl)
      have h2 := purifyX_some l (by rw [hm]; rfl)
      obtain ⟨y', h1⟩ := Option.isSome_iff_exists.1 h1
      obtain ⟨m', h2⟩ := Option.isSome_iff_exists.1 h2
      simp [purifyX, h1, h2]
    · simp at h
theorem avX_some (x : AV) (h : x.pure1.isSome = true) : x.pureX.isSome = true := by
  cases x with
  | one y => simp only [AV.pure1, Option.isSome_map] at h; simpa [AV.pureX] using pureX_some y h
  | agg cs => simp only [AV.pure1, Option.isSome_map] at h; simpa [AV.pureX] using purifyX_some cs h
  | any => simp [AV.pure1] at h
  | tup _ => simp [AV.pure1] at h
theorem pureArgsX_some : ∀ (l : List AV), (pureArgs l).isSome = true → (pureArgsX l).isSome = true
  | [], _ => rfl
  | x :: l, h => by
    simp only [pureArgs] at h
    split at h
    · rename_i y m hy hm
      have h1 := avX_some x (by rw [hy]; rfl)
      have h2 := pureArgsX_some l (by rw [hm]; rfl)
      obtain ⟨y', h1⟩ := Option.isSome_iff_exists.1 h1
      obtain ⟨m', h2⟩ := Option.isSome_iff_exists.1 h2
      simp [pureArgsX, h1, h2]
    · simp at h

theorem handOn_plain_st {v v' : AV} {st1 st st' : St} (h : handOn .plain v st1 st = some (v', st')) : st' = st ∧ ∀ st2, handOn .plain v st1 st2 = some (v', st2) := by
  simp only [handOn] at h ⊢
  obtain ⟨y, hy, h⟩ := Option.map_eq_some_iff.1 h
  simp only [Prod.mk.injEq] at h
  obtain ⟨rfl, rfl⟩ := h
  exact ⟨rfl, fun st2 => by rw [hy]; rfl⟩

theorem step_free {rec : Task → Option Out} : CallFree c (callfOf (step c rec) wb) where
  alone := fun f args st v st' ha h => by
    have h := callfOf_some h
    simp only [step] at h
    obtain ⟨⟨v1, st1⟩, hc, h⟩ := Option.map_eq_some_iff.1 h
    simp only [Out.call.injEq] at h
    obtain ⟨rfl, rfl⟩ := h
    suffices hh : st1 = st ∧ ∀ st2, callStep c rec f wb args st2 = some (v1, st2) by
      refine ⟨hh.1, fun st2 => ?_⟩
      simp only [callfOf, step, hh.2 st2, Option.map_some]
    unfold callStep at hc ⊢
    simp only [Cfg.alone, Bool.or_eq_true, Bool.and_eq_true] at ha
    cases hp : c.prim f with
    | some p =>
      rw [hp] at hc
      simp only at hc ⊢
      obtain ⟨a', ha', hc⟩ := Option.bind_eq_some_iff.1 hc
      obtain ⟨v', hv', hc⟩ := Option.map_eq_some_iff.1 hc
      simp only [Prod.mk.injEq] at hc
      obtain ⟨rfl, rfl⟩ := hc
      exact ⟨rfl, fun st2 => by rw [ha']; simp [hv']⟩
    | none =>
      rw [hp] at hc ha
      simp only [Option.isSome_none, Bool.false_eq_true, false_or] at ha
      obtain ⟨⟨⟨a1, a2⟩, a3⟩, a4⟩ := ha
      have hps : c.primS f = none := by simpa using a1
      rw [hps] at hc ⊢
      simp only at hc ⊢
      cases hf : c.fn f with
      | none => rw [hf] at hc; simp at hc
      | some fi =>
        rw [hf] at hc
        simp only at hc ⊢
        have hargs : ∃ args', (if c.mode f = .exact then pureArgsX args else pureArgs args) = some args' := by
          split
          · exact Option.isSome_iff_exists.1 (pureArgsX_some args a4)
          · exact Option.isSome_iff_exists.1 a4
        obtain ⟨args', hargs⟩ := hargs
        rw [hargs] at hc ⊢
        have hfr : c.fresh f = .plain := by simpa using a3
        rw [hfr] at hc ⊢
        have key : ((callBody c rec f fi 0 args' []).bind fun (x : AV × St) => handOn .plain x.1 x.2 st) = some (v1, st1) := by
          cases hm : c.mode f <;> rw [hm] at hc a2 <;> first | exact hc | (simp at a2; done)
        obtain ⟨⟨u, s⟩, hb, hh⟩ := Option.bind_eq_some_iff.1 key
        obtain ⟨q1, q2⟩ := handOn_plain_st hh
        refine ⟨q1, fun st2 => ?_⟩
        have : ((callBody c rec f fi 0 args' []).bind fun (x : AV × St) => handOn .plain x.1 x.2 st2) = some (v1, st2) := by
          rw [hb]; exact q2 st2
        cases hm : c.mode f <;> rw [hm] at a2 <;> first | exact this | (simp at a2; done)
  still := fun f args st v st' he h => by
    have h := callfOf_some h
    simp only [step] at h
    obtain ⟨⟨v1, st1⟩, hc, h⟩ := Option.map_eq_some_iff.1 h
    simp only [Out.call.injEq] at h
    obtain ⟨rfl, rfl⟩ := h
    unfold callStep at hc
    cases hp : c.prim f with
    | some p =>
      rw [hp] at hc
      simp only at hc
      obtain ⟨a', ha', hc⟩ := Option.bind_eq_some_iff.1 hc
      obtain ⟨v', hv', hc⟩ := Option.map_eq_some_iff.1 hc
      simp only [Prod.mk.injEq] at hc
      exact hc.2.symm
    | none =>
      rw [hp] at hc
      simp only [Plan.eff, Cfg.alone, hp, Option.isSome_none, Bool.false_or] at he
      have h3 : (c.primS f) = none ∧ c.mode f ≠ .mt ∧ c.fresh f = .plain := by
        cases h1 : c.primS f with
        | some p => rw [h1] at he; simp at he
        | none =>
          rw [h1] at he
          cases h2 : c.mode f <;> rw [h2] at he <;> cases h4 : c.fresh f <;> rw [h4] at he <;> simp_all
      obtain ⟨h1, h2, h4⟩ := h3
      rw [h1] at hc
      simp only at hc
      cases hf : c.fn f with
      | none => rw [hf] at hc; simp at hc
      | some fi =>
        rw [hf] at hc
        simp only at hc
        split at hc
        · rename_i hm; exact absurd hm h2
        · obtain ⟨⟨v1, st1⟩, hb, hc⟩ := Option.bind_eq_some_iff.1 hc
          rw [h4] at hc
          exact (handOn_plain_st hc).1
        · obtain ⟨⟨v1, st1⟩, hb, hc⟩ := Option.bind_eq_some_iff.1 hc
          obtain ⟨v2, _, hc⟩ := Option.bind_eq_some_iff.1 hc
          split at hc
          · simp only [Option.some.injEq, Prod.mk.injEq] at hc
            exact hc.2.symm
          · simp at hc

theorem run_free : ∀ n, CallFree c (callfOf (run c n) wb)
  | 0 => ⟨fun f args st v st' _ h => by simp [callfOf, run] at h, fun f args st v st' _ h => by simp [callfOf, run] at h⟩
  | n + 1 => step_free

end Go.AI
