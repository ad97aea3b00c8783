/- More fuel, the same. -/
import Derived.Test.YtacfehecjjoffaaDoorAiWp
set_option linter.unusedVariables false
set_option linter.unusedSimpArgs false
namespace Go.AI
open Go
def Le (r r' : Task → Option Out) : Prop := ∀ t o, r t = some o → r' t = some o
theorem Le.eq {r r' : Task → Option Out} (h : Le r r') {t : Task} {o : Out} (e : r t = some o) : r' t = r t := by rw [e, h t o e]
variable {c : Cfg} {r r' : Task → Option Out}
theorem callf_le (h : Le r r') (wb : Nat) (g : FuncId) (args : List AV) (st : St) (x : AV × St) (e : callfOf r wb g args st = some x) : callfOf r' wb g args st = some x := by
  unfold callfOf at e ⊢
  cases hr : r (.call g wb args st) with
  | none => rw [hr] at e; simp at e
  | some o => rw [hr] at e; rw [h _ _ hr]; exact e
theorem exec_le (h : Le r r') (wb : Nat) (st : St) (p : Plan) (x : AV × St) (e : p.exec wb (callfOf r wb) st = some x) : p.exec wb (callfOf r' wb) st = some x := by
  cases p with
  | call f args => exact callf_le h wb f args st x e
  | _ => exact e
theorem ops_le (h : Le r r') {f : FuncId} {n wb rid : Nat} {ops : List Oper} : ∀ (l : List Oper) (i : Nat) (fr : Fr) (st : St) (x : Fr × St),
    opsRun c f n wb rid (callfOf r wb) ops i l fr st = some x → opsRun c f n wb rid (callfOf r' wb) ops i l fr st = some x ∧ opsEff c f n wb rid (callfOf r' wb) ops i l fr st = opsEff c f n wb rid (callfOf r wb) ops i l fr st
  | [], _, _, _, _, e => ⟨e, rfl⟩
  | o :: l, i, fr, st, x, e => by
    simp only [opsRun, opsEff] at e ⊢
    cases hw : wantedIn ops o fr with
    | none => rw [hw] at e; simp at e
    | some b => cases b with
      | false =>
        rw [hw] at e
        simp only at e ⊢
        cases hp : putFr n fr o.dst .any with
        | none => rw [hp] at e; simp at e
        | some fr1 =>
          rw [hp] at e
          simp only [Option.bind_some] at e ⊢
          have := ops_le h l _ _ _ _ e
          exact ⟨this.1, by rw [this.2]⟩
      | true =>
        rw [hw] at e
        simp only at e ⊢
        cases he : (opPlan c (c.kind f rid i) o fr).exec wb (callfOf r wb) st with
        | none => rw [he] at e; simp at e
        | some y =>
          rw [he] at e
          rw [exec_le h wb st _ _ he]
          simp only [Option.bind_some] at e ⊢
          cases hp : putFr n fr o.dst y.1 with
          | none => rw [hp] at e; simp at e
          | some fr1 =>
            rw [hp] at e
            simp only [Option.bind_some] at e ⊢
            have := ops_le h l _ _ _ _ e
            exact ⟨this.1, by rw [this.2]⟩
theorem body_le (h : Le r r') {f : FuncId} {fi : FnInfo} {wb : Nat} {args : List AV} {st : St} {x : AV × St} (e : callBody c r f fi wb args st = some x) : callBody c r' f fi wb args st = some x := by
  unfold callBody at e ⊢
  split at e
  · rename_i hn
    rw [if_pos hn]
    cases hr : r (.code f wb fi.body (argFr 0 args) st) with
    | none => rw [hr] at e; simp at e
    | some o => rw [hr] at e; rw [h _ _ hr]; exact e
  · simp at e
theorem call_le (h : Le r r') {f : FuncId} {wb : Nat} {args : List AV} {st : St} {x : AV × St} (e : callStep c r f wb args st = some x) : callStep c r' f wb args st = some x := by
  unfold callStep at e ⊢
  cases h1 : c.prim f with
  | some p => rw [h1] at e; exact e
  | none =>
    rw [h1] at e
    simp only at e ⊢
    cases h2 : c.primS f with
    | some p => rw [h2] at e; exact e
    | none =>
      rw [h2] at e
      simp only at e ⊢
      cases h3 : c.fn f with
      | none => rw [h3] at e; simp at e
      | some fi =>
        rw [h3] at e
        simp only at e ⊢
        split at e
        · cases hb : callBody c r f fi wb args st with
          | none => rw [hb] at e; simp at e
          | some y => rw [hb] at e; rw [body_le h hb]; exact e
        · rename_i args' _ _
          cases hb : callBody c r f fi 0 args' [] with
          | none => rw [hb] at e; simp at e
          | some y => rw [hb] at e; rw [body_le h hb]; exact e
        · cases hb : callBody c r f fi st.length args st with
          | none => rw [hb] at e; simp at e
          | some y => rw [hb] at e; rw [body_le h hb]; exact e
theorem step_le (h : Le r r') : Le (step c r) (step c r') := by
  intro t o e
  cases t with
  | call f wb args st =>
    simp only [step] at e ⊢
    cases hc : callStep c r f wb args st with
    | none => rw [hc] at e; simp at e
    | some y => rw [hc] at e; rw [call_le h hc]; exact e
  | code f wb code fr st =>
    cases code with
    | region id ops draw =>
      simp only [step] at e ⊢
      cases ho : opsRun c f (c.ntmps f) wb id (callfOf r wb) ops.toList 0 ops.toList fr st with
      | none => rw [ho] at e; split at e <;> simp at e
      | some y =>
        obtain ⟨h1, h2⟩ := ops_le h _ _ _ _ _ ho
        rw [h1, h2, ← ho]
        exact e
    | seq a b =>
      simp only [step] at e ⊢
      cases hr : r (.code f wb a fr st) with
      | none => rw [hr] at e; simp at e
      | some y =>
        rw [hr] at e
        rw [h _ _ hr]
        split at e
        · exact h _ _ e
        · exact e
    | cond x a b =>
      simp only [step] at e ⊢
      split at e
      · exact h _ _ e
      · exact h _ _ e
      · simp at e
    | block id b =>
      simp only [step] at e ⊢
      cases hr : r (.code f wb b fr st) with
      | none => rw [hr] at e; simp at e
      | some y => rw [hr] at e; rw [h _ _ hr]; exact e
    | loop b =>
      simp only [step] at e ⊢
      cases hr : r (.code f wb b (c.atHead f b fr) st) with
      | none => rw [hr] at e; simp at e
      | some y =>
        rw [hr] at e
        rw [h _ _ hr]
        split at e
        · exact h _ _ e
        · exact e
    | scope b => simp only [step] at e ⊢; exact h _ _ e
    | _ => first | exact e | (simp [step] at e)
theorem run_le (c : Cfg) : ∀ n, Le (run c n) (run c (n + 1))
  | 0 => fun t o e => by simp [run] at e
  | n + 1 => step_le (run_le c n)
theorem run_mono {t : Task} {o : Out} {n : Nat} (e : run c n t = some o) : ∀ m, n ≤ m → run c m t = some o := by
  intro m hm
  induction m with
  | zero => obtain rfl : n = 0 := by omega
            exact e
  | succ m ih =>
    by_cases h : n ≤ m
    · exact run_le c m _ _ (ih h)
    · obtain rfl : n = m + 1 := by omega
      exact e
theorem runs_of_run {t : Task} {o : Out} {n : Nat} (e : run c n t = some o) : Runs c t o := ⟨n, run_mono e⟩
/-- A call of nothing that stands alone, wherever it is. -/
theorem cw_closed {f : FuncId} {m : CMode} {nt : Nat} {rs : List ResultVar} {n : Nat} {v : AV} (h : c.how f = some (m, .plain, nt, rs)) (hm : (m == .mt) = false) (e : run c n (.call f 0 [] []) = some (.call v []))
    {wb : Nat} {st : St} {K : AV → St → Prop} (hK : K v st) : CW c wb f [] K st := by
  refine ⟨v, st, runs_of_run (n := n) ?_, hK⟩
  obtain ⟨h1, h2, fi, h3, h4, h5, _, _⟩ := how_inv h
  cases n with
  | zero => simp [run] at e
  | succ n =>
    simp only [run, step, callStep, h1, h2, h3, h4] at e ⊢
    have hp : (if m = .exact then pureArgsX [] else pureArgs []) = some [] := by split <;> rfl
    rw [hp] at e ⊢
    cases m with
    | mt => exact absurd hm (by decide)
    | _ =>
      simp only [h5] at e ⊢
      cases hb : callBody c (run c n) f fi 0 [] [] with
      | none => rw [hb] at e; simp at e
      | some y =>
        rw [hb] at e
        simp only [Option.bind_some, handOn] at e ⊢
        cases ho : outAV y.2 0 y.1 with
        | none => rw [ho] at e; simp at e
        | some z => rw [ho] at e; simp at e ⊢; exact e
end Go.AI
