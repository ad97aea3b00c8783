/- Walking the abstract interpreter: a calculus of what a piece of code comes to. -/
import Derived.Test.YtacfehecjjoffaaDoorAiCore
set_option linter.unusedVariables false
namespace Go.AI
open Go

/-- With fuel enough, this task comes to that. -/
def Runs (c : Cfg) (t : Task) (o : Out) : Prop := ∃ m, ∀ n, m ≤ n → run c n t = some o
def Wp (c : Cfg) (f : FuncId) (wb : Nat) (code : Code) (Q : Ex → Fr → St → Prop) (fr : Fr) (st : St) : Prop :=
  ∃ e fr' st', Runs c (.code f wb code fr st) (.code e fr' st') ∧ Q e fr' st'
def CW (c : Cfg) (wb : Nat) (f : FuncId) (args : List AV) (K : AV → St → Prop) (st : St) : Prop :=
  ∃ v st', Runs c (.call f wb args st) (.call v st') ∧ K v st'

variable {c : Cfg} {f : FuncId} {wb : Nat} {Q : Ex → Fr → St → Prop} {fr : Fr} {st : St}

theorem runs_step {t : Task} {o : Out} {m : Nat} (h : ∀ n, m ≤ n → step c (run c n) t = some o) : Runs c t o :=
  ⟨m + 1, fun n hn => by
    obtain ⟨k, rfl⟩ : ∃ k, n = k + 1 := ⟨n - 1, by omega⟩
    exact h k (by omega)⟩

theorem Wp.mono {code : Code} {Q' : Ex → Fr → St → Prop} (h : Wp c f wb code Q fr st) (hq : ∀ e fr st, Q e fr st → Q' e fr st) : Wp c f wb code Q' fr st := by
  obtain ⟨e, fr', st', h, q⟩ := h
  exact ⟨e, fr', st', h, hq _ _ _ q⟩
theorem CW.mono {args : List AV} {K K' : AV → St → Prop} (h : CW c wb f args K st) (hq : ∀ v st, K v st → K' v st) : CW c wb f args K' st := by
  obtain ⟨v, st', h, q⟩ := h
  exact ⟨v, st', h, hq _ _ q⟩

theorem wp_skip (h : Q .normal fr st) : Wp c f wb .skip Q fr st := ⟨_, _, _, runs_step (m := 0) fun n _ => rfl, h⟩
theorem wp_label {l : Nat} (h : Q .normal fr st) : Wp c f wb (.label l) Q fr st := ⟨_, _, _, runs_step (m := 0) fun n _ => rfl, h⟩
theorem wp_exit {id : Nat} (h : Q (.exit id) fr st) : Wp c f wb (.exit id) Q fr st := ⟨_, _, _, runs_step (m := 0) fun n _ => rfl, h⟩
theorem wp_ret (h : Q .ret fr st) : Wp c f wb .ret Q fr st := ⟨_, _, _, runs_step (m := 0) fun n _ => rfl, h⟩

def seqK (c : Cfg) (f : FuncId) (wb : Nat) (b : Code) (Q : Ex → Fr → St → Prop) : Ex → Fr → St → Prop
  | .normal, fr, st => Wp c f wb b Q fr st
  | e, fr, st => Q e fr st
theorem wp_seq {a b : Code} (h : Wp c f wb a (seqK c f wb b Q) fr st) : Wp c f wb (.seq a b) Q fr st := by
  obtain ⟨e, fr1, st1, ⟨m1, h1⟩, h⟩ := h
  cases e with
  | normal =>
    obtain ⟨e2, fr2, st2, ⟨m2, h2⟩, q⟩ := h
    exact ⟨_, _, _, runs_step (m := max m1 m2) fun n hn => by
      simp only [step]
      rw [h1 n (by omega)]
      exact h2 n (by omega), q⟩
  | exit id => exact ⟨_, _, _, runs_step (m := m1) fun n hn => by simp only [step]; rw [h1 n hn], h⟩
  | ret => exact ⟨_, _, _, runs_step (m := m1) fun n hn => by simp only [step]; rw [h1 n hn], h⟩

theorem wp_cond {x : Operand} {p q : Code} {b : Bool} (hx : c.eval fr x = .one (.bool b)) (h1 : b = true → Wp c f wb p Q fr st) (h2 : b = false → Wp c f wb q Q fr st) : Wp c f wb (.cond x p q) Q fr st := by
  cases b with
  | true =>
    obtain ⟨e, fr1, st1, ⟨m1, h1⟩, h⟩ := h1 rfl
    exact ⟨_, _, _, runs_step (m := m1) fun n hn => by simp only [step]; rw [hx]; exact h1 n hn, h⟩
  | false =>
    obtain ⟨e, fr1, st1, ⟨m1, h1⟩, h⟩ := h2 rfl
    exact ⟨_, _, _, runs_step (m := m1) fun n hn => by simp only [step]; rw [hx]; exact h1 n hn, h⟩

def blockK (id : Nat) (Q : Ex → Fr → St → Prop) : Ex → Fr → St → Prop
  | .exit id', fr, st => Q (if id' = id then .normal else .exit id') fr st
  | e, fr, st => Q e fr st
theorem wp_block {id : Nat} {body : Code} (h : Wp c f wb body (blockK id Q) fr st) : Wp c f wb (.block id body) Q fr st := by
  obtain ⟨e, fr1, st1, ⟨m1, h1⟩, h⟩ := h
  cases e with
  | normal => exact ⟨_, _, _, runs_step (m := m1) fun n hn => by simp only [step]; rw [h1 n hn], h⟩
  | exit id => exact ⟨_, _, _, runs_step (m := m1) fun n hn => by simp only [step]; rw [h1 n hn], h⟩
  | ret => exact ⟨_, _, _, runs_step (m := m1) fun n hn => by simp only [step]; rw [h1 n hn], h⟩
theorem wp_scope {body : Code} (h : Wp c f wb body Q fr st) : Wp c f wb (.scope body) Q fr st := by
  obtain ⟨e, fr1, st1, ⟨m1, h1⟩, h⟩ := h
  exact ⟨_, _, _, runs_step (m := m1) fun n hn => by simp only [step]; exact h1 n hn, h⟩

def loopK (c : Cfg) (f : FuncId) (wb : Nat) (n0 : Nat) (body : Code) (Q : Ex → Fr → St → Prop) : Ex → Fr → St → Prop
  | .normal, fr', st' => Wp c f wb (.loop body) Q (c.atHead f body fr') (trim n0 ((c.atHead f body fr').refs n0) st')
  | e, fr, st => Q e fr st
theorem wp_loop {body : Code} (h : Wp c f wb body (loopK c f wb st.length body Q) (c.atHead f body fr) st) : Wp c f wb (.loop body) Q fr st := by
  obtain ⟨e, fr1, st1, ⟨m1, h1⟩, h⟩ := h
  cases e with
  | normal =>
    obtain ⟨e2, fr2, st2, ⟨m2, h2⟩, q⟩ := h
    exact ⟨_, _, _, runs_step (m := max m1 m2) fun n hn => by
      simp only [step]
      rw [h1 n (by omega)]
      exact h2 n (by omega), q⟩
  | exit id => exact ⟨_, _, _, runs_step (m := m1) fun n hn => by simp only [step]; rw [h1 n hn], h⟩
  | ret => exact ⟨_, _, _, runs_step (m := m1) fun n hn => by simp only [step]; rw [h1 n hn], h⟩

/-! Regions. -/
/-- What a plan comes to. -/
def XW (c : Cfg) (wb : Nat) (K : AV → St → Prop) (st : St) : Plan → Prop
  | .fail => False
  | .val v => K v st
  | .rd r k => ∃ v, (st[r]?).bind k = some v ∧ K v st
  | .wr r k => wb ≤ r ∧ ∃ v, (st[r]?).bind k = some v ∧ K v.1 (st.set r v.2)
  | .new xs k => K (k st.length) (st ++ xs st.length)
  | .call g args => CW c wb g args K st
theorem XW.sound {K : AV → St → Prop} {p : Plan} (h : XW c wb K st p) : ∃ v st' m, (∀ n, m ≤ n → p.exec wb (callfOf (run c n) wb) st = some (v, st')) ∧ K v st' := by
  cases p with
  | fail => exact h.elim
  | val v => exact ⟨v, st, 0, fun _ _ => rfl, h⟩
  | rd r k =>
    obtain ⟨v, h1, h2⟩ := h
    refine ⟨v, st, 0, fun _ _ => ?_, h2⟩
    simp only [Plan.exec]
    cases hr : st[r]? with
    | none => simp [hr] at h1
    | some x => simp only [hr, Option.bind_some] at h1 ⊢; simp [h1]
  | wr r k =>
    obtain ⟨h0, v, h1, h2⟩ := h
    refine ⟨v.1, _, 0, fun _ _ => ?_, h2⟩
    simp only [Plan.exec]
    rw [if_pos h0]
    cases hr : st[r]? with
    | none => simp [hr] at h1
    | some x => simp only [hr, Option.bind_some] at h1 ⊢; simp [h1]
  | new xs k => exact ⟨_, _, 0, fun _ _ => rfl, h⟩
  | call g args =>
    obtain ⟨v, st', ⟨m, h1⟩, h2⟩ := h
    exact ⟨v, st', m, fun n hn => by simp only [Plan.exec, callfOf]; rw [h1 n hn], h2⟩

/-- What operations come to, one after the other. -/
def OW (c : Cfg) (f : FuncId) (nt wb rid : Nat) (ops : List Oper) : Nat → List Oper → (List Eff → Fr → St → Prop) → Fr → St → Prop
  | _, [], K, fr, st => K [] fr st
  | i, o :: rest, K, fr, st =>
    match wantedIn ops o fr with
    | none => False
    | some false => match putFr nt fr o.dst .any with
      | some fr1 => OW c f nt wb rid ops (i + 1) rest (fun es => K (.none :: es)) fr1 st
      | none => False
    | some true => XW c wb (fun v st => match putFr nt fr o.dst v with
      | some fr1 => OW c f nt wb rid ops (i + 1) rest (fun es => K ((opPlan c (c.kind f rid i) o fr).eff c :: es)) fr1 st
      | none => False) st (opPlan c (c.kind f rid i) o fr)
theorem OW.sound {nt rid : Nat} {ops : List Oper} : ∀ {rest : List Oper} {i : Nat} {K : List Eff → Fr → St → Prop} {fr : Fr} {st : St}, OW c f nt wb rid ops i rest K fr st →
    ∃ es fr' st' m, (∀ n, m ≤ n → opsRun c f nt wb rid (callfOf (run c n) wb) ops i rest fr st = some (fr', st') ∧ opsEff c f nt wb rid (callfOf (run c n) wb) ops i rest fr st = es) ∧ K es fr' st'
  | [], _, _, fr, st, h => ⟨[], fr, st, 0, fun _ _ => ⟨rfl, rfl⟩, h⟩
  | o :: rest, i, K, fr, st, h => by
    simp only [OW] at h
    split at h
    · exact h.elim
    · rename_i hw
      split at h
      · rename_i fr1 hp
        obtain ⟨es, fr', st', m, h1, h2⟩ := OW.sound h
        exact ⟨_, fr', st', m, fun n hn => by
          simp only [opsRun, opsEff, hw, hp, Option.bind_some]
          exact ⟨(h1 n hn).1, by rw [(h1 n hn).2]⟩, h2⟩
      · exact h.elim
    · rename_i hw
      obtain ⟨v, st1, m1, h1, h⟩ := XW.sound h
      split at h
      · rename_i fr1 hp
        obtain ⟨es, fr', st', m, h2, h3⟩ := OW.sound h
        exact ⟨_, fr', st', max m1 m, fun n hn => by
          simp only [opsRun, opsEff, hw]
          rw [h1 n (by omega)]
          simp only [Option.bind_some, hp]
          exact ⟨(h2 n (by omega)).1, by rw [(h2 n (by omega)).2]⟩, h3⟩
      · exact h.elim
/-- The frame behind a region. -/
def Cfg.behind (c : Cfg) (f : FuncId) (id : Nat) (fr : Fr) : Fr := match c.live f id with | some l => fr.keep l | none => fr
theorem wp_region {id : Nat} {ops : Array Oper} {draw : Bool} (h : OW c f (c.ntmps f) wb id ops.toList 0 ops.toList (fun es fr st => (draw = true → clashFree ops es = true) ∧ Q .normal (c.behind f id fr) st) fr st) :
    Wp c f wb (.region id ops draw) Q fr st := by
  obtain ⟨es, fr', st', m, h1, h2, h3⟩ := OW.sound h
  refine ⟨_, _, _, runs_step (m := m) fun n hn => ?_, h3⟩
  simp only [step]
  rw [(h1 n hn).1, (h1 n hn).2]
  rw [if_neg]
  · rfl
  · cases draw <;> simp_all

/-! Calls. -/
/-- What a body's end comes to. -/
def endK (c : Cfg) (rs : List ResultVar) (K : AV → St → Prop) (e : Ex) (fr : Fr) (st : St) : Prop :=
  (e = .ret ∨ e = .normal) ∧ ∃ vs, resultsAV c fr st rs = some vs ∧ K (tupAV vs) st
theorem body_runs {fi : FnInfo} {args : List AV} {K : AV → St → Prop} (hn : args.length ≤ fi.ntmps) (h : Wp c f wb fi.body (endK c fi.results K) (argFr 0 args) st) :
    ∃ v st' m, (∀ n, m ≤ n → callBody c (run c n) f fi wb args st = some (v, st')) ∧ K v st' := by
  obtain ⟨e, fr', st', ⟨m, h1⟩, he, vs, h2, h3⟩ := h
  exact ⟨_, _, m, fun n hn' => by
    unfold callBody
    rw [if_pos hn, h1 n hn']
    simp only
    rw [if_pos he, h2]; rfl, h3⟩
/-- A call that stands alone. -/
theorem call_alone {fi : FnInfo} {args args' : List AV} {K : AV → St → Prop} (h0 : c.prim f = none) (h1 : c.primS f = none) (hf : c.fn f = some fi) (hm : c.mode f ≠ .mt) (hp : (if c.mode f = .exact then pureArgsX args else pureArgs args) = some args')
    (hn : args'.length ≤ fi.ntmps) (h : Wp c f 0 fi.body (endK c fi.results fun v st' => ∃ r, handOn (c.fresh f) v st' st = some r ∧ K r.1 r.2) (argFr 0 args') []) : CW c wb f args K st := by
  obtain ⟨v, st', m, h2, r, h3, h4⟩ := body_runs hn h
  refine ⟨r.1, r.2, runs_step (m := m) fun n hn => ?_, h4⟩
  simp only [step, callStep, h0, h1, hf, hp]
  cases hmm : c.mode f with
  | mt => exact absurd hmm hm
  | _ => rw [h2 n hn]; simp [h3]
/-- A call that may change what it is handed. -/
theorem call_mt {fi : FnInfo} {args : List AV} {K : AV → St → Prop} (h0 : c.prim f = none) (h1 : c.primS f = none) (hf : c.fn f = some fi) (hm : c.mode f = .mt)
    (hn : args.length ≤ fi.ntmps) (h : Wp c f wb fi.body (endK c fi.results fun v st' => K v (trim st.length (v.refs st.length) st')) (argFr 0 args) st) : CW c wb f args K st := by
  obtain ⟨v, st', m, h2, h3⟩ := body_runs hn h
  refine ⟨v, _, runs_step (m := m) fun n hn => ?_, h3⟩
  simp only [step, callStep, h0, h1, hf, hm]
  rw [h2 n hn]; rfl
/-- A call that reads what may change. -/
theorem call_reads {fi : FnInfo} {args : List AV} {K : AV → St → Prop} (h0 : c.prim f = none) (h1 : c.primS f = none) (hf : c.fn f = some fi) (hm : c.mode f ≠ .mt) (hp : (if c.mode f = .exact then pureArgsX args else pureArgs args) = none)
    (hn : args.length ≤ fi.ntmps) (h : Wp c f st.length fi.body (endK c fi.results fun v st' => ∃ v', outAV st' st.length v = some v' ∧ v'.refs st.length = true ∧ K v' st) (argFr 0 args) st) : CW c wb f args K st := by
  obtain ⟨v, st', m, h2, v', h3, h4, h5⟩ := body_runs hn h
  refine ⟨v', st, runs_step (m := m) fun n hn => ?_, h5⟩
  simp only [step, callStep, h0, h1, hf, hp]
  cases hmm : c.mode f with
  | mt => exact absurd hmm hm
  | _ => rw [h2 n hn]; simp [h3, h4]
theorem call_prim {p : List AV → Option AV} {args args' : List AV} {v : AV} {K : AV → St → Prop} (h0 : c.prim f = some p) (hp : pureArgs args = some args') (hv : p args' = some v) (h : K v st) : CW c wb f args K st :=
  ⟨v, st, runs_step (m := 0) fun n hn => by simp [step, callStep, h0, hp, hv], h⟩

end Go.AI

/-! Pieces of a function's code by their numbers, counted from the front. -/
namespace Go.AI
open Go
def codeCount : Code → Nat
  | .seq a b => codeCount a + codeCount b + 1
  | .cond _ a b => codeCount a + codeCount b + 1
  | .block _ b => codeCount b + 1
  | .loop b => codeCount b + 1
  | .scope b => codeCount b + 1
  | _ => 1
def codeNth : Code → Nat → Code
  | c, 0 => c
  | .seq a b, n + 1 => if n < codeCount a then codeNth a n else codeNth b (n - codeCount a)
  | .cond _ a b, n + 1 => if n < codeCount a then codeNth a n else codeNth b (n - codeCount a)
  | .block _ b, n + 1 => codeNth b n
  | .loop b, n + 1 => codeNth b n
  | .scope b, n + 1 => codeNth b n
  | _, _ + 1 => .skip
inductive Shape where
  | skip | exit (id : Nat) | ret | label | seq (i j : Nat) | cond (x : Operand) (i j : Nat) | block (id i : Nat) | loop (i : Nat) | scope (i : Nat) | region (id : Nat) (draw : Bool) | bad
def shapeOf (i : Nat) : Code → Shape
  | .skip => .skip
  | .exit id => .exit id
  | .ret => .ret
  | .label _ => .label
  | .seq a _ => .seq (i + 1) (i + 1 + codeCount a)
  | .cond x a _ => .cond x (i + 1) (i + 1 + codeCount a)
  | .block id _ => .block id (i + 1)
  | .loop _ => .loop (i + 1)
  | .scope _ => .scope (i + 1)
  | .region id _ d => .region id d
  | _ => .bad
/-- A function's i-th piece. -/
def Cfg.nd (c : Cfg) (f : FuncId) (i : Nat) : Code := match c.fn f with | some fi => codeNth fi.body i | none => .skip
def Cfg.shape (c : Cfg) (f : FuncId) (i : Nat) : Shape := shapeOf i (c.nd f i)
def Cfg.ops (c : Cfg) (f : FuncId) (i : Nat) : List Oper := match c.nd f i with | .region _ ops _ => ops.toList | _ => []
def Cfg.opsA (c : Cfg) (f : FuncId) (i : Nat) : Array Oper := match c.nd f i with | .region _ ops _ => ops | _ => #[]
def Cfg.headN (c : Cfg) (f : FuncId) (i : Nat) : Option (List Nat) := (firstReg (c.nd f i)).bind (c.head f)
def headFr (o : Option (List Nat)) (fr : Fr) : Fr := match o with | some l => fr.keep l | none => fr

def isLeaf : Code → Bool
  | .seq _ _ | .cond _ _ _ | .block _ _ | .loop _ | .scope _ => false
  | _ => true
theorem codeNth_leaf {c : Code} {n : Nat} (h : codeNth c (n + 1) ≠ .skip) : isLeaf c = false := by
  cases c <;> simp_all [codeNth, isLeaf]

theorem codeCount_pos (c : Code) : 1 ≤ codeCount c := by cases c <;> simp [codeCount]

theorem nth_two {d x y : Code} (hd : d = .seq x y ∨ ∃ o, d = .cond o x y) : ∀ (c : Code) (i : Nat), codeNth c i = d → codeNth c (i + 1) = x ∧ codeNth c (i + 1 + codeCount x) = y ∧ i + codeCount x + codeCount y + 1 ≤ codeCount c := by
  intro c
  induction c with
  | seq a b iha ihb =>
    intro i h
    cases i with
    | zero =>
      have h : Code.seq a b = d := by simpa [codeNth] using h
      rcases hd with rfl | ⟨o, rfl⟩
      · simp only [Code.seq.injEq] at h; obtain ⟨rfl, rfl⟩ := h
        have := codeCount_pos a
        refine ⟨by simp [codeNth, show 0 < codeCount a by omega], ?_, by simp [codeCount]⟩
        rw [show 0 + 1 + codeCount a = codeCount a + 1 by omega]
        simp [codeNth]
      · simp at h
    | succ i =>
      simp only [codeNth] at h
      split at h
      · rename_i hi
        obtain ⟨h1, h2, h3⟩ := iha _ h
        have := codeCount_pos y
        refine ⟨?_, ?_, by simp only [codeCount]; omega⟩
        · simp only [codeNth]; rw [if_pos (by omega)]; exact h1
        · rw [show i + 1 + 1 + codeCount x = (i + 1 + codeCount x) + 1 by omega]
          simp only [codeNth]; rw [if_pos (by omega)]; exact h2
      · rename_i hi
        obtain ⟨h1, h2, h3⟩ := ihb _ h
        refine ⟨?_, ?_, by simp only [codeCount]; omega⟩
        · simp only [codeNth]; rw [if_neg (by omega), show i + 1 - codeCount a = i - codeCount a + 1 by omega]; exact h1
        · rw [show i + 1 + 1 + codeCount x = (i + 1 + codeCount x) + 1 by omega]
          simp only [codeNth]; rw [if_neg (by omega), show i + 1 + codeCount x - codeCount a = i - codeCount a + 1 + codeCount x by omega]; exact h2
  | cond o a b iha ihb =>
    intro i h
    cases i with
    | zero =>
      have h : Code.cond o a b = d := by simpa [codeNth] using h
      rcases hd with rfl | ⟨o, rfl⟩
      · simp at h
      · simp only [Code.cond.injEq] at h; obtain ⟨rfl, rfl, rfl⟩ := h
        have := codeCount_pos a
        refine ⟨by simp [codeNth, show 0 < codeCount a by omega], ?_, by simp [codeCount]⟩
        rw [show 0 + 1 + codeCount a = codeCount a + 1 by omega]
        simp [codeNth]
    | succ i =>
      simp only [codeNth] at h
      split at h
      · rename_i hi
        obtain ⟨h1, h2, h3⟩ := iha _ h
        have := codeCount_pos y
        refine ⟨?_, ?_, by simp only [codeCount]; omega⟩
        · simp only [codeNth]; rw [if_pos (by omega)]; exact h1
        · rw [show i + 1 + 1 + codeCount x = (i + 1 + codeCount x) + 1 by omega]
          simp only [codeNth]; rw [if_pos (by omega)]; exact h2
      · rename_i hi
        obtain ⟨h1, h2, h3⟩ := ihb _ h
        refine ⟨?_, ?_, by simp only [codeCount]; omega⟩
        · simp only [codeNth]; rw [if_neg (by omega), show i + 1 - codeCount a = i - codeCount a + 1 by omega]; exact h1
        · rw [show i + 1 + 1 + codeCount x = (i + 1 + codeCount x) + 1 by omega]
          simp only [codeNth]; rw [if_neg (by omega), show i + 1 + codeCount x - codeCount a = i - codeCount a + 1 + codeCount x by omega]; exact h2
  | block id b ih =>
    intro i h
    cases i with
    | zero => rcases hd with rfl | ⟨o, rfl⟩ <;> simp [codeNth] at h
    | succ i =>
      simp only [codeNth] at h
      obtain ⟨h1, h2, h3⟩ := ih _ h
      refine ⟨h1, ?_, by simp only [codeCount]; omega⟩
      rw [show i + 1 + 1 + codeCount x = (i + 1 + codeCount x) + 1 by omega]; exact h2
  | loop b ih =>
    intro i h
    cases i with
    | zero => rcases hd with rfl | ⟨o, rfl⟩ <;> simp [codeNth] at h
    | succ i =>
      simp only [codeNth] at h
      obtain ⟨h1, h2, h3⟩ := ih _ h
      refine ⟨h1, ?_, by simp only [codeCount]; omega⟩
      rw [show i + 1 + 1 + codeCount x = (i + 1 + codeCount x) + 1 by omega]; exact h2
  | scope b ih =>
    intro i h
    cases i with
    | zero => rcases hd with rfl | ⟨o, rfl⟩ <;> simp [codeNth] at h
    | succ i =>
      simp only [codeNth] at h
      obtain ⟨h1, h2, h3⟩ := ih _ h
      refine ⟨h1, ?_, by simp only [codeCount]; omega⟩
      rw [show i + 1 + 1 + codeCount x = (i + 1 + codeCount x) + 1 by omega]; exact h2
  | _ =>
    intro i h
    cases i <;> rcases hd with rfl | ⟨o, rfl⟩ <;> simp [codeNth] at h

theorem nth_one {d x : Code} (hd : (∃ id, d = .block id x) ∨ d = .loop x ∨ d = .scope x) : ∀ (c : Code) (i : Nat), codeNth c i = d → codeNth c (i + 1) = x ∧ i + codeCount x + 1 ≤ codeCount c := by
  intro c
  induction c with
  | seq a b iha ihb =>
    intro i h
    cases i with
    | zero => rcases hd with ⟨o, rfl⟩ | rfl | rfl <;> simp [codeNth] at h
    | succ i =>
      simp only [codeNth] at h
      split at h
      · rename_i hi
        obtain ⟨h1, h3⟩ := iha _ h
        have := codeCount_pos x
        refine ⟨?_, by simp only [codeCount]; omega⟩
        simp only [codeNth]; rw [if_pos (by omega)]; exact h1
      · rename_i hi
        obtain ⟨h1, h3⟩ := ihb _ h
        refine ⟨?_, by simp only [codeCount]; omega⟩
        simp only [codeNth]; rw [if_neg (by omega), show i + 1 - codeCount a = i - codeCount a + 1 by omega]; exact h1
  | cond o a b iha ihb =>
    intro i h
    cases i with
    | zero => rcases hd with ⟨o, rfl⟩ | rfl | rfl <;> simp [codeNth] at h
    | succ i =>
      simp only [codeNth] at h
      split at h
      · rename_i hi
        obtain ⟨h1, h3⟩ := iha _ h
        have := codeCount_pos x
        refine ⟨?_, by simp only [codeCount]; omega⟩
        simp only [codeNth]; rw [if_pos (by omega)]; exact h1
      · rename_i hi
        obtain ⟨h1, h3⟩ := ihb _ h
        refine ⟨?_, by simp only [codeCount]; omega⟩
        simp only [codeNth]; rw [if_neg (by omega), show i + 1 - codeCount a = i - codeCount a + 1 by omega]; exact h1
  | block id b ih =>
    intro i h
    cases i with
    | zero =>
      have h : Code.block id b = d := by simpa [codeNth] using h
      rcases hd with ⟨o, rfl⟩ | rfl | rfl
      · simp only [Code.block.injEq] at h; obtain ⟨_, rfl⟩ := h; exact ⟨by simp [codeNth], by simp [codeCount]⟩
      · simp at h
      · simp at h
    | succ i =>
      simp only [codeNth] at h
      obtain ⟨h1, h3⟩ := ih _ h
      exact ⟨h1, by simp only [codeCount]; omega⟩
  | loop b ih =>
    intro i h
    cases i with
    | zero =>
      have h : Code.loop b = d := by simpa [codeNth] using h
      rcases hd with ⟨o, rfl⟩ | rfl | rfl
      · simp at h
      · simp only [Code.loop.injEq] at h; subst h; exact ⟨by simp [codeNth], by simp [codeCount]⟩
      · simp at h
    | succ i =>
      simp only [codeNth] at h
      obtain ⟨h1, h3⟩ := ih _ h
      exact ⟨h1, by simp only [codeCount]; omega⟩
  | scope b ih =>
    intro i h
    cases i with
    | zero =>
      have h : Code.scope b = d := by simpa [codeNth] using h
      rcases hd with ⟨o, rfl⟩ | rfl | rfl
      · simp at h
      · simp at h
      · simp only [Code.scope.injEq] at h; subst h; exact ⟨by simp [codeNth], by simp [codeCount]⟩
    | succ i =>
      simp only [codeNth] at h
      obtain ⟨h1, h3⟩ := ih _ h
      exact ⟨h1, by simp only [codeCount]; omega⟩
  | _ =>
    intro i h
    cases i <;> rcases hd with ⟨o, rfl⟩ | rfl | rfl <;> simp [codeNth] at h

variable {c : Cfg} {f : FuncId} {wb : Nat} {Q : Ex → Fr → St → Prop} {fr : Fr} {st : St}

/-- The i-th piece comes to that. -/
def WN (c : Cfg) (f : FuncId) (wb : Nat) (i : Nat) (Q : Ex → Fr → St → Prop) (fr : Fr) (st : St) : Prop := Wp c f wb (c.nd f i) Q fr st
def seqN (c : Cfg) (f : FuncId) (wb : Nat) (j : Nat) (Q : Ex → Fr → St → Prop) (e : Ex) (fr : Fr) (st : St) : Prop :=
  match e with
  | .normal => WN c f wb j Q fr st
  | e => Q e fr st
def loopN (c : Cfg) (f : FuncId) (wb n0 i : Nat) (h : Option (List Nat)) (Q : Ex → Fr → St → Prop) (e : Ex) (fr : Fr) (st : St) : Prop :=
  match e with
  | .normal => WN c f wb i Q (headFr h fr) (trim n0 ((headFr h fr).refs n0) st)
  | e => Q e fr st
def regN (c : Cfg) (f : FuncId) (i id : Nat) (draw : Bool) (Q : Ex → Fr → St → Prop) (es : List Eff) (fr : Fr) (st : St) : Prop :=
  (draw = true → clashFree (c.opsA f i) es = true) ∧ Q .normal (c.behind f id fr) st
/-- One step into a piece. -/
def SW (c : Cfg) (f : FuncId) (wb i : Nat) (Q : Ex → Fr → St → Prop) (fr : Fr) (st : St) : Shape → Prop
  | .skip => Q .normal fr st
  | .exit id => Q (.exit id) fr st
  | .ret => Q .ret fr st
  | .label => Q .normal fr st
  | .seq a b => WN c f wb a (seqN c f wb b Q) fr st
  | .cond x a b => ∃ r, c.eval fr x = .one (.bool r) ∧ (r = true → WN c f wb a Q fr st) ∧ (r = false → WN c f wb b Q fr st)
  | .block id a => WN c f wb a (blockK id Q) fr st
  | .loop _ => WN c f wb i Q fr st
  | .scope a => WN c f wb a Q fr st
  | .region id draw => OW c f (c.ntmps f) wb id (c.ops f i) 0 (c.ops f i) (regN c f i id draw Q) fr st
  | .bad => False

theorem nd_two {i : Nat} {d x y : Code} (hd : d = .seq x y ∨ ∃ o, d = .cond o x y) (h : c.nd f i = d) : c.nd f (i + 1) = x ∧ c.nd f (i + 1 + codeCount x) = y := by
  unfold Cfg.nd at h ⊢
  cases hf : c.fn f with
  | none => rw [hf] at h; rcases hd with rfl | ⟨o, rfl⟩ <;> simp at h
  | some fi => rw [hf] at h; exact ⟨(nth_two hd _ _ h).1, (nth_two hd _ _ h).2.1⟩
theorem nd_one {i : Nat} {d x : Code} (hd : (∃ id, d = .block id x) ∨ d = .loop x ∨ d = .scope x) (h : c.nd f i = d) : c.nd f (i + 1) = x := by
  unfold Cfg.nd at h ⊢
  cases hf : c.fn f with
  | none => rw [hf] at h; rcases hd with ⟨o, rfl⟩ | rfl | rfl <;> simp at h
  | some fi => rw [hf] at h; exact (nth_one hd _ _ h).1

theorem wn_step {i : Nat} (h : SW c f wb i Q fr st (c.shape f i)) : WN c f wb i Q fr st := by
  unfold Cfg.shape at h
  unfold WN
  generalize hc : c.nd f i = d at h ⊢
  cases d with
  | skip => exact wp_skip h
  | label l => exact wp_label h
  | exit id => exact wp_exit h
  | ret => exact wp_ret h
  | seq x y =>
    obtain ⟨h1, h2⟩ := nd_two (.inl rfl) hc
    simp only [shapeOf, SW, WN, h1] at h
    refine wp_seq (h.mono fun e fr st q => ?_)
    cases e with
    | normal => simpa only [seqN, WN, h2, seqK] using q
    | _ => exact q
  | cond o x y =>
    obtain ⟨h1, h2⟩ := nd_two (.inr ⟨o, rfl⟩) hc
    simp only [shapeOf, SW, WN, h1, h2] at h
    obtain ⟨r, h0, ha, hb⟩ := h
    exact wp_cond h0 ha hb
  | block id x =>
    have h1 := nd_one (.inl ⟨id, rfl⟩) hc
    simp only [shapeOf, SW, WN, h1] at h
    exact wp_block h
  | scope x =>
    have h1 := nd_one (.inr (.inr rfl)) hc
    simp only [shapeOf, SW, WN, h1] at h
    exact wp_scope h
  | loop x =>
    simp only [shapeOf, SW, WN, hc] at h
    exact h
  | region id ops draw =>
    simp only [shapeOf, SW, Cfg.ops, hc] at h
    refine wp_region ?_
    have e : c.opsA f i = ops := by simp only [Cfg.opsA, hc]
    unfold regN at h
    rw [e] at h
    exact h
  | _ => exact h.elim

/-- Into a loop's body. -/
theorem wn_loop {i a : Nat} (hs : c.shape f i = .loop a) (h : WN c f wb a (loopN c f wb st.length i (c.headN f a) Q) (headFr (c.headN f a) fr) st) : WN c f wb i Q fr st := by
  unfold Cfg.shape at hs
  unfold WN at h ⊢
  generalize hc : c.nd f i = d at hs ⊢
  cases d with
  | loop x =>
    simp only [shapeOf, Shape.loop.injEq] at hs
    subst hs
    have h1 := nd_one (.inr (.inl rfl)) hc
    have hh : ∀ fr, headFr (c.headN f (i + 1)) fr = c.atHead f x fr := fun fr => by unfold headFr Cfg.headN Cfg.atHead; rw [h1]; cases (firstReg x).bind (c.head f) <;> rfl
    refine wp_loop ?_
    rw [h1] at h
    rw [← hh]
    refine h.mono fun e fr st q => ?_
    cases e with
    | normal => simpa only [loopN, loopK, WN, hc, hh] using q
    | _ => exact q
  | _ => simp [shapeOf] at hs

theorem nd_zero {fi : FnInfo} (hf : c.fn f = some fi) : c.nd f 0 = fi.body := by unfold Cfg.nd; rw [hf]; cases h : fi.body <;> simp [codeNth, h]

theorem WN.mono {i : Nat} {Q' : Ex → Fr → St → Prop} (h : WN c f wb i Q fr st) (hq : ∀ e fr st, Q e fr st → Q' e fr st) : WN c f wb i Q' fr st := Wp.mono h hq

end Go.AI

namespace Go.AI
open Go
/-- How a function is called, how many temporaries it has, what it hands back. -/
def Cfg.how (c : Cfg) (f : FuncId) : Option (CMode × Kind × Nat × List ResultVar) :=
  match c.prim f, c.primS f, c.fn f with
  | none, none, some fi => some (c.mode f, c.fresh f, fi.ntmps, fi.results)
  | _, _, _ => none
theorem how_inv {c : Cfg} {f : FuncId} {m : CMode} {k : Kind} {nt : Nat} {rs : List ResultVar} (h : c.how f = some (m, k, nt, rs)) :
    c.prim f = none ∧ c.primS f = none ∧ ∃ fi, c.fn f = some fi ∧ c.mode f = m ∧ c.fresh f = k ∧ fi.ntmps = nt ∧ fi.results = rs := by
  unfold Cfg.how at h
  cases h1 : c.prim f with
  | some _ => rw [h1] at h; simp at h
  | none => cases h2 : c.primS f with
    | some _ => rw [h1, h2] at h; simp at h
    | none => cases h3 : c.fn f with
      | none => rw [h1, h2, h3] at h; simp at h
      | some fi =>
        rw [h1, h2, h3] at h
        simp only [Option.some.injEq, Prod.mk.injEq] at h
        exact ⟨rfl, rfl, fi, rfl, h.1, h.2.1, h.2.2.1, h.2.2.2⟩
variable {c : Cfg} {f : FuncId} {wb : Nat} {st : St} {m : CMode} {k : Kind} {nt : Nat} {rs : List ResultVar} {args args' : List AV} {K : AV → St → Prop}
theorem cw_alone (h : c.how f = some (m, k, nt, rs)) (hm : (m == .mt) = false) (hp : (if m = .exact then pureArgsX args else pureArgs args) = some args') (hn : args'.length ≤ nt)
    (hw : WN c f 0 0 (endK c rs fun v st' => ∃ r, handOn k v st' st = some r ∧ K r.1 r.2) (argFr 0 args') []) : CW c wb f args K st := by
  obtain ⟨h1, h2, fi, h3, rfl, rfl, rfl, rfl⟩ := how_inv h
  unfold WN at hw; rw [nd_zero h3] at hw
  exact call_alone h1 h2 h3 (by intro e; rw [e] at hm; exact absurd hm (by decide)) hp hn hw
theorem cw_mt (h : c.how f = some (.mt, k, nt, rs)) (hn : args.length ≤ nt)
    (hw : WN c f wb 0 (endK c rs fun v st' => K v (trim st.length (v.refs st.length) st')) (argFr 0 args) st) : CW c wb f args K st := by
  obtain ⟨h1, h2, fi, h3, h4, rfl, rfl, rfl⟩ := how_inv h
  unfold WN at hw; rw [nd_zero h3] at hw
  exact call_mt h1 h2 h3 h4 hn hw
theorem cw_reads (h : c.how f = some (m, k, nt, rs)) (hm : (m == .mt) = false) (hp : (if m = .exact then pureArgsX args else pureArgs args) = none) (hn : args.length ≤ nt)
    (hw : WN c f st.length 0 (endK c rs fun v st' => ∃ v', outAV st' st.length v = some v' ∧ v'.refs st.length = true ∧ K v' st) (argFr 0 args) st) : CW c wb f args K st := by
  obtain ⟨h1, h2, fi, h3, rfl, rfl, rfl, rfl⟩ := how_inv h
  unfold WN at hw; rw [nd_zero h3] at hw
  exact call_reads h1 h2 h3 (by intro e; rw [e] at hm; exact absurd hm (by decide)) hp hn hw
end Go.AI
