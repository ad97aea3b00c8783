/- What the abstract interpreter's values stand for in the model's worlds. -/
import Derived.Test.YtacfehecjjoffaaDoorAiCore
import Derived.Laws.Append
import Derived.Laws.AppendOwn
import Derived.Laws.MakeOwn
import Derived.Laws.OwnMore
import Derived.Laws.Rows
set_option linter.unusedVariables false
set_option linter.unusedSimpArgs false
namespace Go.AI
open Go

abbrev Fz := Nat → Nat → Option Value

/-- No leave to be appended to. -/
def Cell.noTok : Cell → Bool
  | .slice .no _ _ => true
  | .slice _ _ _ => false
  | _ => true

inductive CP (F : Fz) : Cell → Value → Prop where
  | int (k : IntKind) (n : Int) : CP F (.int k n) (.int k n)
  | bool (b : Bool) : CP F (.bool b) (.bool b)
  | str (s : ByteArray) : CP F (.str s) (.string s)
  | nilp : CP F .nilp (.pointer none)
  | nilm : CP F .nilm (.map none)
  | nilf : CP F .nilf .nilFunc
  | nili : CP F .nili .nilIface
  | slice (tok : Tok) (esz : Nat) (rows : List (List Cell)) (A : Option Addr) (b off cap : Nat) (vs : Nat → Nat → Value)
      (hA : rows ≠ [] → A = some ⟨b, off, none⟩) (hcap : rows.length ≤ cap)
      (hE : ∀ (i : Nat) (row : List Cell), rows[i]? = some row → row.length = esz)
      (hF : ∀ (i j : Nat) (row : List Cell) (c : Cell), rows[i]? = some row → row[j]? = some c → F b (off + i * esz + j) = some (vs i j))
      (hC : ∀ (i j : Nat) (row : List Cell) (c : Cell), rows[i]? = some row → row[j]? = some c → CP F c (vs i j))
      (hN : ∀ (i j : Nat) (row : List Cell) (c : Cell), rows[i]? = some row → row[j]? = some c → c.noTok = true) :
      CP F (.slice tok esz rows) (.slice A rows.length cap)

def Fz.le (F F' : Fz) : Prop := ∀ b o v, F b o = some v → F' b o = some v
theorem Fz.le_refl (F : Fz) : F.le F := fun _ _ _ h => h
theorem Fz.le_trans {F F' F'' : Fz} (h : F.le F') (h' : F'.le F'') : F.le F'' := fun b o v e => h' b o v (h b o v e)

theorem CP.mono {F F' : Fz} (h : F.le F') {c : Cell} {v : Value} (hc : CP F c v) : CP F' c v := by
  induction hc with
  | int k n => exact .int k n
  | bool b => exact .bool b
  | str s => exact .str s
  | nilp => exact .nilp
  | nilm => exact .nilm
  | nilf => exact .nilf
  | nili => exact .nili
  | slice tok esz rows A b off cap vs hA hcap hE hF hC hN ih =>
    exact .slice tok esz rows A b off cap vs hA hcap hE (fun i j row c h1 h2 => h _ _ _ (hF i j row c h1 h2)) ih hN

theorem CP.tok {F : Fz} {tok tok' : Tok} {e : Nat} {rows : List (List Cell)} {v : Value} (h : CP F (.slice tok e rows) v) : CP F (.slice tok' e rows) v := by
  cases h with
  | slice _ _ _ A b off cap vs hA hcap hE hF hC hN => exact .slice tok' _ _ A b off cap vs hA hcap hE hF hC hN

theorem CP.oneCell {F : Fz} {c : Cell} {v : Value} (h : CP F c v) : v.oneCell' = true := by cases h <;> rfl
theorem cells_of_oneCell {v : Value} (h : v.oneCell' = true) : v.cells = #[v] := by cases v <;> simp_all [Value.oneCell', Value.cells]

structure Env where
  F : Fz
  loc : Nat → Nat
  sz : Nat → Nat
  tl : Nat → Option Addr × Nat

def TokOK (E : Env) (st : St) (tok : Tok) (rows : List (List Cell)) (v : Value) : Prop :=
  match tok with
  | .no => True
  | .exact => ∀ A n cap, v = .slice A n cap → cap = n
  | .tail r => r < st.length ∧ ∀ n e, st[r]? = some (Res.tail n e) → rows.length ≤ n ∧ (rows.length = n → ∀ A m cap, v = .slice A m cap → (A, cap) = E.tl r)

inductive CC (E : Env) (st : St) : Cell → Value → Prop where
  | pure (c : Cell) (v : Value) (h : CP E.F c v) (ht : ∀ tok e rows, c = .slice tok e rows → TokOK E st tok rows v) : CC E st c v
  | own (r g esz : Nat) (cp : Bool) (off len : Nat) (A : Option Addr) (cap : Nat) (hr : r < st.length) (hc : len ≤ cap) (hA : len ≠ 0 → A ≠ none)
      (h : ∀ t g' cells, st[r]? = some (Res.row t g' cells) → g ≤ g' ∧ (g = g' → ((len ≠ 0 ∨ off = 0) → A = some ⟨E.loc r, off, none⟩) ∧ (cp = true → off + cap * esz ≤ E.sz r)))
      (hn : ∀ t g', st[r]? = some (Res.nrow t g') → g ≤ g' ∧ len = 0 ∧ A = none ∧ cap = 0) : CC E st (.own r g esz cp off len) (.slice A len cap)
  | ptr (r g off : Nat) (a : Addr) (hr : r < st.length)
      (h : ∀ t g' cells, st[r]? = some (Res.row t g' cells) → g ≤ g' ∧ (g = g' → a = ⟨E.loc r, off, none⟩))
      (hn : ∀ t g', st[r]? ≠ some (Res.nrow t g')) : CC E st (.ptr r g off) (.pointer (some a))
  | fp (cells : List Cell) (b o : Nat) (vs : Nat → Value) (hF : ∀ (j : Nat) (c : Cell), cells[j]? = some c → E.F b (o + j) = some (vs j))
      (hC : ∀ (j : Nat) (c : Cell), cells[j]? = some c → CP E.F c (vs j) ∧ c.noTok = true) : CC E st (.fp cells) (.pointer (some ⟨b, o, none⟩))
  | map (r m : Nat) (hr : r < st.length) (h : ∀ kt et es, st[r]? = some (Res.map kt et es) → m = E.loc r) : CC E st (.map r) (.map (some m))
  | func (f : FuncId) (first captured : List Cell) (fs cs : Array Value) (h1 : fs.size = first.length) (h2 : cs.size = captured.length)
      (c1 : ∀ (i : Nat) (c : Cell), first[i]? = some c → CC E st c (fs.getD i undef))
      (c2 : ∀ (i : Nat) (c : Cell), captured[i]? = some c → CC E st c (cs.getD i undef)) : CC E st (.func f first captured) (.func (.func f) fs cs)

inductive AVC (E : Env) (st : St) : AV → Value → Prop where
  | any (v : Value) : AVC E st .any v
  | one (c : Cell) (v : Value) (h : CC E st c v) : AVC E st (.one c) v
  | agg (cs : List Cell) (vs : Array Value) (hs : vs.size = cs.length) (h : ∀ (i : Nat) (c : Cell), cs[i]? = some c → CC E st c (vs.getD i undef)) : AVC E st (.agg cs) (.agg vs)
  | tup (xs : List AV) (vs : Array Value) (hs : vs.size = xs.length) (h : ∀ (i : Nat) (x : AV), xs[i]? = some x → AVC E st x (vs.getD i undef)) : AVC E st (.tup xs) (.tuple vs)

theorem CC.oneCell {E : Env} {st : St} {c : Cell} {v : Value} (h : CC E st c v) : v.oneCell' = true := by
  cases h with
  | pure _ _ h _ => exact h.oneCell
  | _ => rfl

theorem CC.of_noTok {E : Env} {st : St} {c : Cell} {v : Value} (h : CP E.F c v) (hn : c.noTok = true) : CC E st c v :=
  .pure c v h fun tok e rows hc => by
    subst hc
    cases tok with
    | no => trivial
    | exact => simp [Cell.noTok] at hn
    | tail r => simp [Cell.noTok] at hn

/-- Which block a live resource has. -/
def blk (E : Env) (st : St) (r : Nat) : Option Nat :=
  match st[r]? with
  | some (Res.row _ _ _) => some (E.loc r)
  | some (.map _ _ _) => some (E.loc r)
  | some (Res.tail n _) => if n < (E.tl r).2 then (E.tl r).1.map (·.block) else none
  | _ => none
def live (E : Env) (st : St) (b : Nat) : Prop := ∃ r, blk E st r = some b

structure WS (c : Cfg) (E : Env) (st : St) (w : World) : Prop where
  hF : ∀ b o v, E.F b o = some v → w.cell? ⟨b, o, none⟩ = some v
  row : ∀ (r : Nat) (t : TypeId) (g : Nat) (cells : List Cell), st[r]? = some (Res.row t g cells) → ∃ cs, w.heap[E.loc r]? = some (.cells cs t (0, 0)) ∧ cs.size = E.sz r ∧ cells.length ≤ cs.size ∧
    (∀ (i : Nat) (x : Cell), cells[i]? = some x → CC E st x (cs.getD i undef)) ∧ (∀ o, E.F (E.loc r) o = none)
  tail : ∀ (r n e : Nat), st[r]? = some (Res.tail n e) → n ≤ (E.tl r).2 ∧ (n < (E.tl r).2 → ∃ b cs t, (E.tl r).1 = some ⟨b, 0, none⟩ ∧ w.heap[b]? = some (.cells cs t (0, 0)) ∧
    (E.tl r).2 * e ≤ cs.size ∧ (∀ o, n * e ≤ o → E.F b o = none))
  map : ∀ (r : Nat) (kt et : TypeId) (es : List (Cell × List Cell)), st[r]? = some (Res.map kt et es) → ∃ ms clock, w.heap[E.loc r]? = some (.map ms clock) ∧ ms.size = es.length ∧
    (∀ (i : Nat) (e : Cell × List Cell), es[i]? = some e → ∃ m, ms[i]? = some m ∧ keyOf c kt (.one e.1) = some e.1 ∧ CP E.F e.1 m.key ∧ ∃ av, avOf c et e.2 = some av ∧ AVC E st av m.val)
  inj : ∀ r r' b, blk E st r = some b → blk E st r' = some b → r = r'
  glob : ∀ g cells, c.glob g = some cells → ∃ vs : Nat → Value, ∀ (j : Nat) (x : Cell), cells[j]? = some x → E.F g j = some (vs j) ∧ CP E.F x (vs j) ∧ x.noTok = true

/-- From one state to a later one. N: the blocks that there were; X: those that may be written. -/
structure Ext (N : Nat) (X : Nat → Prop) (E : Env) (st : St) (E' : Env) (st' : St) : Prop where
  F : E.F.le E'.F
  Fnew : ∀ b o, b < N → ¬ X b → E'.F b o = E.F b o
  len : st.length ≤ st'.length
  row : ∀ (r : Nat) (t : TypeId) (g : Nat) (cells : List Cell), st[r]? = some (Res.row t g cells) → st'[r]? = some Res.dead ∨ ∃ t' g' cells', st'[r]? = some (Res.row t' g' cells') ∧ g ≤ g' ∧ (g = g' → E'.loc r = E.loc r ∧ E'.sz r = E.sz r)
  nrow : ∀ (r : Nat) (t : TypeId) (g : Nat), st[r]? = some (Res.nrow t g) → st'[r]? = some Res.dead ∨ st'[r]? = some (Res.nrow t g) ∨ ∃ t' g' cells', st'[r]? = some (Res.row t' g' cells') ∧ g < g'
  tail : ∀ (r n e : Nat), st[r]? = some (Res.tail n e) → st'[r]? = some Res.dead ∨ ∃ n', st'[r]? = some (Res.tail n' e) ∧ n ≤ n' ∧ (n = n' → E'.tl r = E.tl r)
  map : ∀ (r : Nat) (kt et : TypeId) (es : List (Cell × List Cell)), st[r]? = some (Res.map kt et es) → st'[r]? = some Res.dead ∨ ∃ es', st'[r]? = some (Res.map kt et es') ∧ E'.loc r = E.loc r
  dead : ∀ (r : Nat), st[r]? = some Res.dead → st'[r]? = some Res.dead
  blocks : ∀ r b, blk E' st' r = some b → N ≤ b ∨ X b

theorem get_lt {st : St} {r : Nat} {x : Res} (h : st[r]? = some x) : r < st.length := (List.getElem?_eq_some_iff.1 h).1

theorem Ext.back {N : Nat} {X : Nat → Prop} {E E' : Env} {st st' : St} (h : Ext N X E st E' st') {r : Nat} (hr : r < st.length) :
    (∀ t' g' cells', st'[r]? = some (Res.row t' g' cells') → (∃ t g cells, st[r]? = some (Res.row t g cells) ∧ g ≤ g' ∧ (g = g' → E'.loc r = E.loc r ∧ E'.sz r = E.sz r)) ∨ (∃ t g, st[r]? = some (Res.nrow t g) ∧ g < g')) ∧
    (∀ t' g', st'[r]? = some (Res.nrow t' g') → st[r]? = some (Res.nrow t' g')) ∧
    (∀ n' e', st'[r]? = some (Res.tail n' e') → ∃ n, st[r]? = some (Res.tail n e') ∧ n ≤ n' ∧ (n = n' → E'.tl r = E.tl r)) ∧
    (∀ kt et es', st'[r]? = some (Res.map kt et es') → ∃ es, st[r]? = some (Res.map kt et es) ∧ E'.loc r = E.loc r) := by
  obtain ⟨x, hx⟩ : ∃ x, st[r]? = some x := ⟨_, List.getElem?_eq_getElem hr⟩
  cases x with
  | dead => have hd := h.dead r hx; exact ⟨fun _ _ _ e => (by rw [hd] at e; simp at e), fun _ _ e => (by rw [hd] at e; simp at e), fun _ _ e => (by rw [hd] at e; simp at e), fun _ _ _ e => (by rw [hd] at e; simp at e)⟩
  | row t g cells =>
    rcases h.row r t g cells hx with hd | ⟨t', g', cells', hd, hg, hl⟩
    · exact ⟨fun _ _ _ e => (by rw [hd] at e; simp at e), fun _ _ e => (by rw [hd] at e; simp at e), fun _ _ e => (by rw [hd] at e; simp at e), fun _ _ _ e => (by rw [hd] at e; simp at e)⟩
    · refine ⟨fun t2 g2 c2 e => ?_, fun _ _ e => (by rw [hd] at e; simp at e), fun _ _ e => (by rw [hd] at e; simp at e), fun _ _ _ e => (by rw [hd] at e; simp at e)⟩
      rw [hd] at e; simp at e; obtain ⟨rfl, rfl, rfl⟩ := e
      exact .inl ⟨t, g, cells, hx, hg, hl⟩
  | nrow t g =>
    rcases h.nrow r t g hx with hd | hd | ⟨t', g', cells', hd, hg⟩
    · exact ⟨fun _ _ _ e => (by rw [hd] at e; simp at e), fun _ _ e => (by rw [hd] at e; simp at e), fun _ _ e => (by rw [hd] at e; simp at e), fun _ _ _ e => (by rw [hd] at e; simp at e)⟩
    · refine ⟨fun _ _ _ e => (by rw [hd] at e; simp at e), fun t2 g2 e => ?_, fun _ _ e => (by rw [hd] at e; simp at e), fun _ _ _ e => (by rw [hd] at e; simp at e)⟩
      rw [hd] at e; rw [← e]; exact hx
    · refine ⟨fun t2 g2 c2 e => ?_, fun _ _ e => (by rw [hd] at e; simp at e), fun _ _ e => (by rw [hd] at e; simp at e), fun _ _ _ e => (by rw [hd] at e; simp at e)⟩
      rw [hd] at e; simp at e; obtain ⟨rfl, rfl, rfl⟩ := e
      exact .inr ⟨t, g, hx, hg⟩
  | tail n e0 =>
    rcases h.tail r n e0 hx with hd | ⟨n', hd, hn, hl⟩
    · exact ⟨fun _ _ _ e => (by rw [hd] at e; simp at e), fun _ _ e => (by rw [hd] at e; simp at e), fun _ _ e => (by rw [hd] at e; simp at e), fun _ _ _ e => (by rw [hd] at e; simp at e)⟩
    · refine ⟨fun _ _ _ e => (by rw [hd] at e; simp at e), fun _ _ e => (by rw [hd] at e; simp at e), fun n2 e2 e => ?_, fun _ _ _ e => (by rw [hd] at e; simp at e)⟩
      rw [hd] at e; simp at e; obtain ⟨rfl, rfl⟩ := e
      exact ⟨n, hx, hn, hl⟩
  | map kt et es =>
    rcases h.map r kt et es hx with hd | ⟨es', hd, hl⟩
    · exact ⟨fun _ _ _ e => (by rw [hd] at e; simp at e), fun _ _ e => (by rw [hd] at e; simp at e), fun _ _ e => (by rw [hd] at e; simp at e), fun _ _ _ e => (by rw [hd] at e; simp at e)⟩
    · refine ⟨fun _ _ _ e => (by rw [hd] at e; simp at e), fun _ _ e => (by rw [hd] at e; simp at e), fun _ _ e => (by rw [hd] at e; simp at e), fun k2 e2 es2 e => ?_⟩
      rw [hd] at e; simp at e; obtain ⟨rfl, rfl, rfl⟩ := e
      exact ⟨es, hx, hl⟩

theorem TokOK.ext {N : Nat} {X : Nat → Prop} {E E' : Env} {st st' : St} (h : Ext N X E st E' st') {tok : Tok} {rows : List (List Cell)} {v : Value} (ht : TokOK E st tok rows v) : TokOK E' st' tok rows v := by
  cases tok with
  | no => trivial
  | exact => exact ht
  | tail r =>
    obtain ⟨hr, ht⟩ := ht
    refine ⟨Nat.lt_of_lt_of_le hr h.len, fun n' e' hn' => ?_⟩
    obtain ⟨n, hn, hle, hl⟩ := (h.back hr).2.2.1 n' e' hn'
    obtain ⟨h1, h2⟩ := ht n e' hn
    refine ⟨by omega, fun he A m cap hv => ?_⟩
    have : n = n' := by omega
    rw [hl this]
    exact h2 (by omega) A m cap hv

theorem CC.ext {N : Nat} {X : Nat → Prop} {E E' : Env} {st st' : St} (h : Ext N X E st E' st') {c : Cell} {v : Value} (hc : CC E st c v) : CC E' st' c v := by
  induction hc with
  | pure c v hp ht => exact .pure c v (hp.mono h.F) fun tok e rows hc => (ht tok e rows hc).ext h
  | own r g esz cp off len A cap hr hc0 hA h0 hn =>
    refine .own r g esz cp off len A cap (Nat.lt_of_lt_of_le hr h.len) hc0 hA (fun t' g' cells' hx => ?_) (fun t' g' hx => ?_)
    · rcases (h.back hr).1 t' g' cells' hx with ⟨t, g0, cells, h1, h2, h3⟩ | ⟨t, g0, h1, h2⟩
      · obtain ⟨h4, h5⟩ := h0 t g0 cells h1
        refine ⟨by omega, fun he => ?_⟩
        have e1 : g0 = g' := by omega
        obtain ⟨e2, e3⟩ := h3 e1
        rw [e2, e3]
        exact h5 (by omega)
      · have h4 := (hn t g0 h1).1
        exact ⟨by omega, fun he => by omega⟩
    · exact hn t' g' ((h.back hr).2.1 t' g' hx)
  | ptr r g off a hr h0 hn =>
    refine .ptr r g off a (Nat.lt_of_lt_of_le hr h.len) (fun t' g' cells' hx => ?_) (fun t' g' hx => ?_)
    · rcases (h.back hr).1 t' g' cells' hx with ⟨t, g0, cells, h1, h2, h3⟩ | ⟨t, g0, h1, h2⟩
      · obtain ⟨h4, h5⟩ := h0 t g0 cells h1
        refine ⟨by omega, fun he => ?_⟩
        have e1 : g0 = g' := by omega
        rw [(h3 e1).1]
        exact h5 (by omega)
      · exact absurd h1 (hn t g0)
    · exact hn t' g' ((h.back hr).2.1 t' g' hx)
  | fp cells b o vs hF hC => exact .fp cells b o vs (fun j c hj => h.F _ _ _ (hF j c hj)) fun j c hj => ⟨(hC j c hj).1.mono h.F, (hC j c hj).2⟩
  | map r m hr h0 =>
    refine .map r m (Nat.lt_of_lt_of_le hr h.len) fun kt et es' hx => ?_
    obtain ⟨es, h1, h2⟩ := (h.back hr).2.2.2 kt et es' hx
    rw [h2]
    exact h0 kt et es h1
  | func f first captured fs cs h1 h2 _ _ i1 i2 => exact .func f first captured fs cs h1 h2 i1 i2

theorem AVC.ext {N : Nat} {X : Nat → Prop} {E E' : Env} {st st' : St} (h : Ext N X E st E' st') {x : AV} {v : Value} (hx : AVC E st x v) : AVC E' st' x v := by
  induction hx with
  | any v => exact .any v
  | one c v hc => exact .one c v (hc.ext h)
  | agg cs vs hs hc => exact .agg cs vs hs fun i c hi => (hc i c hi).ext h
  | tup xs vs hs _ ih => exact .tup xs vs hs ih

theorem Ext.refl {E : Env} {st : St} (N : Nat) : Ext N (live E st) E st E st where
  F := Fz.le_refl _
  Fnew := fun _ _ _ _ => rfl
  len := Nat.le_refl _
  row := fun r t g cells h => .inr ⟨t, g, cells, h, Nat.le_refl _, fun _ => ⟨rfl, rfl⟩⟩
  nrow := fun r t g h => .inr (.inl h)
  tail := fun r n e h => .inr ⟨n, h, Nat.le_refl _, fun _ => rfl⟩
  map := fun r kt et es h => .inr ⟨es, h, rfl⟩
  dead := fun r h => h
  blocks := fun r b h => .inr ⟨r, h⟩

theorem Ext.trans {N N1 : Nat} {X : Nat → Prop} {E E1 E2 : Env} {st st1 st2 : St} (h : Ext N X E st E1 st1) (hN : N ≤ N1) (h' : Ext N1 (live E1 st1) E1 st1 E2 st2) : Ext N X E st E2 st2 where
  F := Fz.le_trans h.F h'.F
  Fnew := fun b o hb hx => by
    rw [h'.Fnew b o (Nat.lt_of_lt_of_le hb hN) ?_, h.Fnew b o hb hx]
    rintro ⟨r, hr⟩
    rcases h.blocks r b hr with h1 | h1
    · omega
    · exact hx h1
  len := Nat.le_trans h.len h'.len
  row := fun r t g cells hr => by
    rcases h.row r t g cells hr with h1 | ⟨t1, g1, c1, h1, h2, h3⟩
    · exact .inl (h'.dead r h1)
    · rcases h'.row r t1 g1 c1 h1 with h4 | ⟨t2, g2, c2, h4, h5, h6⟩
      · exact .inl h4
      · refine .inr ⟨t2, g2, c2, h4, by omega, fun he => ?_⟩
        obtain ⟨a1, a2⟩ := h6 (by omega)
        obtain ⟨b1, b2⟩ := h3 (by omega)
        exact ⟨a1.trans b1, a2.trans b2⟩
  nrow := fun r t g hr => by
    rcases h.nrow r t g hr with h1 | h1 | ⟨t1, g1, c1, h1, h2⟩
    · exact .inl (h'.dead r h1)
    · exact h'.nrow r t g h1
    · rcases h'.row r t1 g1 c1 h1 with h4 | ⟨t2, g2, c2, h4, h5, h6⟩
      · exact .inl h4
      · exact .inr (.inr ⟨t2, g2, c2, h4, by omega⟩)
  tail := fun r n e hr => by
    rcases h.tail r n e hr with h1 | ⟨n1, h1, h2, h3⟩
    · exact .inl (h'.dead r h1)
    · rcases h'.tail r n1 e h1 with h4 | ⟨n2, h4, h5, h6⟩
      · exact .inl h4
      · exact .inr ⟨n2, h4, by omega, fun he => (h6 (by omega)).trans (h3 (by omega))⟩
  map := fun r kt et es hr => by
    rcases h.map r kt et es hr with h1 | ⟨es1, h1, h2⟩
    · exact .inl (h'.dead r h1)
    · rcases h'.map r kt et es1 h1 with h4 | ⟨es2, h4, h5⟩
      · exact .inl h4
      · exact .inr ⟨es2, h4, h5.trans h2⟩
  dead := fun r hr => h'.dead r (h.dead r hr)
  blocks := fun r b hr => by
    rcases h'.blocks r b hr with h1 | ⟨r1, h1⟩
    · exact .inl (by omega)
    · exact h.blocks r1 b h1

/-- What stayed of the world. -/
structure Kept (N : Nat) (X : Nat → Prop) (w w' : World) : Prop where
  os : w'.os = w.os
  tape : w'.tape = w.tape
  output : w'.output = w.output
  size : w.heap.size ≤ w'.heap.size
  block : ∀ b, b < N → ¬ X b → w'.heap[b]? = w.heap[b]?
theorem Kept.refl (N : Nat) (X : Nat → Prop) (w : World) : Kept N X w w := ⟨rfl, rfl, rfl, Nat.le_refl _, fun _ _ _ => rfl⟩
theorem Kept.trans {N N1 : Nat} {X X1 : Nat → Prop} {w w1 w2 : World} (h : Kept N X w w1) (hN : N ≤ N1) (hX : ∀ b, X1 b → N ≤ b ∨ X b) (h' : Kept N1 X1 w1 w2) : Kept N X w w2 :=
  ⟨h'.os.trans h.os, h'.tape.trans h.tape, h'.output.trans h.output, Nat.le_trans h.size h'.size, fun b hb hx => by
    rw [h'.block b (by omega) ?_, h.block b hb hx]
    intro hx1
    rcases hX b hx1 with h1 | h1
    · omega
    · exact hx h1⟩

/-- One step's whole outcome: the state (E', st') in w' behind (E, st) in w. -/
structure Step (c : Cfg) (E : Env) (st : St) (w : World) (E' : Env) (st' : St) (w' : World) : Prop where
  ws : WS c E' st' w'
  ext : Ext w.heap.size (live E st) E st E' st'
  kept : Kept w.heap.size (live E st) w w'
theorem Step.refl {c : Cfg} {E : Env} {st : St} {w : World} (h : WS c E st w) : Step c E st w E st w := ⟨h, Ext.refl _, Kept.refl _ _ _⟩
theorem Step.trans {c : Cfg} {E E1 E2 : Env} {st st1 st2 : St} {w w1 w2 : World} (h : Step c E st w E1 st1 w1) (h' : Step c E1 st1 w1 E2 st2 w2) : Step c E st w E2 st2 w2 :=
  ⟨h'.ws, h.ext.trans h.kept.size h'.ext, h.kept.trans h.kept.size (fun b ⟨r, hr⟩ => h.ext.blocks r b hr) h'.kept⟩

end Go.AI
