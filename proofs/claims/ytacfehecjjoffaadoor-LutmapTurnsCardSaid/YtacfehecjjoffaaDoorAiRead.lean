/- What can be read as data, as the interpreter's values. -/
import Derived.Test.YtacfehecjjoffaaDoorAiConc
import Derived.ChangeArms
import Derived.DataReads
import Derived.OpenShut
set_option linter.unusedVariables false
set_option linter.unusedSimpArgs false
namespace Go.AI
open Go
/-- The cells of memory, as they lie. -/
def Fz.of (w : World) : Fz := fun b o => w.cell? ⟨b, o, none⟩
/-- What is read at type t is coded by e. -/
def RD (P : Program) (w : World) (t : TypeId) {α : Type} (ok : α → Prop) (e : α → List Cell) : Prop :=
  ∀ (H : Type) (enc : TypeId × Value → H) (base : Nat) (sp : Nat → Bool) (held : Bool) (fuel : Nat) (cs : List Value) (x : DataW H × List MemPlace), DataW.trod enc P w base sp held fuel t cs = some x →
    ∃ a, ok a ∧ cs.length = (e a).length ∧ ∀ (j : Nat) (c : Cell), (e a)[j]? = some c → ∃ v, cs[j]? = some v ∧ CP (Fz.of w) c v ∧ c.noTok = true
variable {P : Program} {w : World} {t : TypeId}
theorem RD.map {α β : Type} {ok : α → Prop} {e : α → List Cell} (h : RD P w t ok e) (f : α → β) {ok' : β → Prop} {e' : β → List Cell} (ho : ∀ a, ok a → ok' (f a)) (he : ∀ a, e' (f a) = e a) : RD P w t ok' e' := by
  intro H enc base sp held fuel cs x hx
  obtain ⟨a, h1, h2, h3⟩ := h H enc base sp held fuel cs x hx
  exact ⟨f a, ho a h1, by rw [he]; exact h2, fun j c hc => h3 j c (by rw [← he]; exact hc)⟩
theorem rd_bool (ht : P.underlying t = some .bool) : RD P w t (fun _ : Bool => True) (fun b => [.bool b]) := by
  intro H enc base sp held fuel cs x hx
  obtain ⟨b, rfl, _⟩ := DataW.trod_bool ht hx
  refine ⟨b, trivial, rfl, fun j c hc => ?_⟩
  cases j with
  | zero => simp at hc; subst hc; exact ⟨_, rfl, .bool b, rfl⟩
  | succ j => simp at hc
theorem rd_int {k : IntKind} (ht : P.underlying t = some (.int k)) : RD P w t (fun n : Int => (Lit.int k n).wf = true) (fun n => [.int k n]) := by
  intro H enc base sp held fuel cs x hx
  obtain ⟨n, rfl, _, hw⟩ := DataW.trod_int ht hx
  refine ⟨n, hw, rfl, fun j c hc => ?_⟩
  cases j with
  | zero => simp at hc; subst hc; exact ⟨_, rfl, .int k n, rfl⟩
  | succ j => simp at hc
theorem list_of {α : Type} : ∀ (n : Nat) (p : Nat → α → Prop), (∀ i, i < n → ∃ a, p i a) → ∃ l : List α, l.length = n ∧ ∀ i a, l[i]? = some a → p i a
  | 0, p, _ => ⟨[], rfl, fun i a h => by simp at h⟩
  | n + 1, p, h => by
    obtain ⟨l, h1, h2⟩ := list_of n p fun i hi => h i (by omega)
    obtain ⟨a, ha⟩ := h n (by omega)
    refine ⟨l ++ [a], by simp [h1], fun i b hb => ?_⟩
    rcases Nat.lt_or_ge i n with hi | hi
    · rw [List.getElem?_append_left (by omega)] at hb; exact h2 i b hb
    · rw [List.getElem?_append_right (by omega)] at hb
      obtain ⟨hi', rfl⟩ : i - l.length = 0 ∧ b = a := by
        cases hk : i - l.length with
        | zero => rw [hk] at hb; simp at hb; exact ⟨rfl, hb.symm⟩
        | succ k => rw [hk] at hb; simp at hb
      have : i = n := by omega
      subst this; exact ha
theorem rd_slice {e : TypeId} (ht : P.underlying t = some (.slice e)) {α : Type} {ok : α → Prop} {en : α → List Cell} {s : Nat} (hs : P.cellsOf e = s) (hs0 : 0 < s) (hl : ∀ a, (en a).length = s) (he : RD P w e ok en) :
    RD P w t (fun l : List α => (∀ a ∈ l, ok a) ∧ l.length ≤ 9223372036854775807) (fun l => [.slice .no s (l.map en)]) := by
  intro H enc base sp held fuel cs x hx
  rcases DataW.trod_slice ht hx with ⟨rfl, _⟩ | ⟨a, len, cap, elems, rest, n, _, rfl, _, hb, hlc, hcm, hel, hes, _⟩
  · refine ⟨[], ⟨by simp, by simp⟩, rfl, fun j c hc => ?_⟩
    cases j with
    | zero =>
      simp at hc; subst hc
      exact ⟨_, rfl, .slice .no s [] none 0 0 0 (fun _ _ => undef) (fun h => absurd rfl h) (by simp) (fun i row h => by simp at h) (fun i j row c h => by simp at h) (fun i j row c h => by simp at h) (fun i j row c h => by simp at h), rfl⟩
    | succ j => simp at hc
  · rw [hs] at hes
    have each : ∀ i, i < len → ∃ y : α, ok y ∧ ∀ (j : Nat) (c : Cell), (en y)[j]? = some c → ∃ v, w.cell? ((a.add (i * s)).add j) = some v ∧ CP (Fz.of w) c v ∧ c.noTok = true := by
      intro i hi
      have h := hes i hi
      rw [List.getElem?_eq_getElem (by omega)] at h
      obtain ⟨ci, h1, h2⟩ := Option.bind_eq_some_iff.1 h
      obtain ⟨y, y1, y2, y3⟩ := he H enc base sp held n ci _ h2
      obtain ⟨_, c1, c2⟩ := World.cells?_some h1
      refine ⟨y, y1, fun j c hc => ?_⟩
      obtain ⟨v, v1, v2⟩ := y3 j c hc
      have hj : j < s := by
        have := (List.getElem?_eq_some_iff.1 hc).1
        rw [hl] at this; exact this
      exact ⟨v, by rw [c2 j hj]; exact v1, v2⟩
    obtain ⟨l, l1, l2⟩ := list_of len _ each
    have spot : l ≠ [] → a.spot = none := fun hne => by
      cases l with
      | nil => exact absurd rfl hne
      | cons y l =>
        obtain ⟨_, h⟩ := l2 0 y rfl
        have h0 : 0 < (en y).length := by rw [hl]; exact hs0
        obtain ⟨v, hv, _⟩ := h 0 _ (List.getElem?_eq_getElem h0)
        simp only [Nat.zero_mul, Addr.add, if_true] at hv
        unfold World.cell? at hv
        cases hsp : a.spot with
        | none => rfl
        | some k => rw [hsp] at hv; split at hv <;> simp at hv
    have cell : ∀ (i j : Nat) (y : α) (c : Cell), l[i]? = some y → (en y)[j]? = some c → ∃ v, Fz.of w a.block (a.off + i * s + j) = some v ∧ CP (Fz.of w) c v ∧ c.noTok = true := by
      intro i j y c hy hc
      obtain ⟨v, v1, v2⟩ := (l2 i y hy).2 j c hc
      have hsp := spot (fun e => by rw [e] at hy; simp at hy)
      refine ⟨v, ?_, v2⟩
      rw [← v1]
      unfold Fz.of
      congr 1
      obtain ⟨ab, ao, asp⟩ := a
      simp only at hsp
      subst hsp
      unfold Addr.add
      split <;> split <;> simp_all <;> omega
    refine ⟨l, ⟨fun y hy => ?_, by rw [l1]; exact Nat.le_trans hlc hcm⟩, rfl, fun j c hc => ?_⟩
    · obtain ⟨i, hi, rfl⟩ := List.getElem_of_mem hy
      exact (l2 i _ (List.getElem?_eq_getElem hi)).1
    · cases j with
      | succ j => simp at hc
      | zero =>
        simp at hc; subst hc
        refine ⟨_, rfl, ?_, rfl⟩
        have := CP.slice (F := Fz.of w) .no s (l.map en) (some a) a.block a.off cap (fun i j => (Fz.of w a.block (a.off + i * s + j)).getD undef) (fun hne => by
            have := spot (fun e => hne (by rw [e]; rfl))
            obtain ⟨ab, ao, asp⟩ := a; simp only at this; subst this; rfl) (by rw [List.length_map, l1]; exact hlc)
          (fun i row hr => by
            rw [List.getElem?_map] at hr
            obtain ⟨y, _, rfl⟩ := Option.map_eq_some_iff.1 hr
            exact hl y)
          (fun i j row c hr hc => by
            rw [List.getElem?_map] at hr
            obtain ⟨y, hy, rfl⟩ := Option.map_eq_some_iff.1 hr
            obtain ⟨v, hv, _⟩ := cell i j y c hy hc
            rw [hv]; rfl)
          (fun i j row c hr hc => by
            rw [List.getElem?_map] at hr
            obtain ⟨y, hy, rfl⟩ := Option.map_eq_some_iff.1 hr
            obtain ⟨v, hv, hcp, _⟩ := cell i j y c hy hc
            rw [hv]; exact hcp)
          (fun i j row c hr hc => by
            rw [List.getElem?_map] at hr
            obtain ⟨y, hy, rfl⟩ := Option.map_eq_some_iff.1 hr
            obtain ⟨v, _, _, hn⟩ := cell i j y c hy hc
            exact hn)
        rw [List.length_map, l1] at this
        exact this
theorem field_rd {H : Type} {enc : TypeId × Value → H} {base : Nat} {sp : Nat → Bool} {held : Bool} {fuel : Nat} {u : TypeId} {α : Type} {ok : α → Prop} {e : α → List Cell} (h : RD P w u ok e) {cs : List Value} {o : Nat} {x : DataW H × List MemPlace} (hx : DataW.trod enc P w base sp held fuel u ((cs.drop o).take 1) = some x)
    (ho : o < cs.length) : ∃ a, ok a ∧ ∃ c v, e a = [c] ∧ cs[o]? = some v ∧ CP (Fz.of w) c v ∧ c.noTok = true := by
  obtain ⟨a, h1, h2, h3⟩ := h H enc base sp held fuel _ x hx
  have hl : (e a).length = 1 := by rw [← h2]; simp; omega
  obtain ⟨c, hc⟩ := List.length_eq_one_iff.1 hl
  obtain ⟨v, hv, hcp, hn⟩ := h3 0 c (by rw [hc]; rfl)
  refine ⟨a, h1, c, v, hc, ?_, hcp, hn⟩
  rw [List.getElem?_take, List.getElem?_drop] at hv
  simpa using hv
theorem rd_struct2 {fs : Array Field} (ht : P.underlying t = some (.struct fs)) (hn : P.cellsOf t = 2) {f0 f1 : Field} (g0 : fs[0]? = some f0) (g1 : fs[1]? = some f1) (o0 : f0.offset = 0) (o1 : f1.offset = 1)
    (s0 : P.cellsOf f0.type = 1) (s1 : P.cellsOf f1.type = 1) {α β : Type} {ok0 : α → Prop} {ok1 : β → Prop} {e0 : α → List Cell} {e1 : β → List Cell} (h0 : RD P w f0.type ok0 e0) (h1 : RD P w f1.type ok1 e1) :
    RD P w t (fun p : α × β => ok0 p.1 ∧ ok1 p.2) (fun p => e0 p.1 ++ e1 p.2) := by
  intro H enc base sp held fuel cs x hx
  obtain ⟨xs, n, _, _, hlen, hxs, hf⟩ := DataW.trod_struct ht hx
  rw [hn] at hlen
  have hsz : ∀ i f, fs[i]? = some f → ∃ y, xs[i]? = some y := fun i f hi => by
    have := (Array.getElem?_eq_some_iff.1 hi).1
    exact ⟨_, List.getElem?_eq_getElem (by omega)⟩
  obtain ⟨y0, hy0⟩ := hsz 0 f0 g0
  obtain ⟨y1, hy1⟩ := hsz 1 f1 g1
  have q0 := hf 0 f0 g0
  have q1 := hf 1 f1 g1
  rw [hy0, o0, s0] at q0
  rw [hy1, o1, s1] at q1
  obtain ⟨a, ka, c0, v0, ea, va, pa, na⟩ := field_rd h0 q0 (by omega)
  obtain ⟨b, kb, c1, v1, eb, vb, pb, nb⟩ := field_rd h1 q1 (by omega)
  refine ⟨(a, b), ⟨ka, kb⟩, by simp [ea, eb, hlen], fun j c hc => ?_⟩
  simp only [ea, eb, List.cons_append, List.nil_append] at hc
  match j, hc with
  | 0, hc => simp at hc; subst hc; exact ⟨v0, va, pa, na⟩
  | 1, hc => simp at hc; subst hc; exact ⟨v1, vb, pb, nb⟩
  | j + 2, hc => simp at hc
theorem rd_struct4 {fs : Array Field} (ht : P.underlying t = some (.struct fs)) (hn : P.cellsOf t = 4) {f0 f1 f2 f3 : Field} (g0 : fs[0]? = some f0) (g1 : fs[1]? = some f1) (g2 : fs[2]? = some f2) (g3 : fs[3]? = some f3)
    (o0 : f0.offset = 0) (o1 : f1.offset = 1) (o2 : f2.offset = 2) (o3 : f3.offset = 3)
    (s0 : P.cellsOf f0.type = 1) (s1 : P.cellsOf f1.type = 1) (s2 : P.cellsOf f2.type = 1) (s3 : P.cellsOf f3.type = 1) {α β γ δ : Type} {ok0 : α → Prop} {ok1 : β → Prop} {ok2 : γ → Prop} {ok3 : δ → Prop}
    {e0 : α → List Cell} {e1 : β → List Cell} {e2 : γ → List Cell} {e3 : δ → List Cell} (h0 : RD P w f0.type ok0 e0) (h1 : RD P w f1.type ok1 e1) (h2 : RD P w f2.type ok2 e2) (h3 : RD P w f3.type ok3 e3) :
    RD P w t (fun p : α × β × γ × δ => ok0 p.1 ∧ ok1 p.2.1 ∧ ok2 p.2.2.1 ∧ ok3 p.2.2.2) (fun p => e0 p.1 ++ (e1 p.2.1 ++ (e2 p.2.2.1 ++ e3 p.2.2.2))) := by
  intro H enc base sp held fuel cs x hx
  obtain ⟨xs, n, _, _, hlen, hxs, hf⟩ := DataW.trod_struct ht hx
  rw [hn] at hlen
  have hsz : ∀ i f, fs[i]? = some f → ∃ y, xs[i]? = some y := fun i f hi => by
    have := (Array.getElem?_eq_some_iff.1 hi).1
    exact ⟨_, List.getElem?_eq_getElem (by omega)⟩
  obtain ⟨y0, hy0⟩ := hsz 0 f0 g0
  obtain ⟨y1, hy1⟩ := hsz 1 f1 g1
  obtain ⟨y2, hy2⟩ := hsz 2 f2 g2
  obtain ⟨y3, hy3⟩ := hsz 3 f3 g3
  have q0 := hf 0 f0 g0
  have q1 := hf 1 f1 g1
  have q2 := hf 2 f2 g2
  have q3 := hf 3 f3 g3
  rw [hy0, o0, s0] at q0
  rw [hy1, o1, s1] at q1
  rw [hy2, o2, s2] at q2
  rw [hy3, o3, s3] at q3
  obtain ⟨a, ka, c0, v0, ea, va, pa, na⟩ := field_rd h0 q0 (by omega)
  obtain ⟨b, kb, c1, v1, eb, vb, pb, nb⟩ := field_rd h1 q1 (by omega)
  obtain ⟨c, kc, c2, v2, ec, vc, pc, nc⟩ := field_rd h2 q2 (by omega)
  obtain ⟨d, kd, c3, v3, ed, vd, pd, nd⟩ := field_rd h3 q3 (by omega)
  refine ⟨(a, b, c, d), ⟨ka, kb, kc, kd⟩, by simp [ea, eb, ec, ed, hlen], fun j u hc => ?_⟩
  simp only [ea, eb, ec, ed, List.cons_append, List.nil_append] at hc
  match j, hc with
  | 0, hc => simp at hc; subst hc; exact ⟨v0, va, pa, na⟩
  | 1, hc => simp at hc; subst hc; exact ⟨v1, vb, pb, nb⟩
  | 2, hc => simp at hc; subst hc; exact ⟨v2, vc, pc, nc⟩
  | 3, hc => simp at hc; subst hc; exact ⟨v3, vd, pd, nd⟩
  | j + 4, hc => simp at hc
/-- An argument of one cell. -/
theorem av_one {α : Type} {ok : α → Prop} {e : α → List Cell} (h : RD P w t ok e) {H : Type} {enc : TypeId × Value → H} {base : Nat} {sp : Nat → Bool} {held : Bool} {v : Value} {d : DataW H} {ps : List MemPlace} (hv : v.cells = #[v]) (hx : DataW.Trod enc P w base sp held t v d ps)
    {E : Env} (hE : E.F = Fz.of w) (st : St) : ∃ a, ok a ∧ ∃ c, e a = [c] ∧ AVC E st (.one c) v := by
  obtain ⟨fuel, hx⟩ := hx
  rw [hv] at hx
  obtain ⟨a, h1, h2, h3⟩ := h H enc base sp held fuel _ _ hx
  obtain ⟨c, hc⟩ := List.length_eq_one_iff.1 (show (e a).length = 1 by rw [← h2]; rfl)
  obtain ⟨v', hv', hcp, hn⟩ := h3 0 c (by rw [hc]; rfl)
  simp at hv'
  subst hv'
  exact ⟨a, h1, c, hc, .one _ _ (.of_noTok (by rw [hE]; exact hcp) hn)⟩
/-- An argument of many. -/
theorem av_agg {α : Type} {ok : α → Prop} {e : α → List Cell} (h : RD P w t ok e) {H : Type} {enc : TypeId × Value → H} {base : Nat} {sp : Nat → Bool} {held : Bool} {vs : Array Value} {d : DataW H} {ps : List MemPlace} (hx : DataW.Trod enc P w base sp held t (.agg vs) d ps)
    {E : Env} (hE : E.F = Fz.of w) (st : St) : ∃ a, ok a ∧ AVC E st (.agg (e a)) (.agg vs) := by
  obtain ⟨fuel, hx⟩ := hx
  obtain ⟨a, h1, h2, h3⟩ := h H enc base sp held fuel _ _ hx
  have h2 : vs.size = (e a).length := by rw [← h2]; simp [Value.cells]
  refine ⟨a, h1, .agg _ _ h2 fun i c hc => ?_⟩
  obtain ⟨v, hv, hcp, hn⟩ := h3 i c hc
  have : vs.getD i undef = v := by
    simp only [Value.cells, Array.getElem?_toList] at hv
    rw [Array.getD_eq_getD_getElem?, hv]; rfl
  rw [this]
  exact .of_noTok (by rw [hE]; exact hcp) hn
end Go.AI
