/- From the text's order to any order. -/
import Derived.Test.YtacfehecjjoffaaDoorAiOrder
set_option linter.unusedVariables false
set_option linter.unusedSimpArgs false
namespace Go.AI
open Go

variable {c : Cfg} {ops : Array Oper} {wb : Nat} {callf : FuncId → List AV → St → Option (AV × St)}

theorem after_bits (acc : Array Nat) (i : Nat) : ∀ (l : List Edge) (s : Nat), Nat.testBit (l.foldl (fun s e => if Region.binds .any e then s ||| 2 ^ e.on ||| acc.getD e.on 0 else s) s) i = true →
    Nat.testBit s i = true ∨ ∃ e ∈ l, Region.binds .any e = true ∧ (e.on = i ∨ Nat.testBit (acc.getD e.on 0) i = true)
  | [], s, h => .inl h
  | e :: l, s, h => by
    rw [List.foldl_cons] at h
    rcases after_bits acc i l _ h with h1 | ⟨e', h1, h2, h3⟩
    · by_cases hb : Region.binds .any e = true
      · rw [if_pos hb, Nat.testBit_or, Nat.testBit_or, Bool.or_eq_true, Bool.or_eq_true] at h1
        rcases h1 with (h1 | h1) | h1
        · exact .inl h1
        · refine .inr ⟨e, List.mem_cons_self .., hb, .inl ?_⟩
          rw [Nat.testBit_two_pow] at h1
          simpa using h1
        · exact .inr ⟨e, List.mem_cons_self .., hb, .inr h1⟩
      · rw [if_neg hb] at h1; exact .inl h1
    · exact .inr ⟨e', List.mem_cons_of_mem _ h1, h2, h3⟩

theorem before_go {l0 : Array Bool} (hcl : Closed ops l0) (i : Nat) : ∀ (l : List Oper) (acc : Array Nat), (∀ j, l[j]? = ops[acc.size + j]?) →
    (∀ k o, k < acc.size → ops[k]? = some o → (∀ e ∈ o.after, Region.binds .any e = true → l0.getD e.on false = true) → Nat.testBit (acc.getD k 0) i = true → l0.getD i false = true) →
    ∀ k o, ops[k]? = some o → (∀ e ∈ o.after, Region.binds .any e = true → l0.getD e.on false = true) →
      Nat.testBit ((l.foldl (fun acc o => acc.push (o.after.foldl (fun s e => if Region.binds .any e then s ||| 2 ^ e.on ||| acc.getD e.on 0 else s) 0)) acc).getD k 0) i = true → l0.getD i false = true
  | [], acc, hl, hacc, k, o, ho, hg, h => by
    by_cases hk : k < acc.size
    · exact hacc k o hk ho hg (by simpa using h)
    · simp only [List.foldl_nil] at h
      rw [Array.getD_eq_getD_getElem?, Array.getElem?_eq_none (by omega)] at h
      simp at h
  | o' :: l, acc, hl, hacc, k, o, ho, hg, h => by
    rw [List.foldl_cons] at h
    refine before_go hcl i l _ (fun j => ?_) (fun k' ok' hk' hok' hg' h' => ?_) k o ho hg h
    · rw [Array.size_push, show acc.size + 1 + j = acc.size + (j + 1) by omega, ← hl (j + 1)]; simp
    · rw [Array.size_push] at hk'
      by_cases hlt : k' < acc.size
      · refine hacc k' ok' hlt hok' hg' ?_
        rw [Array.getD_eq_getD_getElem?, Array.getElem?_push, if_neg (by omega)] at h'
        rw [Array.getD_eq_getD_getElem?]; exact h'
      · have he : k' = acc.size := by omega
        subst he
        have ho' := hl 0
        simp only [List.getElem?_cons_zero, Nat.add_zero] at ho'
        rw [hok'] at ho'
        simp only [Option.some.injEq] at ho'; subst ho'
        rw [Array.getD_eq_getD_getElem?, Array.getElem?_push, if_pos rfl, Option.getD_some, ← Array.foldl_toList] at h'
        rcases after_bits acc i _ _ h' with h1 | ⟨e, h1, h2, h3⟩
        · simp at h1
        · have hin : e ∈ o'.after := by simpa using h1
          have hl0 := hg' e hin h2
          rcases h3 with rfl | h3
          · exact hl0
          · by_cases hlt2 : e.on < acc.size
            · have hlt3 : e.on < ops.size := by have := (Array.getElem?_eq_some_iff.1 hok').1; omega
              exact hacc e.on _ hlt2 (Array.getElem?_eq_getElem hlt3) (hcl e.on _ (Array.getElem?_eq_getElem hlt3) hl0) h3
            · rw [Array.getD_eq_getD_getElem?, Array.getElem?_eq_none (by omega)] at h3
              simp at h3

theorem before_spec {l0 : Array Bool} (hcl : Closed ops l0) {i k : Nat} (hk : k ∈ Region.ready .any ops l0) (h : Nat.testBit ((Region.before ops).getD k 0) i = true) : l0.getD i false = true := by
  obtain ⟨_, o, ho, hall⟩ := mem_ready.1 hk
  unfold Region.before at h
  rw [← Array.foldl_toList] at h
  exact before_go hcl i ops.toList #[] (fun j => by simp) (fun k o hk => by simp at hk) k o ho hall h

theorem opsEff_cons {f : FuncId} {n rid : Nat} {ol : List Oper} {i : Nat} {o : Oper} {rest : List Oper} {fr fr1 : Fr} {st st1 : St} (h : opStep c (c.kind f rid) n wb callf ol i o fr st = some (fr1, st1)) :
    opsEff c f n wb rid callf ol i (o :: rest) fr st = opEff c (c.kind f rid) ol i o fr :: opsEff c f n wb rid callf ol (i + 1) rest fr1 st1 := by
  simp only [opStep] at h
  simp only [opsEff, opEff]
  cases hw : wantedIn ol o fr with
  | none => rw [hw] at h; simp at h
  | some b =>
    rw [hw] at h
    cases b with
    | false =>
      simp only at h ⊢
      obtain ⟨fr', hp, h⟩ := Option.map_eq_some_iff.1 h
      simp only [Prod.mk.injEq] at h
      obtain ⟨rfl, rfl⟩ := h
      rw [hp]
    | true =>
      simp only at h ⊢
      obtain ⟨⟨v, st'⟩, he, h⟩ := Option.bind_eq_some_iff.1 h
      obtain ⟨fr', hp, h⟩ := Option.map_eq_some_iff.1 h
      simp only [Prod.mk.injEq] at h
      obtain ⟨rfl, rfl⟩ := h
      simp only [he, hp]

theorem clashFree_spec {es : List Eff} (h : clashFree ops es = true) {i j : Nat} (hij : i < j) (hj : j < es.length) : ((es.getD i .bad).clash (es.getD j .bad) = false) ∨ Nat.testBit ((Region.before ops).getD j 0) i = true := by
  unfold clashFree at h
  simp only [List.all_eq_true] at h
  have h1 := h (es.getD j .bad, j) (by
    rw [List.mem_zipIdx_iff_getElem?]
    simp [List.getD_eq_getElem?_getD, List.getElem?_eq_getElem hj])
  simp only [Bool.and_eq_true, List.all_eq_true] at h1
  have h2 := h1.2 (es.getD i .bad, i) (by
    rw [List.mem_zipIdx_iff_getElem?]
    simp [List.getD_eq_getElem?_getD, List.getElem?_eq_getElem (show i < es.length by omega)])
  simp only [Bool.or_eq_true, Bool.not_eq_true', decide_eq_false_iff_not] at h2
  rcases h2 with (h2 | h2) | h2
  · exact absurd hij h2
  · exact .inl h2
  · exact .inr h2

theorem anyRun_lex (hcf : CallFree c callf) {f : FuncId} {n rid : Nat} {es : List Eff} (hes : es.length = ops.size) (hcl : clashFree ops es = true) {frN : Fr} {stN : St} :
    ∀ (l : List Oper) (k : Nat) (listed : Array Bool) (fr : Fr) (st : St), (∀ j, l[j]? = ops[k + j]?) → Region.lexFrom .any ops l.length k listed = true → Closed ops listed → (∀ j, listed.getD j true = false → k ≤ j) →
      opsRun c f n wb rid callf ops.toList k l fr st = some (frN, stN) → (∀ j, (opsEff c f n wb rid callf ops.toList k l fr st)[j]? = es[k + j]?) →
      AnyRun ops (opStep c (c.kind f rid) n wb callf ops.toList) (opEff c (c.kind f rid) ops.toList) (fun i => es.getD i .bad) (fun fr st => FrEq frN fr ∧ stN = st) l.length listed fr st
  | [], _, listed, fr, st, _, hB, _, _, hr, _ => by
    simp only [opsRun, Option.some.injEq, Prod.mk.injEq] at hr
    obtain ⟨rfl, rfl⟩ := hr
    exact ⟨by simpa [Region.lexFrom] using hB, fun _ => rfl, rfl⟩
  | o :: l, k, listed, fr, st, hl, hB, hclo, hk, hr, he => by
    have h0 : ops[k]? = some o := by simpa using (hl 0).symm
    simp only [List.length_cons, Region.lexFrom, Bool.and_eq_true] at hB
    obtain ⟨⟨hrd, hf⟩, hB'⟩ := hB
    rw [opsRun_cons] at hr
    obtain ⟨⟨fr1, st1⟩, hs, hr⟩ := Option.bind_eq_some_iff.1 hr
    rw [opsEff_cons hs] at he
    have hrd' : k ∈ Region.ready .any ops listed := by simpa using hrd
    have hlt : k < ops.size := (Array.getElem?_eq_some_iff.1 h0).1
    have he0 := he 0
    simp only [List.getElem?_cons_zero, Nat.add_zero] at he0
    refine anyRun_first hcf (fun fr fr' st hq h => ⟨fun t => (h.1 t).trans (hq t), h.2⟩) h0 l.length listed fr fr1 st st1 hclo (Region.free_spec h0 hf) (fun j oj hoj hjk hun l0 hc0 hj0 hi0 => ?_) hrd' hs ?_
      (anyRun_lex hcf hes hcl l (k + 1) _ fr1 st1 (fun j => by have := hl (j + 1); simpa [Nat.add_assoc, Nat.add_comm 1 j] using this) hB' (hclo.set hrd') (fun j hj => ?_) hr (fun j => by have := he (j + 1); simpa [Nat.add_assoc, Nat.add_comm 1 j] using this))
    · have hkj : k < j := by have := hk j hun; omega
      have hjs : j < es.length := by have := (Array.getElem?_eq_some_iff.1 hoj).1; omega
      rcases clashFree_spec hcl hkj hjs with h1 | h1
      · exact h1
      · have := before_spec hc0 hj0 h1
        rw [Array.getD_eq_getD_getElem?] at this hi0
        cases hq : l0[k]? with
        | none => rw [hq] at this; simp at this
        | some b => rw [hq] at this hi0; simp at this hi0; rw [this] at hi0; cases hi0
    · simp only [List.getD_eq_getElem?_getD, ← he0, Option.getD_some]
    · by_cases hkj : k = j
      · subst hkj
        exfalso
        have hun := (mem_ready.1 hrd').1
        have hlt2 : k < listed.size := by
          rcases Nat.lt_or_ge k listed.size with h | h
          · exact h
          · simp [Array.getElem?_eq_none h] at hun
        rw [getD_set_eq hlt2] at hj; cases hj
      · rw [getD_set_ne true hkj] at hj
        have := hk j hj
        omega

theorem opsEff_length {f : FuncId} {n rid : Nat} {ol : List Oper} {frN : Fr} {stN : St} : ∀ (l : List Oper) (k : Nat) (fr : Fr) (st : St), opsRun c f n wb rid callf ol k l fr st = some (frN, stN) → (opsEff c f n wb rid callf ol k l fr st).length = l.length
  | [], _, _, _, _ => rfl
  | o :: l, k, fr, st, h => by
    rw [opsRun_cons] at h
    obtain ⟨⟨fr1, st1⟩, hs, h⟩ := Option.bind_eq_some_iff.1 h
    rw [opsEff_cons hs, List.length_cons, List.length_cons, opsEff_length l (k + 1) fr1 st1 h]

/-- The text's order, told in the abstract, tells any order. -/
theorem anyRun_of (hcf : CallFree c callf) {f : FuncId} {n rid : Nat} (hB : Region.lexB .any ops = true) {fr frN : Fr} {st stN : St} (hr : opsRun c f n wb rid callf ops.toList 0 ops.toList fr st = some (frN, stN))
    (hcl : clashFree ops (opsEff c f n wb rid callf ops.toList 0 ops.toList fr st) = true) :
    ∃ es, AnyRun ops (opStep c (c.kind f rid) n wb callf ops.toList) (opEff c (c.kind f rid) ops.toList) es (fun fr st => FrEq frN fr ∧ stN = st) ops.size (Array.replicate ops.size false) fr st := by
  simp only [Region.lexB, Bool.and_eq_true] at hB
  refine ⟨fun i => (opsEff c f n wb rid callf ops.toList 0 ops.toList fr st).getD i .bad, ?_⟩
  have := anyRun_lex hcf (by simpa using opsEff_length ops.toList 0 fr st hr) hcl ops.toList 0 (Array.replicate ops.size false) fr st (fun j => by simp) (by simpa using hB.2)
    (fun k o hk hl e he hb => ?_) (fun j _ => Nat.zero_le _) hr (fun j => by simp)
  · simpa using this
  · exfalso
    have hlt := (Array.getElem?_eq_some_iff.1 hk).1
    simp [hlt] at hl

end Go.AI
