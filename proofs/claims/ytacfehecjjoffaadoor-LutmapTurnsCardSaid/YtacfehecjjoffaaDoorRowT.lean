/- LutmapTurns: whatever the input, the law is true. -/
import Derived.Test.YtacfehecjjoffaaDoorRow
import Derived.Test.YtacfehecjjoffaaDoorW7
set_option linter.unusedSimpArgs false
set_option linter.unusedVariables false
namespace Go.Proofs.YtacfehecjjoffaaDoor
open Go Go.AI Go.ChangeShapes Go.WideShapes Go.ChangeAt Go.WideMaps Go.WideElems Go.RowKit Fil
set_option maxRecDepth 100000
/-- What a call comes to, out of the interpreter's run. -/
theorem calls_of_cw {f : FuncId} {fn : Func} (hf : Tryd.prog.funcs[f]? = some fn) (hb : ∃ code, fn.body = some code) (hn : (fn.name == "runtime.NumGoroutine") = false) {args : List AV} {vals : Array Value} {W : World} (hL : laidMetH Tryd.prog laids W)
    (ha : ArgsC (E0 W) [] args vals) (h : CW Tryd.Ai.cfg 0 f args (fun v st => v = .one (.bool true) ∧ st = []) []) :
    Calls Tryd.prog f vals W fun e W' => e = .returned (.bool true) ∧ Below W.heap.size W W' := by
  obtain ⟨v, st', ⟨m, hr⟩, rfl, rfl⟩ := h
  obtain ⟨code, hcode⟩ := hb
  have := (run_sound Tryd.Ai.cfg_ok m).call f 0 args [] _ _ (hr m (Nat.le_refl _)) (E0 W) W vals (ws_start hL) ha
  unfold FnRuns at this
  rw [callFunc_run hf hcode hn] at this
  simp only at this
  refine this.mono fun e w' he => ?_
  cases e with
  | returned x =>
    obtain ⟨E', hx, hS⟩ := he
    rw [hx.bool_inv]
    have hk := hS.kept
    exact ⟨rfl, ⟨hk.os, hk.tape, hk.output, hk.size, fun b hb => hk.block b hb (not_live_nil _)⟩⟩
  | _ => exact he.elim
theorem laidOut : laidOutB Tryd.prog = true := by kernel_rfl
theorem below_trodAll {H : Type} {enc : TypeId × Value → H} {W W' : World} (hb : Below W.heap.size W W') : ∀ {ts : List TypeId} {vs : List Value} {ds : List (DataW H)} {ps : List MemPlace}, (∀ t ∈ ts, Tryd.prog.readableRec t = true ∧ t < Tryd.prog.types.size) →
    DataW.TrodAll enc Tryd.prog W 0 (fun _ => true) true ts vs ds ps → (∀ x ∈ ps, x.block < W.heap.size) → DataW.TrodAll enc Tryd.prog W' 0 (fun b => decide (b < W.heap.size)) true ts vs ds ps
  | [], vs, ds, ps, _, h, _ => by
    obtain ⟨rfl, rfl, rfl⟩ := trodAll_nil h
    exact h
  | t :: ts, vs, ds, ps, ht, h, hlt => by
    obtain ⟨v, vs1, d, ds1, a, b, rfl, rfl, rfl, h1, h2⟩ := trodAll_cons h
    have ht0 := ht t (by simp)
    exact trodAll_cons_mk (Below.trod laidOut ht0.1 ht0.2 h1 hb fun x hx => hlt x (by simp [hx])) (below_trodAll hb (fun u hu => ht u (by simp [hu])) h2 fun x hx => hlt x (by simp [hx]))
theorem okWide_slice {P : Program} {w : World} {r : Reach} {b0 : Nat} {t e : TypeId} {v : Value} (ht : P.underlying t = some (.slice e)) (h : Value.okWide P w r b0 t v) : v.cells = #[v] := by
  unfold Value.okWide at h
  rw [ht] at h
  cases v <;> first | rfl | (simp [Cell.okWide, Cell.ok, ht] at h)
theorem okWide_struct {P : Program} {w : World} {r : Reach} {b0 : Nat} {t : TypeId} {fs : Array Field} {v : Value} (ht : P.underlying t = some (.struct fs)) (h : Value.okWide P w r b0 t v) : ∃ cs, v = .agg cs := by
  unfold Value.okWide at h
  rw [ht] at h
  obtain ⟨cs, h, _⟩ := h
  exact ⟨cs, h⟩
theorem rec4 : ∀ t ∈ [32, 3, 37, 37], Tryd.prog.readableRec t = true ∧ t < Tryd.prog.types.size := by
  have h : ([32, 3, 37, 37].all fun t => Tryd.prog.readableRec t && decide (t < Tryd.prog.types.size)) = true := by kernel_rfl
  intro t ht
  have := List.all_eq_true.1 h t ht
  simpa using this
theorem results4 : Tryd.f4.resultTypes = #[4] := by kernel_rfl
theorem name4 : (Tryd.f4.name == "runtime.NumGoroutine") = false := by kernel_rfl
theorem netIn_of {n : Net} (h : okNet n) : Tryd.Ai.netIn n := by
  have hi := h.ins
  simp only [ok64, Lit.wf, Bool.and_eq_true, decide_eq_true_eq, IntKind.min, IntKind.max, IntKind.signed, IntKind.bits] at hi
  refine ⟨by simp at hi; omega, by simp at hi; omega, h.luts, h.holds, h.outs, fun t ht => ?_⟩
  have := (h.lutsT t ht).2
  simp only [Lit.wf, Bool.and_eq_true, decide_eq_true_eq, IntKind.min, IntKind.max, IntKind.signed, IntKind.bits] at this
  simp at this
  omega
theorem turns_lifted (os : Os) (started : os.Started) (H : Type) (enc : TypeId × Value → H) :
    ReturnsInHanded {} Tryd.checked os 4 .any (fun w args => (Rows.lutmapTurnsSpec.pre enc Tryd.prog Tryd.f4 [] false w args ∧ laidMetH Tryd.prog laids w) ∧ sizedMet enc Tryd.prog Tryd.f4 (OpenSpec.ofChange Rows.lutmapTurnsSpec) false w args)
      (Rows.lutmapTurnsSpec.post enc Tryd.prog Tryd.f4 false true false false) := by
  refine returnsInHanded_of_change_and (C := Tryd.checked) (X := fun w _ => laidMetH Tryd.prog laids w) (fun _ _ _ hh h => h.of_heap hh) own started (by kernel_rfl) Tryd.func4
    (ChangeSpec.witness_shaped (enc := enc) (C := Tryd.checked) (os := os) (X := fun w _ => laidMetH Tryd.prog laids w) false (World.doorLaid Tryd.prog 400 os) #[.agg #[.int .i64 0, .slice none 0 0, .slice none 0 0, .slice none 0 0], .int .i64 0, .slice none 0 0, .slice none 0 0] 8 rfl (World.shaped_of_RefB (by kernel_rfl) (by kernel_rfl)) (by kernel_rfl) (by kernel_rfl) (by kernel_rfl) (door_met os _)) ?_
  intro W base args ds gs before hval0 hW _ _ hL _
  have hval : ∀ (j : Nat) t v, Tryd.f4.params[j]? = some t → args[j]? = some v → Value.okWide Tryd.prog W .any base t v := hval0
  have hW' := hW
  obtain ⟨p, q, hA0, hV, rfl, hfz, hnd⟩ := hW
  have hA : DataW.TrodAll enc Tryd.prog W 0 (fun _ => true) true Tryd.f4.params.toList args.toList ds p := hA0
  have hlt := hW'.lt
  rw [Tryd.params4] at hA hval
  obtain ⟨rfl, rfl⟩ := trodVars_none hV
  simp only [List.append_nil] at hlt
  obtain ⟨v0, vs0, d0, ds0, p0, q0, hargs, rfl, rfl, h0, hA1⟩ := trodAll_cons hA
  obtain ⟨v1, vs1, d1, ds1, p1, q1, rfl, rfl, rfl, h1, hA2⟩ := trodAll_cons hA1
  obtain ⟨v2, vs2, d2, ds2, p2, q2, rfl, rfl, rfl, h2, hA3⟩ := trodAll_cons hA2
  obtain ⟨v3, vs3, d3, ds3, p3, q3, rfl, rfl, rfl, h3, hA4⟩ := trodAll_cons hA3
  obtain ⟨rfl, rfl, rfl⟩ := trodAll_nil hA4
  obtain rfl : args = #[v0, v1, v2, v3] := by
    apply Array.toList_inj.1
    exact hargs
  obtain ⟨cs0, rfl⟩ := okWide_struct Tryd.underlying32 (hval 0 32 v0 rfl rfl)
  obtain ⟨a, rfl, _, _, hwa⟩ := open_int Tryd.underlying3 (hval 1 3 v1 rfl rfl) h1
  obtain ⟨n, hn, hv0⟩ := av_agg rdN h0 (E := E0 W) rfl []
  obtain ⟨inn, hin, c2, e2, hv2⟩ := av_one rdB (okWide_slice Tryd.underlying37 (hval 2 37 v2 rfl rfl)) h2 (E := E0 W) rfl []
  obtain ⟨sst, hst, c3, e3, hv3⟩ := av_one rdB (okWide_slice Tryd.underlying37 (hval 3 37 v3 rfl rfl)) h3 (E := E0 W) rfl []
  simp only [List.cons.injEq, and_true] at e2 e3
  subst e2; subst e3
  have hargsC : ArgsC (E0 W) [] [.agg (nC n), .one (.int .i64 a), .one (sB inn), .one (sB sst)] #[.agg cs0, .int .i64 a, v2, v3] := by
    refine ⟨rfl, fun i x hx => ?_⟩
    match i, hx with
    | 0, hx => simp at hx; subst hx; exact hv0
    | 1, hx => simp at hx; subst hx; exact .one _ _ (.pure _ _ (.int _ _) (fun _ _ _ h => by cases h))
    | 2, hx => simp at hx; subst hx; exact hv2
    | 3, hx => simp at hx; subst hx; exact hv3
    | i + 4, hx => simp at hx
  have hwa' : -9223372036854775808 ≤ a ∧ a ≤ 9223372036854775807 := by
    simp only [Lit.wf, Bool.and_eq_true, decide_eq_true_eq, IntKind.min, IntKind.max, IntKind.signed, IntKind.bits] at hwa
    simp at hwa; omega
  refine (calls_of_cw Tryd.func4 ⟨_, rfl⟩ name4 hL hargsC (Tryd.Ai.turns_cw n a inn sst (netIn_of hn) hwa' hin.2 hst.2 ⟨rfl, rfl⟩)).mono fun e W' he => ?_
  obtain ⟨rfl, hb⟩ := he
  have e1 : Rows.lutmapTurnsSpec.fn H ([d0, d1, d2, d3] ++ []) = { results := [.lit (.bool true)], args := [d0, d1, d2, d3] } := rfl
  refine ⟨_, rfl, _, _, _, [], p0 ++ (p1 ++ (p2 ++ (p3 ++ []))), [], hW', ?_, ?_, ?_, hb.frame _, fun h => by cases h⟩
  · rw [e1, results4]; exact trodAll_mk1 (shut_bool Tryd.underlying4 true)
  · rw [e1, Tryd.params4]
    exact below_trodAll hb rec4 hA (fun x hx => hlt x hx)
  · rw [e1]; rfl
theorem turns_holds : Rows.LutmapTurnsSaid :=
  OpenClaim.holds_of_wide 4 Tryd.f4 rfl rfl rfl rfl rfl rfl rfl ⟨rfl, rfl, rfl, rfl, rfl⟩ rfl rfl rfl rfl rfl (by kernel_rfl) Tryd.func4 (by kernel_rfl)
    (of_decide_eq_true (by kernel_rfl)) (by unfold Func.isWrapper; first | (rw [if_pos (by decide +kernel)]; kernel_rfl) | (rw [if_neg (by decide +kernel)]; exact ⟨rfl, rfl⟩))
    (fun os started H enc _ => turns_lifted os started H enc)
#print axioms turns_holds
end Go.Proofs.YtacfehecjjoffaaDoor
