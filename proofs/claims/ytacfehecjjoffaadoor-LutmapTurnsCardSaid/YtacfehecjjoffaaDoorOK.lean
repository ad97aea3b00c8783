/- The table is the program's: the interpreter's runs are the program's. -/
import Derived.Test.YtacfehecjjoffaaDoorCfg
import Derived.Test.YtacfehecjjoffaaDoorBit
import Derived.Test.YtacfehecjjoffaaDoorAiRun2
set_option linter.unusedSimpArgs false
set_option linter.unusedVariables false
namespace Go.AI
open Go Go.RowKit
variable {c : Cfg} {E : Env} {st : St} {w w' : World}
theorem heap_below (h : Below w.heap.size w w') {b : Nat} {o : Obj} (e : w.heap[b]? = some o) : w'.heap[b]? = some o := by
  rw [h.block b (Array.getElem?_eq_some_iff.1 e).1]; exact e
theorem cell_below (h : Below w.heap.size w w') {p : Addr} {v : Value} (e : w.cell? p = some v) : w'.cell? p = some v := by
  have hb : p.block < w.heap.size := by
    rcases Nat.lt_or_ge p.block w.heap.size with h | h
    · exact h
    · simp [World.cell?, Array.getElem?_eq_none h] at e
  rw [h.cell hb]; exact e
theorem Step.below (hW : WS c E st w) (h : Below w.heap.size w w') : Step c E st w E st w' where
  ws := {
    hF := fun b o v e => cell_below h (hW.hF b o v e)
    row := fun r t g cells e => by
      obtain ⟨cs, h1, h2⟩ := hW.row r t g cells e
      exact ⟨cs, heap_below h h1, h2⟩
    tail := fun r n e he => by
      obtain ⟨h1, h2⟩ := hW.tail r n e he
      refine ⟨h1, fun hn => ?_⟩
      obtain ⟨b, cs, t, a1, a2, a3⟩ := h2 hn
      exact ⟨b, cs, t, a1, heap_below h a2, a3⟩
    map := fun r kt et es he => by
      obtain ⟨ms, clock, h1, h2⟩ := hW.map r kt et es he
      exact ⟨ms, clock, heap_below h h1, h2⟩
    inj := hW.inj
    glob := hW.glob }
  ext := Ext.refl _
  kept := ⟨h.os, h.tape, h.output, h.size, fun b hb _ => h.block b hb⟩
theorem boolRows_len : ∀ (rows : List (List Cell)) (l : List Bool), boolRows rows = some l → rows.length = l.length ∧ ∀ (j : Nat) (b : Bool), l[j]? = some b → rows[j]? = some [.bool b]
  | [], l, h => by
    simp only [boolRows, Option.some.injEq] at h; subst h
    exact ⟨rfl, fun j b e => by simp at e⟩
  | row :: rows, l, h => by
    unfold boolRows at h
    split at h
    · simp_all
    · rename_i b r he
      simp only [List.cons.injEq] at he
      obtain ⟨rfl, rfl⟩ := he
      obtain ⟨l', hl, rfl⟩ := Option.map_eq_some_iff.1 h
      obtain ⟨h1, h2⟩ := boolRows_len rows l' hl
      refine ⟨by simp [h1], fun j x e => ?_⟩
      cases j with
      | zero => simp at e; subst e; rfl
      | succ j => exact h2 j x (by simpa using e)
    · simp at h
end Go.AI
namespace Go.Proofs.Tryd.Ai
open Go Go.AI Go.RowKit
set_option maxRecDepth 100000
theorem mixed_ok : Tryd.prog.follows .mixedOrders = true := by kernel_rfl
theorem name47 : (Tryd.f47.name == "runtime.NumGoroutine") = false := by kernel_rfl
theorem body47 : ∃ code, Tryd.f47.body = some code := ⟨_, rfl⟩
theorem bit_ok {p : List AV → Option AV} {args : List AV} {v : AV} (hp : some bitPrim = some p) (h : p args = some v) (E : Env) (st : St) (w : World) (vals : Array Value) (hW : WS cfg E st w) (ha : ArgsC E st args vals) :
    FnRuns Tryd.prog 47 vals w fun x w' => ∃ E', AVC E' st v x ∧ Step cfg E st w E' st w' := by
  simp only [Option.some.injEq] at hp
  subst hp
  unfold bitPrim at h
  split at h
  · rename_i t tok rows
    split at h
    · rename_i l hl
      split at h
      · rename_i hc
        obtain ⟨hlen, ht⟩ := hc
        simp only [Option.some.injEq] at h
        subst h
        obtain ⟨hsz, hv⟩ := ha
        have h0 := (hv 0 _ rfl).int_inv
        obtain ⟨A, cap, h1, hcap, hcp, _⟩ := (hv 1 _ rfl).slice_inv
        have hvals : vals = #[.int .u64 t, .slice A rows.length cap] := by
          apply Array.ext (by simpa using hsz)
          intro i hi hi'
          have e : vals[i] = vals.getD i undef := by simp [Array.getD_eq_getD_getElem?, hi]
          rw [e]
          simp only [List.length_cons, List.length_nil] at hsz
          have : i = 0 ∨ i = 1 := by omega
          rcases this with rfl | rfl
          · rw [h0]; rfl
          · rw [h1]; rfl
        subst hvals
        obtain ⟨hrl, hrr⟩ := boolRows_len rows l hl
        obtain ⟨code, hcode⟩ := body47
        unfold FnRuns
        rw [callFunc_run Tryd.func47 hcode name47]
        simp only
        have hB : Tryd.Bools w.heap.size w (.slice A rows.length cap) l := by
          by_cases hz : l = []
          · subst hz
            exact .inl ⟨A, cap, by rw [hrl]; rfl, rfl⟩
          · right
            rw [h1] at hcp
            cases hcp with
            | slice _ _ _ _ b off _ vs hA _ hE hF hC hN =>
              have hne : rows ≠ [] := fun e => hz (by rw [e] at hrl; exact List.length_eq_zero_iff.1 hrl.symm)
              have hcell : ∀ j, j < l.length → w.cell? ⟨b, off + j, none⟩ = some (.bool (l[j]?.getD false)) := fun j hj => by
                have hj' : l[j]? = some l[j] := by simp [hj]
                have hr := hrr j _ hj'
                have hf := hF j 0 _ _ hr rfl
                have hcc := hC j 0 _ _ hr rfl
                have hw := hW.hF _ _ _ hf
                cases hcc' : vs j 0 with
                | bool x =>
                  rw [hcc'] at hcc hw
                  cases hcc
                  rw [hj']
                  simpa using hw
                | _ => rw [hcc'] at hcc; cases hcc
              refine ⟨b, off, cap, by rw [hA hne, hrl], ?_, hcell⟩
              have h0 := hcell 0 (by cases l with | nil => exact absurd rfl hz | cons => simp)
              rcases Nat.lt_or_ge b w.heap.size with h | h
              · exact h
              · simp [World.cell?, Array.getElem?_eq_none h] at h0
        refine (callsIn_wide.1 (Tryd.bit_in Fence.wide 3 trivial trivial trivial rfl (by omega) t ht A rows.length cap l hlen w hB)).mono fun e w' he => ?_
        obtain ⟨rfl, hb⟩ := he
        exact ⟨E, .one _ _ (.pure _ _ (.bool _) (fun _ _ _ h => by cases h)), Step.below hW hb⟩
      · simp at h
    · simp at h
  · simp at h
theorem cfg_ok : CfgOK Tryd.prog cfg where
  mixed := mixed_ok
  ty := fun t i h => by
    have := lookup_mem _ h
    exact tyB_sound (List.all_eq_true.1 tyList_ok _ this)
  fn := fun f fi h => by
    obtain ⟨F, hF, rfl⟩ := Option.map_eq_some_iff.1 h
    have hm := lookup_mem _ hF
    exact fnB_sound (fnList_at _ hm) (List.all_eq_true.1 fnList_ok _ hm)
  prim := fun f p args v hp h E st w vals hW ha => by
    have : f = 47 ∧ some bitPrim = some p := by
      change primTab f = some p at hp
      unfold primTab at hp
      split at hp
      · exact ⟨rfl, hp⟩
      · simp at hp
    obtain ⟨rfl, hp'⟩ := this
    exact bit_ok hp' h E st w vals hW ha
  primS := fun f p args st v st' hp h => by
    change primSTab f = some p at hp
    unfold primSTab at hp
    simp at hp
end Go.Proofs.Tryd.Ai
