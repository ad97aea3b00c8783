/- From a row's readings to the interpreter's values; LutmapTurns' row. -/
import Derived.Test.YtacfehecjjoffaaDoorTie
import Derived.Test.YtacfehecjjoffaaDoorCards
import Derived.Test.YtacfehecjjoffaaDoorAiRead
import Derived.Test.YtacfehecjjoffaaDoorOK
import Derived.Test.YtacfehecjjoffaaDoorEnc
import Derived.Test.YtacfehecjjoffaaDoorAiWp
import Derived.ProofKit
import Derived.LaidMore
import Derived.OpenShut
import Derived.Stop.Joined
import Derived.SevenTiedAt
set_option linter.unusedSimpArgs false
set_option linter.unusedVariables false
namespace Go.Proofs.YtacfehecjjoffaaDoor
open Go Go.AI Go.ChangeShapes Go.WideShapes Go.ChangeAt Go.WideMaps Go.WideElems Go.RowKit Fil
set_option maxRecDepth 100000
abbrev laids {H : Type} : List (String × DataW H) := [("filigree/cuts.columns", Rows.laid_filigree_cuts_columns)]
theorem own : ownKnob Tryd.prog.godebug = none := by kernel_rfl
theorem gCols : Tryd.prog.globalNamed "filigree/cuts.columns" = some 0 := by kernel_rfl
theorem tCols : (Tryd.prog.globals[0]?).map (·.type) = some 127 := by kernel_rfl
theorem door_met (os : Os) (args : Array Value) : laidMetH Tryd.prog laids ((World.doorLaid Tryd.prog 400 os).forCall (fun _ _ => 0) ⟨#[], args, []⟩).memory :=
  laidMetH_of_parts3 (fuel := 8) (laidMet_of_run' 8 (by kernel_rfl) (by kernel_rfl)) (by kernel_rfl) (by kernel_rfl)
/-- What the condition gives: the table's cells. -/
theorem cols_met {W : World} (h : laidMetH Tryd.prog laids W) : ∀ (j : Nat) (x : Cell), [Cell.int .u64 12297829382473034410, .int .u64 14757395258967641292, .int .u64 17361641481138401520, .int .u64 18374966859414961920, .int .u64 18446462603027742720, .int .u64 18446744069414584320][j]? = some x →
    ∃ v, W.cell? ⟨0, j, none⟩ = some v ∧ CP (Fz.of W) x v ∧ x.noTok = true := by
  rw [MakeChecks.laidMetH_plain _ _ _ (by kernel_rfl)] at h
  obtain ⟨ps, ⟨g0, t0, cs0, f0, p0, q0, hg0, ht0, hv0, hd0, _, _⟩, _, _⟩ := h
  obtain rfl := Option.some.inj (gCols.symm.trans hg0)
  obtain rfl := Option.some.inj (tCols.symm.trans ht0)
  obtain ⟨xs, m1, rfl, hx1, hlen, hn3, hel⟩ := DataW.trod_array Tryd.underlying127 hd0
  have c40 : Tryd.prog.cellsOf 40 = 1 := by kernel_rfl
  have c127 : Tryd.prog.cellsOf 127 = 6 := by kernel_rfl
  rw [c40] at hel
  have hm : xs.map (·.1) = ([12297829382473034410, 14757395258967641292, 17361641481138401520, 18374966859414961920, 18446462603027742720, 18446744069414584320] : List Int).map fun k => DataW.lit (.int .u64 k) := by
    simp only [Prod.mk.injEq, Rows.laid_filigree_cuts_columns, DataW.agg.injEq] at hx1
    exact hx1.1.symm
  have key : ∀ (j : Nat) (k : Int), ([12297829382473034410, 14757395258967641292, 17361641481138401520, 18374966859414961920, 18446462603027742720, 18446744069414584320] : List Int)[j]? = some k → W.cell? ⟨0, j, none⟩ = some (.int .u64 k) := by
    intro j k hk
    have hj : j < 6 := (List.getElem?_eq_some_iff.1 hk).1
    have hy := List.getElem?_eq_getElem (l := xs) (i := j) (by omega)
    have hmj := congrArg (fun l => l[j]?) hm
    simp only [List.getElem?_map, hy, hk, Option.map_some, Option.some.injEq] at hmj
    have ht := hel j hj
    rw [hy] at ht
    obtain ⟨n, e1, e2, _⟩ := DataW.trod_int Tryd.underlying40 ht
    rw [e2] at hmj
    simp only [DataW.lit.injEq, Lit.int.injEq, true_and] at hmj
    subst hmj
    have hc := World.var?_cell hg0 hv0 j
    rw [hc]
    have : (List.take 1 (List.drop (j * 1) cs0.toList))[0]? = some (.int .u64 n) := by rw [e1]; rfl
    rw [List.getElem?_take, List.getElem?_drop] at this
    simpa using this
  intro j x hx
  match j, hx with
  | 0, hx => simp at hx; subst hx; exact ⟨_, key 0 _ rfl, .int _ _, rfl⟩
  | 1, hx => simp at hx; subst hx; exact ⟨_, key 1 _ rfl, .int _ _, rfl⟩
  | 2, hx => simp at hx; subst hx; exact ⟨_, key 2 _ rfl, .int _ _, rfl⟩
  | 3, hx => simp at hx; subst hx; exact ⟨_, key 3 _ rfl, .int _ _, rfl⟩
  | 4, hx => simp at hx; subst hx; exact ⟨_, key 4 _ rfl, .int _ _, rfl⟩
  | 5, hx => simp at hx; subst hx; exact ⟨_, key 5 _ rfl, .int _ _, rfl⟩
  | j + 6, hx => simp at hx
def E0 (W : World) : Env := { F := Fz.of W, loc := fun _ => 0, sz := fun _ => 0, tl := fun _ => (none, 0) }
/-- The state in which a law begins. -/
theorem ws_start {W : World} (h : laidMetH Tryd.prog laids W) : WS Tryd.Ai.cfg (E0 W) [] W where
  hF := fun b o v e => e
  row := fun r t g cells e => by simp at e
  tail := fun r n e he => by simp at he
  map := fun r kt et es he => by simp at he
  inj := fun r r' b e => by simp [blk] at e
  glob := fun g cells hg => by
    have : g = 0 ∧ cells = [Cell.int .u64 12297829382473034410, .int .u64 14757395258967641292, .int .u64 17361641481138401520, .int .u64 18374966859414961920, .int .u64 18446462603027742720, .int .u64 18446744069414584320] := by
      change Tryd.Ai.globTab g = some cells at hg
      unfold Tryd.Ai.globTab at hg
      split at hg
      · simp only [Option.some.injEq] at hg
        exact ⟨rfl, hg.symm⟩
      · simp at hg
    obtain ⟨rfl, rfl⟩ := this
    have := cols_met h
    refine ⟨fun j => (W.cell? ⟨0, j, none⟩).getD undef, fun j x hx => ?_⟩
    obtain ⟨v, hv, hcp, hn⟩ := this j x hx
    have hv' : (W.cell? ⟨0, j, none⟩).getD undef = v := by rw [hv]; rfl
    exact ⟨by show W.cell? ⟨0, j, none⟩ = some ((W.cell? ⟨0, j, none⟩).getD undef); rw [hv', hv], by show CP (Fz.of W) x ((W.cell? ⟨0, j, none⟩).getD undef); rw [hv']; exact hcp, hn⟩
/-! readings -/
theorem sz3 : Tryd.prog.cellsOf 3 = 1 := by kernel_rfl
theorem sz4 : Tryd.prog.cellsOf 4 = 1 := by kernel_rfl
theorem sz24 : Tryd.prog.cellsOf 24 = 1 := by kernel_rfl
theorem sz29 : Tryd.prog.cellsOf 29 = 1 := by kernel_rfl
theorem sz30 : Tryd.prog.cellsOf 30 = 1 := by kernel_rfl
theorem sz32 : Tryd.prog.cellsOf 32 = 4 := by kernel_rfl
theorem sz39 : Tryd.prog.cellsOf 39 = 2 := by kernel_rfl
theorem sz40 : Tryd.prog.cellsOf 40 = 1 := by kernel_rfl
theorem sz42 : Tryd.prog.cellsOf 42 = 2 := by kernel_rfl
variable {W : World}
abbrev ok64 (n : Int) : Prop := (Lit.int .i64 n).wf = true
theorem rdI : RD Tryd.prog W 24 (fun l : List Int => (∀ a ∈ l, ok64 a) ∧ l.length ≤ 9223372036854775807) (fun l => [sI l]) :=
  (rd_slice Tryd.underlying24 sz3 (by omega) (fun _ => rfl) (rd_int Tryd.underlying3)).map id (fun _ h => h) (fun _ => rfl)
theorem rdB : RD Tryd.prog W 37 (fun l : List Bool => (∀ a ∈ l, True) ∧ l.length ≤ 9223372036854775807) (fun l => [sB l]) :=
  (rd_slice Tryd.underlying37 sz4 (by omega) (fun _ => rfl) (rd_bool Tryd.underlying4)).map id (fun _ h => h) (fun _ => rfl)
theorem rdL : RD Tryd.prog W 42 (fun t : Lut => t.ins.length ≤ 9223372036854775807 ∧ (Lit.int .u64 t.table).wf = true) lC :=
  (rd_struct2 Tryd.underlying42 sz42 rfl rfl rfl rfl sz24 sz40 rdI (rd_int Tryd.underlying40)).map (fun p => ⟨p.1, p.2⟩) (fun _ h => ⟨h.1.2, h.2⟩) (fun _ => rfl)
theorem rdH : RD Tryd.prog W 39 (fun h : Hold => ok64 h.d) hC :=
  (rd_struct2 Tryd.underlying39 sz39 rfl rfl rfl rfl sz3 sz4 (rd_int Tryd.underlying3) (rd_bool Tryd.underlying4)).map (fun p => ⟨p.1, p.2⟩) (fun _ h => h.1) (fun _ => rfl)
structure okNet (n : Net) : Prop where
  ins : ok64 n.ins
  holds : n.holds.length ≤ 9223372036854775807
  luts : n.luts.length ≤ 9223372036854775807
  outs : n.outs.length ≤ 9223372036854775807
  holdsD : ∀ h ∈ n.holds, ok64 h.d
  lutsT : ∀ t ∈ n.luts, t.ins.length ≤ 9223372036854775807 ∧ (Lit.int .u64 t.table).wf = true
  outsN : ∀ x ∈ n.outs, ok64 x
theorem rdN : RD Tryd.prog W 32 okNet nC :=
  (rd_struct4 Tryd.underlying32 sz32 rfl rfl rfl rfl rfl rfl rfl rfl sz3 sz29 sz30 sz24 (rd_int Tryd.underlying3) (rd_slice Tryd.underlying29 sz39 (by omega) (fun _ => rfl) rdH) (rd_slice Tryd.underlying30 sz42 (by omega) (fun _ => rfl) rdL) rdI).map
    (fun p => ⟨p.1, p.2.1, p.2.2.1, p.2.2.2⟩) (fun _ h => ⟨h.1, h.2.1.2, h.2.2.1.2, h.2.2.2.2, h.2.1.1, h.2.2.1.1, h.2.2.2.1⟩) (fun _ => rfl)
end Go.Proofs.YtacfehecjjoffaaDoor
