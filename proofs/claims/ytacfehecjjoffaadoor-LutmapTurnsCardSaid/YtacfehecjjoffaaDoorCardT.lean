/- Proved: with one table turned round that table's value is, and none ahead of it, whatever the input ('LutmapTurnsCardSaid'): the row, tied to the program's text. Its conditions: what the row's own cells say, and no more: 'cuts.columns' is laid as the program's text lays it. -/
import Derived.Test.YtacfehecjjoffaaDoorRowT
namespace Go.Proofs.YtacfehecjjoffaaDoor
open Go
set_option maxRecDepth 100000
theorem lutmapTurns_card_holds : Rows.LutmapTurnsCardSaid :=
  Claim7.holds_tied_plain_at .later [] [.data] true (true, "0e14825db1309ebec929f20d32b28c5154251b146fa808016501a3da977379bc") false
    turns_holds (fun _ h => by cases h) (by kernel_rfl) (fun _ h => by cases h) lutmapTurns_row_tie rfl ⟨rfl, rfl⟩ (by kernel_rfl) rfl
    (fun f fn hf hfn => by
      obtain rfl : f = 4 := Option.some.inj ((show Tryd.prog.funcNamed "filigree/filigreelaw25.LutmapTurns" = some 4 by kernel_rfl).symm.trans hf) |>.symm
      obtain rfl : fn = Tryd.f4 := (Option.some.inj (Tryd.func4.symm.trans hfn)).symm
      exact ⟨by kernel_rfl, fun j t ht => by
        rw [Tryd.params4] at ht
        have hm : t ∈ [32, 3, 37, 37] := by simpa using Array.mem_of_getElem? ht
        have hall : ([32, 3, 37, 37].all fun u => !Tryd.prog.wantsStandIn u) = true := by kernel_rfl
        exact (show Tryd.prog.wantsStandIn t = false by simpa using List.all_eq_true.1 hall t hm)⟩)
    (by kernel_rfl)
#print axioms lutmapTurns_card_holds
end Go.Proofs.YtacfehecjjoffaaDoor
