/- Every operation. -/
import Derived.Test.YtacfehecjjoffaaDoorAiStep
set_option linter.unusedVariables false
set_option linter.unusedSimpArgs false
namespace Go.AI
open Go

variable {P : Program} {c : Cfg} {E : Env} {st : St} {w : World} {wb : Nat} {callf : FuncId → List AV → St → Option (AV × St)} {av : AV} {st' : St} {o : Oper} {a : Act}

theorem cells_get {x : AV} {cs : List Cell} {v : Value} (h : AVC E st x v) (hc : x.cells = some cs) : v.cells.size = cs.length ∧ ∀ (i : Nat) (c : Cell), cs[i]? = some c → CC E st c (v.cells.getD i undef) := h.cells_inv hc

theorem op_sound {kd : Kind} {fr : Fr} (hty : ∀ t i, c.ty t = some i → TyOK P t i) (hW : WS c E st w) (hf : FrC E st fr a) (hcall : CallOK P c callf)
    (h : (opPlan c kd o fr).exec wb callf st = some (av, st')) : OpGood P c E st w o a av st' := by
  have ρs : ∀ x, AVC E st (c.eval fr x) (a.eval x) := fun x => eval_sound hW hf x
  unfold opPlan at h
  simp only at h
  split at h
  · -- move
    rename_i x ho
    obtain ⟨E', h1, h2⟩ := constPlan_sound hty hW (ρs x) (fun hn => by
      unfold isNil at hn; split at hn
      · rfl
      · simp at hn) h
    exact good_value (by unfold execOp; rw [ho]; rfl) h1 h2
  · -- assign
    rename_i x ho
    obtain ⟨E', h1, h2⟩ := constPlan_sound hty hW (ρs x) (fun hn => by
      unfold isNil at hn; split at hn
      · rfl
      · simp at hn) h
    exact good_value (by unfold execOp; rw [ho]; rfl) h1 h2
  · -- pick
    rename_i b x y ho
    have hb := ρs b
    split at h
    · rename_i hev
      rw [hev] at hb
      obtain ⟨rfl, rfl⟩ := exec_val h
      exact good_value (by unfold execOp; rw [ho]; simp [hb.bool_inv, asBool]) (ρs x) (Step.refl hW)
    · rename_i hev
      rw [hev] at hb
      obtain ⟨rfl, rfl⟩ := exec_val h
      exact good_value (by unfold execOp; rw [ho]; simp [hb.bool_inv, asBool]) (ρs y) (Step.refl hW)
    · exact (exec_fail h).elim
  · -- alloc
    rename_i e ho
    split at h
    · rename_i i hc
      obtain ⟨z, hz, z1, z2, z3⟩ := zero_run (hty _ _ hc)
      obtain ⟨E', h1, h2⟩ := varPlan_sound hW (cs := z.cells) (by omega) (z3 E st) h
      exact good_value (by unfold execOp; rw [ho]; simp [Instr.alloc, hz, newVar, newRow, run_newObj, World.alloc_eq]) h1 h2
    · exact (exec_fail h).elim
  · -- box
    rename_i e x ho
    split at h
    · rename_i cs hcs
      obtain ⟨q1, q2⟩ := cells_get (ρs x) hcs
      obtain ⟨E', h1, h2⟩ := varPlan_sound hW (cs := (a.eval x).cells) q1 q2 h
      exact good_value (by unfold execOp; rw [ho]; simp [Instr.box, newVar, newRow, run_newObj, World.alloc_eq]) h1 h2
    · exact (exec_fail h).elim
  · -- build
    rename_i t parts ho
    obtain ⟨p1, p2⟩ := pairs_sound hW hf parts
    cases hb : buildAV c t (parts.toList.map fun (i, x) => (i, c.eval fr x)) with
    | none => rw [hb] at h; cases kd <;> exact (exec_fail h).elim
    | some cells =>
      obtain ⟨cs, b1, b2, b3⟩ := build_sound (P := P) (w := w) hty p1 p2 hb
      rw [hb] at h
      obtain ⟨E', h1, h2⟩ := buildPlan_sound hW (fun cells' hc' => by
        simp only [Option.some.injEq] at hc'; subst hc'; exact ⟨b2, b3⟩) h
      exact good_value (by unfold execOp; rw [ho]; exact run_do_value b1) h1 h2
  · -- buildSlice
    rename_i t len parts ho
    obtain ⟨p1, p2⟩ := pairs_sound hW hf parts
    obtain ⟨x, w', E', h1, h2, h3⟩ := buildSlice_sound (P := P) hty hW p1 p2 h
    exact good_value (by unfold execOp; rw [ho]; exact run_do_value h1) h2 h3
  · -- load
    rename_i t x ho
    obtain ⟨rfl, y, h1, h2⟩ := loadPlan_sound (P := P) hty hW (ρs x) h
    exact good_value (by unfold execOp; rw [ho]; exact run_do_value h1) h2 (Step.refl hW)
  · -- store
    rename_i t x y ho
    obtain ⟨rfl, w', E', h1, h2⟩ := storePlan_sound (P := P) hty hW (ρs x) (ρs y) h
    exact good_skip (by unfold execOp; rw [ho]; exact run_do_skip h1) (.any _) h2
  · -- nilCheck
    rename_i x ho
    have hx := ρs x
    split at h
    · rename_i r g off hev
      rw [hev] at hx
      obtain ⟨rfl, rfl⟩ := exec_val h
      obtain ⟨p, hp, _⟩ := hx.ptr_inv
      exact good_value (x := a.eval x) (by unfold execOp; rw [ho]; simp [hp]) hx (Step.refl hW)
    · rename_i cs hev
      rw [hev] at hx
      obtain ⟨rfl, rfl⟩ := exec_val h
      obtain ⟨b, off, hp, _⟩ := fp_mem hW hx.one_cells.1
      exact good_value (x := a.eval x) (by unfold execOp; rw [ho]; simp [hp]) hx (Step.refl hW)
    · rename_i f fs cs hev
      rw [hev] at hx
      obtain ⟨rfl, rfl⟩ := exec_val h
      obtain ⟨_, _, hp, _⟩ := hx.func_inv
      exact good_value (x := a.eval x) (by unfold execOp; rw [ho]; simp [hp]) hx (Step.refl hW)
    · exact (exec_fail h).elim
  · -- binOp
    rename_i op t x y pos ho
    obtain ⟨hb, rfl⟩ := exec_opt h
    obtain ⟨z, h1, h2⟩ := binAV_sound (P := P) (w := w) (xo := x) (yo := y) hty (ρs x) (ρs y) hb
    exact good_value (by unfold execOp; rw [ho]; exact run_do_value h1) h2 (Step.refl hW)
  · -- unOp
    rename_i op t x ho
    obtain ⟨hb, rfl⟩ := exec_opt h
    obtain ⟨z, h1, h2⟩ := unAV_sound (P := P) (w := w) (ρs x) hb
    exact good_value (by unfold execOp; rw [ho]; exact run_do_value h1) h2 (Step.refl hW)
  · -- convert
    rename_i s d x ho
    obtain ⟨hb, rfl⟩ := exec_opt h
    obtain ⟨z, h1, h2⟩ := convAV_sound (P := P) (w := w) hty (ρs x) hb
    exact good_value (by unfold execOp; rw [ho]; exact run_do_value h1) h2 (Step.refl hW)
  · -- makeFunc
    rename_i f first captured ho
    split at h
    · rename_i fs cs hfs hcs
      obtain ⟨rfl, rfl⟩ := exec_val h
      have e1 := oneAll_sound _ _ hfs
      have e2 := oneAll_sound _ _ hcs
      have l1 : fs.length = first.size := by have := congrArg List.length e1; simpa using this.symm
      have l2 : cs.length = captured.size := by have := congrArg List.length e2; simpa using this.symm
      refine good_value (x := .func (.func f) (first.map a.eval) (captured.map a.eval)) (by unfold execOp; rw [ho]; simp [Instr.makeFunc]) (.one _ _ (.func _ _ _ _ _ (by simp [l1]) (by simp [l2]) (fun i y hi => ?_) (fun i y hi => ?_))) (Step.refl hW)
      · obtain ⟨v, hv, hv2⟩ := args_sound hW hf first i (.one y) (by rw [e1, List.getElem?_map, hi]; rfl)
        rw [Array.getD_eq_getD_getElem?, hv]
        exact hv2.one_cells.1
      · obtain ⟨v, hv, hv2⟩ := args_sound hW hf captured i (.one y) (by rw [e2, List.getElem?_map, hi]; rfl)
        rw [Array.getD_eq_getD_getElem?, hv]
        exact hv2.one_cells.1
    · exact (exec_fail h).elim
  · -- makeMap
    rename_i t ho
    split at h
    · rename_i kt et _ _ _ _ hc
      obtain ⟨rfl, rfl⟩ := exec_new h
      have hS := Step.pushMap hW kt et
      refine good_value (x := .map (some w.heap.size)) (by unfold execOp; rw [ho]; exact run_do_value rfl) (.one _ _ (.map _ _ (by simp) (fun kt' et' es hst => ?_))) hS
      simp [Env.pushRow]
    · exact (exec_fail h).elim
  · -- makeSlice
    rename_i t l m ho
    obtain ⟨x, w', E', h1, h2, h3⟩ := makeSlice_sound (P := P) hty hW (ρs l) (ρs m) h
    exact good_value (by unfold execOp; rw [ho]; exact run_do_value h1) h2 h3
  · -- slice
    rename_i t x lo hi mx ho
    obtain ⟨rfl, y, h1, h2⟩ := slice_sound (P := P) hty hW (ρs x) (optC_map hW hf lo) (optC_map hW hf hi) (optC_map hW hf mx) h
    exact good_value (by unfold execOp; rw [ho]; exact run_do_value h1) h2 (Step.refl hW)
  · -- fieldAddr
    rename_i s x f ho
    obtain ⟨hb, rfl⟩ := exec_opt h
    obtain ⟨z, h1, h2⟩ := fieldAddr_sound (P := P) (w := w) hty (ρs x) hb
    exact good_value (by unfold execOp; rw [ho]; exact run_do_value h1) h2 (Step.refl hW)
  · -- field
    rename_i t x f ho
    obtain ⟨hb, rfl⟩ := exec_opt h
    obtain ⟨z, h1, h2⟩ := fieldAV_sound (P := P) (w := w) hty (ρs x) hb
    exact good_value (by unfold execOp; rw [ho]; exact run_do_value h1) h2 (Step.refl hW)
  · -- indexAddr
    rename_i t x ix ho
    obtain ⟨hb, rfl⟩ := exec_opt h
    obtain ⟨z, h1, h2⟩ := indexAddr_sound (P := P) (w := w) hty (ρs x) (ρs ix) hb
    exact good_value (by unfold execOp; rw [ho]; exact run_do_value h1) h2 (Step.refl hW)
  · -- index
    rename_i t x ix ho
    obtain ⟨hb, rfl⟩ := exec_opt h
    obtain ⟨z, h1, h2⟩ := indexAV_sound (P := P) (w := w) hty (ρs x) (ρs ix) hb
    exact good_value (by unfold execOp; rw [ho]; exact run_do_value h1) h2 (Step.refl hW)
  · -- lookup
    rename_i t m k ok ho
    obtain ⟨rfl, y, h1, h2⟩ := lookup_sound (P := P) hty hW (ρs m) (ρs k) h
    exact good_value (by unfold execOp; rw [ho]; exact run_do_value h1) h2 (Step.refl hW)
  · -- mapUpdate
    rename_i t m k v ho
    obtain ⟨rfl, w', E', h1, h2⟩ := update_sound (P := P) hty hW (ρs m) (ρs k) (ρs v) h
    exact good_skip (by unfold execOp; rw [ho]; exact run_do_skip h1) (.any _) h2
  · -- insert
    rename_i t m k v ho
    obtain ⟨rfl, w', E', h1, h2⟩ := update_sound (P := P) hty hW (ρs m) (ρs k) (ρs v) h
    exact good_skip (by unfold execOp; rw [ho]; exact run_do_skip h1) (.any _) h2
  · -- extract
    rename_i x i ho
    have hx := ρs x
    split at h
    · rename_i vs hev
      rw [hev] at hx
      obtain ⟨us, hu, hs, hc⟩ := hx.tup_inv
      split at h
      · rename_i y hy
        obtain ⟨rfl, rfl⟩ := exec_val h
        have hlt : i < us.size := by have := (List.getElem?_eq_some_iff.1 hy).1; omega
        have := hc i _ hy
        refine good_value (x := us.getD i undef) ?_ this (Step.refl hW)
        unfold execOp; rw [ho]
        simp [hu, Instr.extract, hlt]
      · exact (exec_fail h).elim
    · exact (exec_fail h).elim
  · -- call
    rename_i cl ho
    exact callPlan_sound ho hty hW hf hcall h
  · exact (exec_fail h).elim

end Go.AI
