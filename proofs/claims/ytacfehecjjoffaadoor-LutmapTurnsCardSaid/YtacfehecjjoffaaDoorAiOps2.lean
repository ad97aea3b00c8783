/- Operations on numbers, addresses, fields, indices. -/
import Derived.Test.YtacfehecjjoffaaDoorAiOps
set_option linter.unusedVariables false
set_option linter.unusedSimpArgs false
namespace Go.AI
open Go

variable {P : Program} {c : Cfg} {E : Env} {st : St} {w : World}

theorem eqGuard_int (op : BinOp) (t : TypeId) (x y : Operand) (k k' : IntKind) (a b : Int) (w : World) : (eqGuard op t x y (.int k a) (.int k' b)).run P w = .ok () w := by
  unfold eqGuard; cases op <;> simp
theorem eqGuard_bool (op : BinOp) (t : TypeId) (x y : Operand) (a b : Bool) (w : World) : (eqGuard op t x y (.bool a) (.bool b)).run P w = .ok () w := by
  unfold eqGuard; cases op <;> simp

theorem intBin_run {op : BinOp} {k : IntKind} {a b : Int} {r : Cell} (h : intBin op k a b = some r) (hs : op ≠ .shl) (hs' : op ≠ .shr) (t : TypeId) (w : World) (E : Env) (st : St) :
    ∃ v, (binOp op t (.int k a) (.int k b)).run P w = .ok v w ∧ AVC E st (.one r) v := by
  cases op <;> simp only [intBin] at h <;> (try (exact absurd rfl hs)) <;> (try (exact absurd rfl hs'))
  case quo =>
    split at h
    · simp at h
    · rename_i hb
      simp only [Option.some.injEq] at h; subst h
      exact ⟨_, by simp [binOp, Op.intDiv, hb], int_cc _ _ _ _⟩
  case rem =>
    split at h
    · simp at h
    · rename_i hb
      simp only [Option.some.injEq] at h; subst h
      exact ⟨_, by simp [binOp, Op.intDiv, hb], int_cc _ _ _ _⟩
  all_goals
    simp only [Option.some.injEq] at h; subst h
    first
      | exact ⟨_, by simp only [binOp, ne_eq, not_true_eq_false, if_false]; rfl, int_cc _ _ _ _⟩
      | exact ⟨_, by simp only [binOp, ne_eq, not_true_eq_false, if_false]; rfl, bool_cc _ _ _⟩

theorem shiftBin_run {op : BinOp} {k k' : IntKind} {a b : Int} {r : Cell} (h : shiftBin op k a b = some r) (t : TypeId) (w : World) (E : Env) (st : St) :
    ∃ v, (binOp op t (.int k a) (.int k' b)).run P w = .ok v w ∧ AVC E st (.one r) v := by
  unfold shiftBin at h
  split at h
  · simp at h
  · rename_i hb
    cases op <;> simp only [Option.some.injEq] at h <;> (try (exfalso; simp at h; done))
    · subst h
      exact ⟨_, by simp [binOp, Op.shift, hb], int_cc _ _ _ _⟩
    · subst h
      exact ⟨_, by simp [binOp, Op.shift, hb], int_cc _ _ _ _⟩

theorem eqCells_scalar : ∀ (a b : List Cell) (r : Bool), eqCells a b = some r → (∀ x ∈ a, ∀ v, CC E st x v → CP (fun _ _ => none) x v) ∧ (∀ x ∈ b, ∀ v, CC E st x v → CP (fun _ _ => none) x v)
  | [], [], r, _ => ⟨by simp, by simp⟩
  | .int k a :: l, .int k' b :: m, r, h => by
    simp only [eqCells] at h
    split at h
    · obtain ⟨r', h', _⟩ := Option.map_eq_some_iff.1 h
      obtain ⟨h1, h2⟩ := eqCells_scalar l m r' h'
      refine ⟨fun x hx v hv => ?_, fun x hx v hv => ?_⟩
      · rcases List.mem_cons.1 hx with rfl | hx
        · have := (AVC.one _ _ hv).int_inv; subst this; exact .int _ _
        · exact h1 x hx v hv
      · rcases List.mem_cons.1 hx with rfl | hx
        · have := (AVC.one _ _ hv).int_inv; subst this; exact .int _ _
        · exact h2 x hx v hv
    · simp at h
  | .bool a :: l, .bool b :: m, r, h => by
    simp only [eqCells] at h
    obtain ⟨r', h', _⟩ := Option.map_eq_some_iff.1 h
    obtain ⟨h1, h2⟩ := eqCells_scalar l m r' h'
    refine ⟨fun x hx v hv => ?_, fun x hx v hv => ?_⟩
    · rcases List.mem_cons.1 hx with rfl | hx
      · have := (AVC.one _ _ hv).bool_inv; subst this; exact .bool _
      · exact h1 x hx v hv
    · rcases List.mem_cons.1 hx with rfl | hx
      · have := (AVC.one _ _ hv).bool_inv; subst this; exact .bool _
      · exact h2 x hx v hv
  | [], _ :: _, r, h => by simp [eqCells] at h
  | x :: l, [], r, h => by cases x <;> simp [eqCells] at h
  | .int _ _ :: _, .bool _ :: _, r, h => by simp [eqCells] at h
  | .bool _ :: _, .int _ _ :: _, r, h => by simp [eqCells] at h
  | x :: _, .str _ :: _, r, h => by cases x <;> simp [eqCells] at h
  | x :: _, .slice _ _ _ :: _, r, h => by cases x <;> simp [eqCells] at h
  | x :: _, .own _ _ _ _ _ _ :: _, r, h => by cases x <;> simp [eqCells] at h
  | x :: _, .ptr _ _ _ :: _, r, h => by cases x <;> simp [eqCells] at h
  | x :: _, .fp _ :: _, r, h => by cases x <;> simp [eqCells] at h
  | x :: _, .nilp :: _, r, h => by cases x <;> simp [eqCells] at h
  | x :: _, .map _ :: _, r, h => by cases x <;> simp [eqCells] at h
  | x :: _, .nilm :: _, r, h => by cases x <;> simp [eqCells] at h
  | x :: _, .func _ _ _ :: _, r, h => by cases x <;> simp [eqCells] at h
  | x :: _, .nilf :: _, r, h => by cases x <;> simp [eqCells] at h
  | x :: _, .iface _ _ _ :: _, r, h => by cases x <;> simp [eqCells] at h
  | x :: _, .nili :: _, r, h => by cases x <;> simp [eqCells] at h
  | .str _ :: _, y :: _, r, h => by simp [eqCells] at h
  | .slice _ _ _ :: _, y :: _, r, h => by simp [eqCells] at h
  | .own _ _ _ _ _ _ :: _, y :: _, r, h => by simp [eqCells] at h
  | .ptr _ _ _ :: _, y :: _, r, h => by simp [eqCells] at h
  | .fp _ :: _, y :: _, r, h => by simp [eqCells] at h
  | .nilp :: _, y :: _, r, h => by simp [eqCells] at h
  | .map _ :: _, y :: _, r, h => by simp [eqCells] at h
  | .nilm :: _, y :: _, r, h => by simp [eqCells] at h
  | .func _ _ _ :: _, y :: _, r, h => by simp [eqCells] at h
  | .nilf :: _, y :: _, r, h => by simp [eqCells] at h
  | .iface _ _ _ :: _, y :: _, r, h => by simp [eqCells] at h
  | .nili :: _, y :: _, r, h => by simp [eqCells] at h

theorem equalIn_bool {t : TypeId} (hd : P.underlying t = some .bool) (d : Nat) (a b : Bool) (w : World) : (Op.equalIn (d + 1) t (.bool a) (.bool b)).run P w = .ok (a == b) w := by
  simp [Op.equalIn, run_underlying hd]
theorem equal_bool {t : TypeId} (hd : P.underlying t = some .bool) (a b : Bool) (w : World) : (Op.equal t (.bool a) (.bool b)).run P w = .ok (a == b) w := equalIn_bool hd 9999 a b w

theorem binAV_sound {op : BinOp} {t : TypeId} {x y : AV} {xo yo : Operand} {u v : Value} {r : AV} (hty : ∀ t i, c.ty t = some i → TyOK P t i) (hx : AVC E st x u) (hy : AVC E st y v) (h : binAV c op t x y = some r) :
    ∃ z, (do eqGuard op t xo yo u v; binOp op t u v : Sem Value).run P w = .ok z w ∧ AVC E st r z := by
  unfold binAV at h
  split at h
  · rename_i k a k' b
    have := hx.int_inv; subst this
    have := hy.int_inv; subst this
    simp only [Sem.run_bind, eqGuard_int, Result.andThen_ok]
    split at h
    · obtain ⟨r', h', rfl⟩ := Option.map_eq_some_iff.1 h; exact shiftBin_run h' t w E st
    · obtain ⟨r', h', rfl⟩ := Option.map_eq_some_iff.1 h; exact shiftBin_run h' t w E st
    · rename_i hs hs'
      split at h
      · rename_i hk
        subst hk
        obtain ⟨r', h', rfl⟩ := Option.map_eq_some_iff.1 h
        exact intBin_run h' hs hs' t w E st
      · simp at h
  · rename_i a b
    have := hx.bool_inv; subst this
    have := hy.bool_inv; subst this
    simp only [Sem.run_bind, eqGuard_bool, Result.andThen_ok]
    split at h
    · rename_i hc
      obtain ⟨d, hd, hk⟩ := (hty t _ hc).desc
      simp only [descOK] at hk; subst hk
      have heq := equal_bool hd a b w
      cases op <;> simp only [Option.some.injEq] at h <;> (try (exfalso; simp at h; done))
      · subst h; exact ⟨.bool (a == b), by simp [binOp, heq], bool_cc _ _ _⟩
      · subst h; exact ⟨.bool (!(a == b)), by simp [binOp, heq], bool_cc _ _ _⟩
    · simp at h
  · rename_i a b
    obtain ⟨xs, rfl, hs1, hh1⟩ := hx.agg_inv
    obtain ⟨ys, rfl, hs2, hh2⟩ := hy.agg_inv
    split at h
    · rename_i i hc
      split at h
      · rename_i hq
        obtain ⟨hq, hkinds⟩ := hq
        have he := (hty t _ hc).eq hq
        cases op <;> simp only at h <;> (try (exfalso; simp at h; done))
        · obtain ⟨r', h', rfl⟩ := Option.map_eq_some_iff.1 h
          obtain ⟨e1, e2⟩ := eqCells_scalar (E := E) (st := st) a b r' h'
          obtain ⟨g1, g2⟩ := he .eql xo yo a b xs ys r' w (.inl rfl) hkinds h' hs1 hs2 (fun i u hi => e1 u (List.mem_of_getElem? hi) _ (hh1 i u hi)) (fun i u hi => e2 u (List.mem_of_getElem? hi) _ (hh2 i u hi))
          exact ⟨.bool r', by simp [g1, g2], bool_cc _ _ _⟩
        · obtain ⟨r', h', rfl⟩ := Option.map_eq_some_iff.1 h
          obtain ⟨e1, e2⟩ := eqCells_scalar (E := E) (st := st) a b r' h'
          obtain ⟨g1, g2⟩ := he .neq xo yo a b xs ys r' w (.inr rfl) hkinds h' hs1 hs2 (fun i u hi => e1 u (List.mem_of_getElem? hi) _ (hh1 i u hi)) (fun i u hi => e2 u (List.mem_of_getElem? hi) _ (hh2 i u hi))
          exact ⟨.bool (!r'), by simp [g1, g2], bool_cc _ _ _⟩
      · simp at h
    · simp at h
  · simp at h

theorem unAV_sound {op : UnOp} {x r : AV} {u : Value} (hx : AVC E st x u) (h : unAV op x = some r) : ∃ z, (Op.unary op u).run P w = .ok z w ∧ AVC E st r z := by
  unfold unAV at h
  split at h
  · have := hx.bool_inv; subst this
    simp only [Option.some.injEq] at h; subst h
    exact ⟨_, by simp [Op.unary], bool_cc _ _ _⟩
  · have := hx.int_inv; subst this
    simp only [Option.some.injEq] at h; subst h
    exact ⟨_, by simp only [Op.unary, Op.intArith, Sem.run_pure], int_cc _ _ _ _⟩
  · have := hx.int_inv; subst this
    simp only [Option.some.injEq] at h; subst h
    exact ⟨_, by simp only [Op.unary, Op.intBits, Sem.run_pure], int_cc _ _ _ _⟩
  · simp at h

theorem convAV_sound {s d : TypeId} {x r : AV} {u : Value} (hty : ∀ t i, c.ty t = some i → TyOK P t i) (hx : AVC E st x u) (h : convAV c s d x = some r) : ∃ z, (convert s d u).run P w = .ok z w ∧ AVC E st r z := by
  unfold convAV at h
  split at h
  · rename_i hs hd
    have := hx.int_inv; subst this
    simp only [Option.some.injEq] at h; subst h
    obtain ⟨d1, hd1, _⟩ := (hty _ _ hs).desc
    obtain ⟨d2, hd2, hk⟩ := (hty _ _ hd).desc
    simp only [descOK] at hk; subst hk
    exact ⟨_, by simp [convert, run_underlying hd1, run_underlying hd2, Conv.intToInt], int_cc _ _ _ _⟩
  · simp at h

theorem ptr_add (a : Addr) (n : Nat) (h : a.spot = none) : a.add n = ⟨a.block, a.off + n, none⟩ := by
  cases a with | mk b o s => simp at h; subst h; exact add_addr b o n

/-- An address moved on: what it is in the model is told by whoever looks (a stale one may be anything). -/
theorem addPtr_sound {x r : AV} {n : Nat} {u : Value} (hx : AVC E st x u) (h : addPtr x n = some r) : ∃ a, u = .pointer (some a) ∧ ∀ a', (a.spot = none → a' = ⟨a.block, a.off + n, none⟩) → AVC E st r (.pointer (some a')) := by
  unfold addPtr at h
  split at h
  · rename_i r0 g off
    obtain ⟨a, rfl, hr, h1, h2⟩ := hx.ptr_inv
    simp only [Option.some.injEq] at h; subst h
    refine ⟨a, rfl, fun a' ha' => .one _ _ (.ptr r0 g (off + n) a' hr (fun t g' cells hst => ⟨(h1 t g' cells hst).1, fun he => ?_⟩) h2)⟩
    have := (h1 t g' cells hst).2 he
    subst this
    exact ha' rfl
  · rename_i cells
    split at h
    · rename_i hle
      simp only [Option.some.injEq] at h; subst h
      cases hx with
      | one _ _ hx => cases hx with
        | pure _ _ h _ => cases h
        | fp _ b o vs hF hC =>
          refine ⟨⟨b, o, none⟩, rfl, fun a' ha' => ?_⟩
          have := ha' rfl
          subst this
          refine .one _ _ (.fp (cells.drop n) b (o + n) (fun j => vs (n + j)) (fun j y hj => ?_) (fun j y hj => ?_))
          · rw [List.getElem?_drop] at hj
            have := hF _ _ hj
            rw [Nat.add_assoc]; exact this
          · rw [List.getElem?_drop] at hj
            exact hC _ _ hj
    · simp at h
  · simp at h

theorem add_spot (a : Addr) (n : Nat) : a.spot = none → a.add n = ⟨a.block, a.off + n, none⟩ := ptr_add a n

theorem size_inv {t : TypeId} {n : Nat} (hty : ∀ t i, c.ty t = some i → TyOK P t i) (h : c.size t = some n) : ∃ i, c.ty t = some i ∧ i.size = n ∧ ∀ w, (sizeOf t).run P w = .ok n w := by
  obtain ⟨i, hi, rfl⟩ := Option.map_eq_some_iff.1 h
  exact ⟨i, hi, rfl, sizeOf_run (hty t i hi)⟩

theorem fieldAddr_sound {s : TypeId} {f : Nat} {x r : AV} {u : Value} (hty : ∀ t i, c.ty t = some i → TyOK P t i) (hx : AVC E st x u) (h : fieldAddrAV c s x f = some r) :
    ∃ z, (Instr.fieldAt s u f).run P w = .ok z w ∧ AVC E st r z := by
  unfold fieldAddrAV at h
  split at h
  · rename_i o ft hf
    split at h
    · rename_i n hn
      obtain ⟨i, hi, _, hsz⟩ := size_inv hty hn
      obtain ⟨a, rfl, ha⟩ := addPtr_sound hx h
      unfold fieldOff at hf
      split at hf
      · rename_i hc
        obtain ⟨d, hd, hk⟩ := (hty _ _ hc).desc
        simp only [descOK] at hk
        obtain ⟨fields, rfl, hfs, _⟩ := hk
        obtain ⟨fl, h1, h2, h3⟩ := hfs f o ft hf
        refine ⟨.pointer (some (a.add fl.offset)), ?_, ha _ (fun hs => by rw [h2]; exact add_spot a o hs)⟩
        subst h3
        simp [Instr.fieldAt, run_underlying hd, h1, Instr.sureAddr, fieldPlace, hsz]
      · simp at hf
    · simp at h
  · simp at h

theorem indexAddr_sound {t : TypeId} {x ix r : AV} {u k : Value} (hty : ∀ t i, c.ty t = some i → TyOK P t i) (hx : AVC E st x u) (hi : AVC E st ix k) (h : indexAddrAV c t x ix = some r) :
    ∃ z, (Instr.indexAt t u k).run P w = .ok z w ∧ AVC E st r z := by
  unfold indexAddrAV at h
  split at h
  · rename_i kk i n e _ _ _ _ hc
    have := hi.int_inv; subst this
    split at h
    · rename_i hb
      obtain ⟨s, hs, h⟩ := Option.bind_eq_some_iff.1 h
      obtain ⟨_, _, _, hsz⟩ := size_inv hty hs
      obtain ⟨a, rfl, ha⟩ := addPtr_sound hx h
      obtain ⟨d, hd, hk⟩ := (hty _ _ hc).desc
      simp only [descOK] at hk; subst hk
      refine ⟨.pointer (some (a.add (i.toNat * s))), ?_, ha _ (fun hs => add_spot a _ hs)⟩
      simp [Instr.indexAt, asIntOf, run_underlying hd, Instr.sureAddr, hsz, hb.1, hb.2]
    · simp at h
  · rename_i kk i e _ _ _ _ hc
    have := hi.int_inv; subst this
    obtain ⟨d, hd, hk⟩ := (hty _ _ hc).desc
    simp only [descOK] at hk; subst hk
    split at h
    · rename_i tok esz rows s hs
      obtain ⟨_, _, _, hsz⟩ := size_inv hty hs
      split at h
      · rename_i hb
        obtain ⟨h0, hlt, rfl⟩ := hb
        simp only [Option.some.injEq] at h; subst h
        obtain ⟨A, cap, rfl, hcap, hcp, _⟩ := hx.slice_inv
        cases hcp with
        | slice _ _ _ _ b off _ vs hA hcap hE hF hC hN =>
          have hne : rows ≠ [] := fun e => by subst e; simp at hlt; omega
          have := hA hne; subst this
          have hrow : rows[i.toNat]? = some (rows.getD i.toNat []) := by
            rw [List.getD_eq_getElem?_getD, List.getElem?_eq_getElem (show i.toNat < rows.length by omega)]; rfl
          refine ⟨.pointer (some ⟨b, off + i.toNat * esz, none⟩), ?_, .one _ _ (.fp _ b _ (fun j => vs i.toNat j) (fun j y hj => hF _ _ _ _ hrow hj) (fun j y hj => ⟨hC _ _ _ _ hrow hj, hN _ _ _ _ hrow hj⟩))⟩
          simp [Instr.indexAt, asIntOf, run_underlying hd, hsz, h0, hlt, add_addr]
      · simp at h
    · rename_i r0 g esz cp off len s hs
      obtain ⟨_, _, _, hsz⟩ := size_inv hty hs
      split at h
      · rename_i hb
        obtain ⟨h0, hlt, rfl⟩ := hb
        simp only [Option.some.injEq] at h; subst h
        obtain ⟨A, cap, rfl, hr, hcap, hAn, h1, h2⟩ := hx.own_inv
        have hA : ∀ t g' cells, st[r0]? = some (.row t g' cells) → g = g' → A = some ⟨E.loc r0, off, none⟩ := fun t g' cells hst he => ((h1 t g' cells hst).2 he).1 (.inl (by omega))
        cases A with
        | none => exact absurd rfl (hAn (by omega))
        | some a =>
          refine ⟨.pointer (some (a.add (i.toNat * esz))), ?_, .one _ _ (.ptr r0 g _ _ hr (fun t g' cells hst => ⟨(h1 t g' cells hst).1, fun he => ?_⟩) (fun t g' => ?_))⟩
          · simp [Instr.indexAt, asIntOf, run_underlying hd, hsz, h0, hlt]
          · have := hA t g' cells hst he
            simp at this; subst this
            exact add_addr _ _ _
          · intro hst; have := (h2 t g' hst).2.1; omega
      · simp at h
    · simp at h
  · simp at h

end Go.AI
