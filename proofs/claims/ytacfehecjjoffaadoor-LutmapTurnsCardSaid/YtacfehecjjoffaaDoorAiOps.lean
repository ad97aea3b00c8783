/- Each operation of the model does what the abstract interpreter says: those that leave the resources alone, loads, stores. -/
import Derived.Test.YtacfehecjjoffaaDoorAiUpd
import Derived.MapKept
set_option linter.unusedVariables false
set_option linter.unusedSimpArgs false
namespace Go.AI
open Go

def zeroMatch : Cell → Value → Bool
  | .int k n, .int k' n' => k == k' && n == n'
  | .bool b, .bool b' => b == b'
  | .str s, .string s' => s.size == 0 && s'.size == 0
  | .slice .exact _ [], .slice none 0 0 => true
  | .nilp, .pointer none => true
  | .nilm, .map none => true
  | .nilf, .nilFunc => true
  | .nili, .nilIface => true
  | _, _ => false

theorem nilSlice_cc (E : Env) (st : St) (e : Nat) : CC E st (.slice .exact e []) (.slice none 0 0) :=
  .pure _ _ (.slice .exact e [] none 0 0 0 (fun _ _ => undef) (fun h => absurd rfl h) (Nat.le_refl _) (fun i row h => by simp at h) (fun i j row c h => by simp at h) (fun i j row c h => by simp at h) (fun i j row c h => by simp at h))
    fun tok e' rows h => by
      simp at h; obtain ⟨rfl, rfl, rfl⟩ := h
      intro A n cap hv; simp at hv; omega

theorem byteArray_empty {s : ByteArray} (h : s.size = 0) : s = ⟨#[]⟩ := by
  cases s with
  | mk d => have : d = #[] := Array.eq_empty_of_size_eq_zero h
            rw [this]

theorem zeroMatch_cc {E : Env} {st : St} {x : Cell} {v : Value} (h : zeroMatch x v = true) : CC E st x v := by
  unfold zeroMatch at h
  split at h
  · simp at h; obtain ⟨rfl, rfl⟩ := h; exact .pure _ _ (.int _ _) (fun _ _ _ h => by simp at h)
  · simp at h; subst h; exact .pure _ _ (.bool _) (fun _ _ _ h => by simp at h)
  · rename_i s s'
    simp only [Bool.and_eq_true, beq_iff_eq] at h
    rw [byteArray_empty h.1, byteArray_empty h.2]
    exact .pure _ _ (.str _) (fun _ _ _ h => by simp at h)
  · exact nilSlice_cc E st _
  · exact .pure _ _ .nilp (fun _ _ _ h => by simp at h)
  · exact .pure _ _ .nilm (fun _ _ _ h => by simp at h)
  · exact .pure _ _ .nilf (fun _ _ _ h => by simp at h)
  · exact .pure _ _ .nili (fun _ _ _ h => by simp at h)
  · simp at h

def aggTy : Ty → Bool
  | .struct _ => true
  | .array _ _ => true
  | _ => false
def descOK (P : Program) (d : TypeDesc) : Ty → Prop
  | .int k => d = .int k
  | .bool => d = .bool
  | .string => d = .string
  | .slice e => d = .slice e
  | .array n e => d = .array n e
  | .struct fs => ∃ fields, d = .struct fields ∧ (∀ (i o : Nat) (ft : TypeId), fs[i]? = some (o, ft) → ∃ f, fields[i]? = some f ∧ f.offset = o ∧ f.type = ft) ∧ ∀ f ∈ fields.toList, (P.info? f.type).isSome = true
  | .map k e => d = .map k e
  | .other => (match d with | .struct _ | .array _ _ => false | _ => true) = true

/-- '==' of values of that type, whole numbers and bools throughout, compares them cell by cell. -/
def EqOK (P : Program) (t : TypeId) (zc : List Cell) : Prop :=
  ∀ (op : BinOp) (x y : Operand) (a b : List Cell) (xs ys : Array Value) (r : Bool) (w : World), (op = .eql ∨ op = .neq) → kindsOK zc a = true → eqCells a b = some r → xs.size = a.length → ys.size = b.length →
    (∀ (i : Nat) (u : Cell), a[i]? = some u → CP (fun _ _ => none) u (xs.getD i undef)) → (∀ (i : Nat) (u : Cell), b[i]? = some u → CP (fun _ _ => none) u (ys.getD i undef)) →
    (eqGuard op t x y (.agg xs) (.agg ys)).run P w = .ok () w ∧ (binOp op t (.agg xs) (.agg ys)).run P w = .ok (.bool (if op = .eql then r else !r)) w

structure TyOK (P : Program) (t : TypeId) (i : TyInfo) : Prop where
  info : ∃ info z, P.info? t = some info ∧ info.size = i.size ∧ info.bytes = i.bytes ∧ info.zero = some z ∧ z.cells.size = i.zero.length ∧ i.zero.length = i.size ∧
    (∀ (j : Nat) (x : Cell), i.zero[j]? = some x → zeroMatch x (z.cells.getD j undef) = true) ∧ (aggTy i.ty = true → ∃ cs, z = .agg cs) ∧ (aggTy i.ty = false → z.oneCell' = true)
  desc : ∃ d, P.underlying t = some d ∧ descOK P d i.ty
  eq : i.eqFlat = true → EqOK P t i.zero

variable {P : Program} {c : Cfg} {E : Env} {st : St} {w : World}

theorem isAgg_run {t : TypeId} {i : TyInfo} (h : TyOK P t i) (w : World) : (isAgg t).run P w = .ok (aggTy i.ty) w := by
  obtain ⟨d, hd, hk⟩ := h.desc
  unfold isAgg
  simp only [Sem.run_bind, run_underlying hd, Result.andThen_ok]
  cases hi : i.ty <;> rw [hi] at hk <;> simp only [descOK] at hk
  case struct fs => obtain ⟨fields, rfl, _⟩ := hk; rfl
  case other => cases d <;> first | rfl | (simp at hk; done)
  all_goals (subst hk; rfl)

theorem sizeOf_run {t : TypeId} {i : TyInfo} (h : TyOK P t i) (w : World) : (sizeOf t).run P w = .ok i.size w := by
  obtain ⟨info, z, h1, h2, _⟩ := h.info
  simp [sizeOf, typeInfo, h1, h2]
theorem zero_run {t : TypeId} {i : TyInfo} (h : TyOK P t i) : ∃ z, (∀ w, (zeroValue t).run P w = .ok z w) ∧ z.cells.size = i.zero.length ∧ i.zero.length = i.size ∧
    (∀ (E : Env) (st : St) (j : Nat) (x : Cell), i.zero[j]? = some x → CC E st x (z.cells.getD j undef)) := by
  obtain ⟨info, z, h1, h2, h3, h4, h5, h6, h7, _⟩ := h.info
  exact ⟨z, fun w => by simp [zeroValue, typeInfo, h1, h4], h5, h6, fun E st j x hx => zeroMatch_cc (h7 j x hx)⟩

/-- Cells in memory from an address on. -/
def Mem (E : Env) (st : St) (w : World) (b o : Nat) (cells : List Cell) : Prop :=
  ∃ vs : Nat → Value, ∀ (j : Nat) (x : Cell), cells[j]? = some x → w.cell? ⟨b, o + j, none⟩ = some (vs j) ∧ CC E st x (vs j)

theorem add_addr (b o n : Nat) : (⟨b, o, none⟩ : Addr).add n = ⟨b, o + n, none⟩ := by unfold Addr.add; split <;> simp_all

theorem readCells_run {t : TypeId} {b o : Nat} {cells : List Cell} {av : AV} (hty : ∀ t i, c.ty t = some i → TyOK P t i) (hm : Mem E st w b o cells) (hr : readCells c t cells = some av) :
    ∃ x, (loadVar t ⟨b, o, none⟩).run P w = .ok x w ∧ AVC E st av x := by
  obtain ⟨vs, hv⟩ := hm
  unfold readCells at hr
  cases hi : c.ty t with
  | none => rw [hi] at hr; simp at hr
  | some i =>
    rw [hi] at hr
    have ht := hty t i hi
    have ha := isAgg_run ht w
    have hs := sizeOf_run ht w
    have key : ∀ (hh : aggTy i.ty = true), (if i.size ≤ cells.length then some (AV.agg (cells.take i.size)) else none) = some av → ∃ x, (loadVar t ⟨b, o, none⟩).run P w = .ok x w ∧ AVC E st av x := by
      intro hh hr
      split at hr
      · rename_i hle
        simp at hr; subst hr
        rw [hh] at ha
        have hl := run_loadCells (P := P) w ⟨b, o, none⟩ i.size vs (fun j hj => by rw [add_addr]; exact (hv j _ (List.getElem?_eq_getElem (show j < cells.length by omega))).1)
        refine ⟨.agg ((List.range i.size).map vs).toArray, ?_, .agg _ _ (by simp; omega) fun j x hx => ?_⟩
        · simp [loadVar, ha, hs, hl]
        · rw [List.getElem?_take] at hx
          split at hx
          · rename_i hj
            have := (hv j x hx).2
            simpa [Array.getD, hj] using this
          · simp at hx
      · simp at hr
    have key1 : ∀ (hh : aggTy i.ty = false), cells.head?.map AV.one = some av → ∃ x, (loadVar t ⟨b, o, none⟩).run P w = .ok x w ∧ AVC E st av x := by
      intro hh hr
      rw [hh] at ha
      cases hc : cells with
      | nil => rw [hc] at hr; simp at hr
      | cons x l =>
        rw [hc] at hr
        simp at hr; subst hr
        obtain ⟨h1, h2⟩ := hv 0 x (by rw [hc]; simp)
        refine ⟨vs 0, ?_, .one _ _ h2⟩
        simp only [Nat.add_zero] at h1
        simp [loadVar, ha, h1]
    cases hty' : i.ty <;> simp only [hty'] at hr <;> first
      | exact key (by rw [hty']; rfl) hr
      | exact key1 (by rw [hty']; rfl) (by cases cells <;> first | exact hr | (simp at hr; done))

theorem Mem.drop {b o n : Nat} {cells : List Cell} (hm : Mem E st w b o cells) : Mem E st w b (o + n) (cells.drop n) := by
  obtain ⟨vs, hv⟩ := hm
  refine ⟨fun j => vs (n + j), fun j x hx => ?_⟩
  rw [List.getElem?_drop] at hx
  have := hv (n + j) x hx
  rw [Nat.add_assoc]; exact this

/-- A pointer that is told 'fp'. -/
theorem fp_mem (hW : WS c E st w) {cells : List Cell} {v : Value} (h : CC E st (.fp cells) v) : ∃ b o, v = .pointer (some ⟨b, o, none⟩) ∧ Mem E st w b o cells ∧
    ∃ vs : Nat → Value, ∀ (j : Nat) (x : Cell), cells[j]? = some x → E.F b (o + j) = some (vs j) ∧ CP E.F x (vs j) ∧ x.noTok = true := by
  cases h with
  | pure _ _ h _ => cases h
  | fp _ b o vs hF hC =>
    exact ⟨b, o, rfl, ⟨vs, fun j x hx => ⟨hW.hF _ _ _ (hF j x hx), .of_noTok (hC j x hx).1 (hC j x hx).2⟩⟩, vs, fun j x hx => ⟨hF j x hx, hC j x hx⟩⟩

/-- An operation's outcome. -/
def Outcome (c : Cfg) (E : Env) (st : St) (w : World) (r : Result Next) (v : AV) (st' : St) : Prop :=
  ∃ x w' E', (r = .ok (.value x) w' ∨ (r = .ok .skip w' ∧ x = undef)) ∧ AVC E' st' v x ∧ Step c E st w E' st' w'
theorem Outcome.same {r : Result Next} {v : AV} {x : Value} (hW : WS c E st w) (hr : r = .ok (.value x) w) (hv : AVC E st v x) : Outcome c E st w r v st :=
  ⟨x, w, E, .inl hr, hv, Step.refl hW⟩

def FrC (E : Env) (st : St) (fr : Fr) (a : Act) : Prop := ∀ t, AVC E st (fr.get t) (a.tmps.getD t undef)

theorem constAV_sound (E : Env) (st : St) (v : Value) : AVC E st (constAV v) v := by
  unfold constAV
  split
  · exact .one _ _ (.pure _ _ (.int _ _) (fun _ _ _ h => by simp at h))
  · exact .one _ _ (.pure _ _ (.bool _) (fun _ _ _ h => by simp at h))
  · exact .one _ _ (.pure _ _ (.str _) (fun _ _ _ h => by simp at h))
  · exact .one _ _ (nilSlice_cc E st 0)
  · exact .one _ _ (.pure _ _ .nilp (fun _ _ _ h => by simp at h))
  · exact .one _ _ (.pure _ _ .nilm (fun _ _ _ h => by simp at h))
  · exact .one _ _ (.pure _ _ .nilf (fun _ _ _ h => by simp at h))
  · exact .one _ _ (.pure _ _ .nili (fun _ _ _ h => by simp at h))
  · exact .any _

theorem eval_sound {fr : Fr} {a : Act} (hW : WS c E st w) (hf : FrC E st fr a) (x : Operand) : AVC E st (c.eval fr x) (a.eval x) := by
  cases x with
  | tmp t => exact hf t
  | const v => exact constAV_sound E st v
  | global g =>
    simp only [Cfg.eval]
    cases hg : c.glob g with
    | none => exact .any _
    | some cells =>
      obtain ⟨vs, hv⟩ := hW.glob g cells hg
      exact .one _ _ (.fp cells g 0 vs (fun j x hj => by rw [Nat.zero_add]; exact (hv j x hj).1) (fun j x hj => (hv j x hj).2))
  | func f => exact .one _ _ (.func f [] [] #[] #[] rfl rfl (fun i c h => by simp at h) (fun i c h => by simp at h))

theorem int_cc (E : Env) (st : St) (k : IntKind) (n : Int) : AVC E st (.one (.int k n)) (.int k n) := .one _ _ (.pure _ _ (.int k n) (fun _ _ _ h => by simp at h))
theorem bool_cc (E : Env) (st : St) (b : Bool) : AVC E st (.one (.bool b)) (.bool b) := .one _ _ (.pure _ _ (.bool b) (fun _ _ _ h => by simp at h))
theorem str_cc (E : Env) (st : St) (b : ByteArray) : AVC E st (.one (.str b)) (.string b) := .one _ _ (.pure _ _ (.str b) (fun _ _ _ h => by simp at h))

theorem AVC.int_inv {k : IntKind} {n : Int} {v : Value} (h : AVC E st (.one (.int k n)) v) : v = .int k n := by
  cases h with | one _ _ h => cases h with | pure _ _ h _ => cases h with | int => rfl
theorem AVC.bool_inv {b : Bool} {v : Value} (h : AVC E st (.one (.bool b)) v) : v = .bool b := by
  cases h with | one _ _ h => cases h with | pure _ _ h _ => cases h with | bool => rfl
theorem AVC.str_inv {b : ByteArray} {v : Value} (h : AVC E st (.one (.str b)) v) : v = .string b := by
  cases h with | one _ _ h => cases h with | pure _ _ h _ => cases h with | str => rfl
theorem AVC.agg_inv {cs : List Cell} {v : Value} (h : AVC E st (.agg cs) v) : ∃ vs, v = .agg vs ∧ vs.size = cs.length ∧ ∀ (i : Nat) (c : Cell), cs[i]? = some c → CC E st c (vs.getD i undef) := by
  cases h with | agg _ vs hs h => exact ⟨vs, rfl, hs, h⟩
theorem AVC.tup_inv {xs : List AV} {v : Value} (h : AVC E st (.tup xs) v) : ∃ vs, v = .tuple vs ∧ vs.size = xs.length ∧ ∀ (i : Nat) (x : AV), xs[i]? = some x → AVC E st x (vs.getD i undef) := by
  cases h with | tup _ vs hs h => exact ⟨vs, rfl, hs, h⟩
theorem AVC.slice_inv {tok : Tok} {e : Nat} {rows : List (List Cell)} {v : Value} (h : AVC E st (.one (.slice tok e rows)) v) :
    ∃ A cap, v = .slice A rows.length cap ∧ rows.length ≤ cap ∧ CP E.F (.slice tok e rows) v ∧ TokOK E st tok rows v := by
  cases h with
  | one _ _ h => cases h with
    | pure _ _ h ht =>
      have ht := ht tok e rows rfl
      cases h with
      | slice _ _ _ A b off cap vs hA hcap hE hF hC hN => exact ⟨A, cap, rfl, hcap, .slice tok e rows A b off cap vs hA hcap hE hF hC hN, ht⟩
theorem AVC.own_inv {r g esz : Nat} {cp : Bool} {off len : Nat} {v : Value} (h : AVC E st (.one (.own r g esz cp off len)) v) :
    ∃ A cap, v = .slice A len cap ∧ r < st.length ∧ len ≤ cap ∧ (len ≠ 0 → A ≠ none) ∧
      (∀ t g' cells, st[r]? = some (.row t g' cells) → g ≤ g' ∧ (g = g' → ((len ≠ 0 ∨ off = 0) → A = some ⟨E.loc r, off, none⟩) ∧ (cp = true → off + cap * esz ≤ E.sz r))) ∧
      (∀ t g', st[r]? = some (.nrow t g') → g ≤ g' ∧ len = 0 ∧ A = none ∧ cap = 0) := by
  cases h with
  | one _ _ h => cases h with
    | pure _ _ h _ => cases h
    | own _ _ _ _ _ _ A cap hr hc hA h hn => exact ⟨A, cap, rfl, hr, hc, hA, h, hn⟩
theorem AVC.ptr_inv {r g off : Nat} {v : Value} (h : AVC E st (.one (.ptr r g off)) v) :
    ∃ a, v = .pointer (some a) ∧ r < st.length ∧ (∀ t g' cells, st[r]? = some (.row t g' cells) → g ≤ g' ∧ (g = g' → a = ⟨E.loc r, off, none⟩)) ∧ (∀ t g', st[r]? ≠ some (.nrow t g')) := by
  cases h with
  | one _ _ h => cases h with
    | pure _ _ h _ => cases h
    | ptr _ _ _ a hr h hn => exact ⟨a, rfl, hr, h, hn⟩
theorem AVC.map_inv {r : Nat} {v : Value} (h : AVC E st (.one (.map r)) v) : ∃ m, v = .map (some m) ∧ r < st.length ∧ ∀ kt et es, st[r]? = some (.map kt et es) → m = E.loc r := by
  cases h with
  | one _ _ h => cases h with
    | pure _ _ h _ => cases h
    | map _ m hr h => exact ⟨m, rfl, hr, h⟩
theorem AVC.func_inv {f : FuncId} {first captured : List Cell} {v : Value} (h : AVC E st (.one (.func f first captured)) v) : ∃ fs cs, v = .func (.func f) fs cs ∧ fs.size = first.length ∧ cs.size = captured.length ∧
    (∀ (i : Nat) (c : Cell), first[i]? = some c → CC E st c (fs.getD i undef)) ∧ (∀ (i : Nat) (c : Cell), captured[i]? = some c → CC E st c (cs.getD i undef)) := by
  cases h with
  | one _ _ h => cases h with
    | pure _ _ h _ => cases h
    | func _ _ _ fs cs h1 h2 c1 c2 => exact ⟨fs, cs, rfl, h1, h2, c1, c2⟩
theorem AVC.one_cells {x : Cell} {v : Value} (h : AVC E st (.one x) v) : CC E st x v ∧ v.oneCell' = true := by
  cases h with | one _ _ h => exact ⟨h, h.oneCell⟩

/-- The cells of a value. -/
theorem AVC.cells_inv {x : AV} {cs : List Cell} {v : Value} (h : AVC E st x v) (hc : x.cells = some cs) : v.cells.size = cs.length ∧ ∀ (i : Nat) (c : Cell), cs[i]? = some c → CC E st c (v.cells.getD i undef) := by
  cases x with
  | any => simp [AV.cells] at hc
  | tup _ => simp [AV.cells] at hc
  | one c =>
    simp [AV.cells] at hc; subst hc
    obtain ⟨h1, h2⟩ := h.one_cells
    rw [cells_of_oneCell h2]
    refine ⟨rfl, fun i c' hi => ?_⟩
    cases i with
    | zero => simp at hi; subst hi; exact h1
    | succ i => simp at hi
  | agg cs' =>
    simp [AV.cells] at hc; subst hc
    obtain ⟨vs, rfl, hs, hh⟩ := h.agg_inv
    exact ⟨hs, hh⟩

section
variable {wb : Nat} {callf : FuncId → List AV → St → Option (AV × St)} {av : AV} {st' : St}
theorem exec_val {v : AV} (h : (Plan.val v).exec wb callf st = some (av, st')) : av = v ∧ st' = st := by
  simp only [Plan.exec, Option.some.injEq, Prod.mk.injEq] at h; exact ⟨h.1.symm, h.2.symm⟩
theorem exec_rd {r : Nat} {k : Res → Option AV} (h : (Plan.rd r k).exec wb callf st = some (av, st')) : ∃ x, st[r]? = some x ∧ k x = some av ∧ st' = st := by
  simp only [Plan.exec] at h
  obtain ⟨x, hx, h⟩ := Option.bind_eq_some_iff.1 h
  obtain ⟨v, hv, h⟩ := Option.map_eq_some_iff.1 h
  simp only [Prod.mk.injEq] at h
  obtain ⟨rfl, rfl⟩ := h
  exact ⟨x, hx, hv, rfl⟩
theorem exec_wr {r : Nat} {k : Res → Option (AV × Res)} (h : (Plan.wr r k).exec wb callf st = some (av, st')) : ∃ x x', wb ≤ r ∧ st[r]? = some x ∧ k x = some (av, x') ∧ st' = st.set r x' := by
  simp only [Plan.exec] at h
  split at h
  · rename_i hwb
    obtain ⟨x, hx, h⟩ := Option.bind_eq_some_iff.1 h
    obtain ⟨⟨v, x'⟩, hv, h⟩ := Option.map_eq_some_iff.1 h
    simp only [Prod.mk.injEq] at h
    obtain ⟨rfl, rfl⟩ := h
    exact ⟨x, x', hwb, hx, hv, rfl⟩
  · exact absurd h (by simp)
theorem exec_new {xs : Nat → List Res} {k : Nat → AV} (h : (Plan.new xs k).exec wb callf st = some (av, st')) : av = k st.length ∧ st' = st ++ xs st.length := by
  simp only [Plan.exec, Option.some.injEq, Prod.mk.injEq] at h; exact ⟨h.1.symm, h.2.symm⟩
theorem exec_fail (h : Plan.fail.exec wb callf st = some (av, st')) : False := by simp [Plan.exec] at h
theorem exec_opt {o : Option AV} (h : (Plan.ofOpt o).exec wb callf st = some (av, st')) : o = some av ∧ st' = st := by
  cases o with
  | none => exact (exec_fail h).elim
  | some v => obtain ⟨rfl, rfl⟩ := exec_val h; exact ⟨rfl, rfl⟩
end

theorem loadPlan_sound {t : TypeId} {x : AV} {v : Value} {wb : Nat} {callf : FuncId → List AV → St → Option (AV × St)} {av : AV} {st' : St} (hty : ∀ t i, c.ty t = some i → TyOK P t i) (hW : WS c E st w) (hx : AVC E st x v)
    (he : (loadPlan c t x).exec wb callf st = some (av, st')) : st' = st ∧ ∃ y, (Instr.loadAt t v).run P w = .ok y w ∧ AVC E st av y := by
  unfold loadPlan at he
  split at he
  · rename_i r g off
    obtain ⟨a, rfl, hr, h1, _⟩ := hx.ptr_inv
    obtain ⟨res, hst, hk, rfl⟩ := exec_rd he
    cases res with
    | row t' g' cells =>
      simp only at hk
      split at hk
      · rename_i hg
        subst hg
        split at hk
        · rename_i hle
          have ha := (h1 t' g cells hst).2 rfl
          subst ha
          obtain ⟨cs, b1, b2, b3, b4, b5⟩ := hW.row r t' g cells hst
          have hm : Mem E st' w (E.loc r) 0 cells := ⟨fun j => cs.getD j undef, fun j y hj => ⟨by
            have hlt : j < cs.size := by have := (List.getElem?_eq_some_iff.1 hj).1; omega
            simp [World.cell?, b1, hlt], b4 j y hj⟩⟩
          have hm' := hm.drop (n := off)
          simp only [Nat.zero_add] at hm'
          obtain ⟨y, hy, hy2⟩ := readCells_run hty hm' hk
          exact ⟨rfl, y, by simp [Instr.loadAt, Instr.sureAddr, hy], hy2⟩
        · exact absurd hk (by simp)
      · exact absurd hk (by simp)
    | _ => exact absurd hk (by simp)
  · rename_i cells
    obtain ⟨b, o, rfl, hm, _⟩ := fp_mem hW hx.one_cells.1
    obtain ⟨hrd, rfl⟩ := exec_opt he
    obtain ⟨z, hz, hz2⟩ := readCells_run hty hm hrd
    exact ⟨rfl, z, by simp [Instr.loadAt, Instr.sureAddr, hz], hz2⟩
  · exact (exec_fail he).elim

theorem putCells_spec : ∀ (o : Nat) (vs cells cells' : List Cell), putCells o vs cells = some cells' → o + vs.length ≤ cells.length ∧ cells' = cells.take o ++ vs ++ cells.drop (o + vs.length)
  | 0, [], cells, cells', h => by simp [putCells] at h; subst h; simp
  | 0, v :: vs, [], cells', h => by simp [putCells] at h
  | 0, v :: vs, _ :: cells, cells', h => by
    simp [putCells] at h
    obtain ⟨l, h, rfl⟩ := h
    obtain ⟨h1, h2⟩ := putCells_spec 0 vs cells l h
    simp at h1 h2
    refine ⟨by simp; omega, ?_⟩
    rw [h2]; simp
  | o + 1, vs, [], cells', h => by simp [putCells] at h
  | o + 1, vs, x :: cells, cells', h => by
    simp [putCells] at h
    obtain ⟨l, h, rfl⟩ := h
    obtain ⟨h1, h2⟩ := putCells_spec o vs cells l h
    refine ⟨by simp; omega, ?_⟩
    rw [h2]
    simp [show o + 1 + vs.length = (o + vs.length) + 1 by omega]

/-- Cells put among others, in both worlds alike. -/
theorem splice_cc {o : Nat} {vs cells : List Cell} {us cs : Array Value} (hu : us.size = vs.length) (h1 : o + vs.length ≤ cells.length) (h2 : cells.length ≤ cs.size)
    (hv : ∀ (i : Nat) (x : Cell), vs[i]? = some x → CC E st x (us.getD i undef)) (hc : ∀ (i : Nat) (x : Cell), cells[i]? = some x → CC E st x (cs.getD i undef)) :
    ∀ (i : Nat) (x : Cell), (cells.take o ++ vs ++ cells.drop (o + vs.length))[i]? = some x → CC E st x ((cs.toList.take o ++ us.toList ++ cs.toList.drop (o + us.toList.length)).toArray.getD i undef) := by
  intro i x hi
  have hto : (cells.take o).length = o := by simp; omega
  have htc : (cs.toList.take o).length = o := by simp; omega
  have hul : us.toList.length = vs.length := by simpa using hu
  have hget : ∀ j, (cs.toList.take o ++ us.toList ++ cs.toList.drop (o + us.toList.length)).toArray.getD j undef = ((cs.toList.take o ++ us.toList ++ cs.toList.drop (o + us.toList.length))[j]?).getD undef := by
    intro j; simp [Array.getD_eq_getD_getElem?]
  rw [hget]
  by_cases hlt : i < o
  · rw [List.append_assoc, List.getElem?_append_left (by omega), List.getElem?_take_of_lt hlt] at hi
    rw [List.append_assoc, List.getElem?_append_left (by omega), List.getElem?_take_of_lt hlt]
    have := hc i x hi
    simpa [Array.getD_eq_getD_getElem?] using this
  · by_cases hlt2 : i < o + vs.length
    · rw [List.append_assoc, List.getElem?_append_right (by omega), List.getElem?_append_left (by omega), hto] at hi
      rw [List.append_assoc, List.getElem?_append_right (by omega), List.getElem?_append_left (by omega), htc]
      have := hv (i - o) x hi
      simpa [Array.getD_eq_getD_getElem?] using this
    · rw [List.append_assoc, List.getElem?_append_right (by omega), List.getElem?_append_right (by omega), hto, List.getElem?_drop] at hi
      rw [List.append_assoc, List.getElem?_append_right (by omega), List.getElem?_append_right (by omega), htc, List.getElem?_drop, hul]
      rw [show o + vs.length + (i - o - vs.length) = i by omega] at hi ⊢
      have := hc i x hi
      simpa [Array.getD_eq_getD_getElem?] using this

theorem storePlan_sound {t : TypeId} {x y : AV} {v u : Value} {wb : Nat} {callf : FuncId → List AV → St → Option (AV × St)} {av : AV} {st' : St} (hty : ∀ t i, c.ty t = some i → TyOK P t i) (hW : WS c E st w) (hx : AVC E st x v) (hy : AVC E st y u)
    (he : (storePlan c t x y).exec wb callf st = some (av, st')) : av = .any ∧ ∃ w' E', (Instr.storeAt t v u).run P w = .ok () w' ∧ Step c E st w E' st' w' := by
  unfold storePlan at he
  split at he
  · rename_i r g off vs n hvs hn
    obtain ⟨a, rfl, hr, h1, _⟩ := hx.ptr_inv
    split at he
    · rename_i hlen
      obtain ⟨res, res', hwb, hst, hk, rfl⟩ := exec_wr he
      cases res with
      | row t' g' cells =>
        simp only at hk
        split at hk
        · rename_i hg
          subst hg
          obtain ⟨cells', hput, hk⟩ := Option.map_eq_some_iff.1 hk
          simp only [Prod.mk.injEq] at hk
          obtain ⟨rfl, rfl⟩ := hk
          have ha := (h1 t' g cells hst).2 rfl
          subst ha
          obtain ⟨cs, b1, b2, b3, b4, b5⟩ := hW.row r t' g cells hst
          obtain ⟨p1, p2⟩ := putCells_spec _ _ _ _ hput
          obtain ⟨u1, u2⟩ := hy.cells_inv hvs
          simp only [Cfg.size] at hn
          obtain ⟨i, hi, hin⟩ := Option.map_eq_some_iff.1 hn
          have ht := hty t i hi
          have hone : ∀ z ∈ u.cells.toList, z.oneCell' = true := by
            intro z hz
            obtain ⟨j, hj⟩ := List.getElem?_of_mem hz
            have hj2 : j < vs.length := by have := (List.getElem?_eq_some_iff.1 hj).1; simp at this; omega
            have := (u2 j _ (List.getElem?_eq_getElem hj2)).oneCell
            have hz2 : u.cells.getD j undef = z := by
              rw [Array.getElem?_toList] at hj
              simp [Array.getD_eq_getD_getElem?, hj]
            rwa [hz2] at this
          have hl2 : u.cells.toList.length = vs.length := by simpa using u1
          have hrun := run_storeCells_at P (E.loc r) off t' u.cells.toList 0 cs w b1 (by omega) hone
          simp only [Nat.add_zero] at hrun
          subst p2
          refine ⟨rfl, w.setRow (E.loc r) (cs.toList.take off ++ u.cells.toList ++ cs.toList.drop (off + u.cells.toList.length)).toArray, E, ?_, ?_⟩
          · simp only [Instr.storeAt, Instr.sureAddr, storeVar, pure_bind, Sem.run_bind, sizeOf_run ht, Result.andThen_ok]
            rw [if_neg (by rw [u1]; omega)]
            simpa using hrun
          · have hS := Step.setRow hW hst g (Nat.le_refl _) (cells.take off ++ vs ++ cells.drop (off + vs.length)) (cs.toList.take off ++ u.cells.toList ++ cs.toList.drop (off + u.cells.toList.length)).toArray
              (by simp; omega) (by simp; omega) ?_
            · exact hS
            · intro i x hi
              have hE : Ext w.heap.size (live E st) E st E (st.set r (.row t' g (cells.take off ++ vs ++ cells.drop (off + vs.length)))) :=
                Ext.updated _ hst (Fz.le_refl _) (fun _ _ _ _ => rfl) (fun _ _ => ⟨rfl, rfl, rfl⟩) ⟨t', g, _, rfl, Nat.le_refl _, fun _ => ⟨rfl, rfl⟩⟩ (fun b hb => .inr ⟨r, by
                  simp only [blk, get_set_eq hst] at hb; simp only [blk, hst]; exact hb⟩)
              exact (splice_cc u1 p1 b3 u2 b4 i x hi).ext hE
        · exact absurd hk (by simp)
      | _ => exact absurd hk (by simp)
    · exact (exec_fail he).elim
  · exact (exec_fail he).elim

end Go.AI
