/- A seat's table, checked. -/
import Derived.Test.YtacfehecjjoffaaDoorAiRun2
import Derived.ChangeKeysEq
set_option linter.unusedVariables false
set_option linter.unusedSimpArgs false
namespace Go.AI
open Go

def scalarB (P : Program) (t : TypeId) (z : Cell) : Bool :=
  match P.underlying t, z with
  | some (.int k), .int k' _ => k == k'
  | some .bool, .bool _ => true
  | _, _ => false

def fieldsFlat (P : Program) : Nat → List Field → List Cell → Bool
  | _, [], [] => true
  | k, f :: fs, z :: zs => f.offset == k && f.name != "_" && scalarB P f.type z && fieldsFlat P (k + 1) fs zs
  | _, _, _ => false

def flatB (P : Program) (t : TypeId) (zs : List Cell) : Bool :=
  !P.eqGuardType P.depth t &&
  match P.underlying t with
  | some (.struct fs) => !P.stoodInHeld t && fieldsFlat P 0 fs.toList zs
  | some (.array n e) => zs.length == n && zs.all (scalarB P e) && (match P.info? e with | some i => i.size == 1 | none => false)
  | _ => false

section
variable {P : Program} {w : World}

theorem scalar_part {t : TypeId} {z : Cell} (h : scalarB P t z = true) (vs : Array Value) {o : Nat} (ho : o < vs.size) : (part t vs o).run P w = .ok (vs.getD o undef) w := by
  unfold scalarB at h
  have ha : (isAgg t).run P w = .ok false w := by
    unfold isAgg
    cases hu : P.underlying t with
    | none => rw [hu] at h; simp at h
    | some d =>
      rw [hu] at h
      simp only [Sem.run_bind, run_underlying hu, Result.andThen_ok]
      cases d <;> first | rfl | (simp at h; done)
  unfold part
  simp [ha, ho, Array.getD_eq_getD_getElem?]

/-- Alike cells of one kind. -/
theorem scalar_eq {t : TypeId} {z x y : Cell} {u v : Value} {a b zs : List Cell} {r : Bool} (h : scalarB P t z = true) (d : Nat) (hk : kindsOK (z :: zs) (x :: a) = true) (hc : eqCells (x :: a) (y :: b) = some r)
    (hx : CP (fun _ _ => none) x u) (hy : CP (fun _ _ => none) y v) : ∃ e r', (Op.equalIn (d + 1) t u v).run P w = .ok e w ∧ eqCells a b = some r' ∧ kindsOK zs a = true ∧ r = (e && r') := by
  cases x with
  | int k m =>
    cases y with
    | int k' n =>
      simp only [eqCells] at hc
      split at hc
      · rename_i hkk
        subst hkk
        obtain ⟨r', h1, rfl⟩ := Option.map_eq_some_iff.1 hc
        obtain ⟨kz, nz, rfl, hk2⟩ : ∃ kz nz, z = .int kz nz ∧ (kz = k ∧ kindsOK zs a = true) := by
          cases z <;> simp [kindsOK] at hk
          exact ⟨_, _, rfl, hk⟩
        cases hx; cases hy
        unfold scalarB at h
        cases hu : P.underlying t with
        | none => rw [hu] at h; simp at h
        | some ds =>
          rw [hu] at h
          cases ds <;> simp at h
          exact ⟨_, r', run_equalIn_int w d t k _ m n hu, h1, hk2.2, rfl⟩
      · simp at hc
    | _ => simp [eqCells] at hc
  | bool m =>
    cases y with
    | bool n =>
      simp only [eqCells] at hc
      obtain ⟨r', h1, rfl⟩ := Option.map_eq_some_iff.1 hc
      obtain ⟨nz, rfl, hk2⟩ : ∃ nz, z = .bool nz ∧ kindsOK zs a = true := by
        cases z <;> simp [kindsOK] at hk
        exact ⟨_, rfl, hk⟩
      cases hx; cases hy
      unfold scalarB at h
      cases hu : P.underlying t with
      | none => rw [hu] at h; simp at h
      | some ds =>
        rw [hu] at h
        cases ds <;> simp at h
        exact ⟨_, r', run_equalIn_bool w d t m n hu, h1, hk2, rfl⟩
    | _ => simp [eqCells] at hc
  | _ => cases y <;> simp [eqCells] at hc

theorem fields_eq (d : Nat) {xs ys : Array Value} : ∀ (fs : List Field) (zs a b : List Cell) (k : Nat) (r : Bool), fieldsFlat P k fs zs = true → kindsOK zs a = true → eqCells a b = some r → k + a.length = xs.size → k + b.length = ys.size →
    (∀ (i : Nat) (u : Cell), a[i]? = some u → CP (fun _ _ => none) u (xs.getD (k + i) undef)) → (∀ (i : Nat) (u : Cell), b[i]? = some u → CP (fun _ _ => none) u (ys.getD (k + i) undef)) →
    (Op.eqFields (d + 1) xs ys fs).run P w = .ok r w
  | [], zs, a, b, k, r, hf, hk, hc, _, _, _, _ => by
    cases zs with
    | cons z zs => simp [fieldsFlat] at hf
    | nil =>
      cases a with
      | nil =>
        cases b with
        | nil => simp only [eqCells, Option.some.injEq] at hc; subst hc; simp [Op.eqFields]
        | cons => simp [eqCells] at hc
      | cons x a => cases x <;> simp [kindsOK] at hk
  | f :: fs, [], a, b, k, r, hf, _, _, _, _, _, _ => by simp [fieldsFlat] at hf
  | f :: fs, z :: zs, [], b, k, r, hf, hk, _, _, _, _, _ => by cases z <;> simp [kindsOK] at hk
  | f :: fs, z :: zs, x :: a, [], k, r, hf, hk, hc, _, _, _, _ => by cases x <;> simp [eqCells] at hc
  | f :: fs, z :: zs, x :: a, y :: b, k, r, hf, hk, hc, hl1, hl2, h1, h2 => by
    simp only [fieldsFlat, Bool.and_eq_true, beq_iff_eq, bne_iff_ne, ne_eq] at hf
    obtain ⟨⟨⟨f1, f2⟩, f3⟩, f4⟩ := hf
    simp only [List.length_cons] at hl1 hl2
    have hx := h1 0 x (by simp)
    have hy := h2 0 y (by simp)
    simp only [Nat.add_zero] at hx hy
    obtain ⟨e, r', e1, e2, e3, rfl⟩ := scalar_eq (P := P) (w := w) f3 d hk hc hx hy
    have ih := fields_eq d (xs := xs) (ys := ys) fs zs a b (k + 1) r' f4 e3 e2 (by omega) (by omega) (fun i u hi => by have := h1 (i + 1) u (by simpa using hi); rwa [show k + 1 + i = k + (i + 1) by omega]) (fun i u hi => by have := h2 (i + 1) u (by simpa using hi); rwa [show k + 1 + i = k + (i + 1) by omega])
    have p1 := scalar_part (P := P) (w := w) f3 xs (o := k) (by omega)
    have p2 := scalar_part (P := P) (w := w) f3 ys (o := k) (by omega)
    simp only [Op.eqFields, f2, not_false_eq_true, ne_eq, if_true, f1, Sem.run_bind, p1, p2, e1, Result.andThen_ok]
    cases e with
    | true => simpa using ih
    | false => simp

theorem items_eq (d : Nat) {t : TypeId} {xs ys : Array Value} : ∀ (zs a b : List Cell) (k : Nat) (r : Bool), zs.all (scalarB P t) = true → kindsOK zs a = true → eqCells a b = some r → k + a.length = xs.size → k + b.length = ys.size →
    (∀ (i : Nat) (u : Cell), a[i]? = some u → CP (fun _ _ => none) u (xs.getD (k + i) undef)) → (∀ (i : Nat) (u : Cell), b[i]? = some u → CP (fun _ _ => none) u (ys.getD (k + i) undef)) →
    (Op.eqItems (d + 1) t 1 xs ys (List.range' k zs.length)).run P w = .ok r w
  | [], a, b, k, r, hf, hk, hc, _, _, _, _ => by
    cases a with
    | nil =>
      cases b with
      | nil => simp only [eqCells, Option.some.injEq] at hc; subst hc; simp [Op.eqItems]
      | cons => simp [eqCells] at hc
    | cons x a => cases x <;> simp [kindsOK] at hk
  | z :: zs, [], b, k, r, hf, hk, _, _, _, _, _ => by cases z <;> simp [kindsOK] at hk
  | z :: zs, x :: a, [], k, r, hf, hk, hc, _, _, _, _ => by cases x <;> simp [eqCells] at hc
  | z :: zs, x :: a, y :: b, k, r, hf, hk, hc, hl1, hl2, h1, h2 => by
    simp only [List.all_cons, Bool.and_eq_true] at hf
    obtain ⟨f3, f4⟩ := hf
    simp only [List.length_cons] at hl1 hl2
    have hx := h1 0 x (by simp)
    have hy := h2 0 y (by simp)
    simp only [Nat.add_zero] at hx hy
    obtain ⟨e, r', e1, e2, e3, rfl⟩ := scalar_eq (P := P) (w := w) f3 d hk hc hx hy
    have ih := items_eq d (t := t) (xs := xs) (ys := ys) zs a b (k + 1) r' f4 e3 e2 (by omega) (by omega) (fun i u hi => by have := h1 (i + 1) u (by simpa using hi); rwa [show k + 1 + i = k + (i + 1) by omega]) (fun i u hi => by have := h2 (i + 1) u (by simpa using hi); rwa [show k + 1 + i = k + (i + 1) by omega])
    have p1 := scalar_part (P := P) (w := w) f3 xs (o := k) (by omega)
    have p2 := scalar_part (P := P) (w := w) f3 ys (o := k) (by omega)
    simp only [List.length_cons, List.range'_succ, Op.eqItems, Nat.mul_one, Sem.run_bind, p1, p2, e1, Result.andThen_ok]
    cases e with
    | true => simpa using ih
    | false => simp

theorem kinds_length : ∀ (zs a : List Cell), kindsOK zs a = true → a.length = zs.length
  | [], [], _ => rfl
  | z :: zs, [], h => by cases z <;> simp [kindsOK] at h
  | [], x :: a, h => by cases x <;> simp [kindsOK] at h
  | z :: zs, x :: a, h => by
    have : kindsOK zs a = true := by
      cases z <;> cases x <;> simp [kindsOK] at h
      · exact h.2
      · exact h
    simp [kinds_length zs a this]

theorem flatB_sound {t : TypeId} {zs : List Cell} (h : flatB P t zs = true) : EqOK P t zs := by
  intro op x y a b xs ys r w hop hk hc hs1 hs2 hx hy
  simp only [flatB, Bool.and_eq_true, Bool.not_eq_true'] at h
  obtain ⟨hg, h⟩ := h
  refine ⟨run_eqGuard_agg w op t x y xs ys hg, ?_⟩
  have key : (Op.equalIn 10000 t (.agg xs) (.agg ys)).run P w = .ok r w := by
    split at h
    · rename_i fs hu
      simp only [Bool.and_eq_true, Bool.not_eq_true'] at h
      have hfo : P.fieldsOf t = fs := by simp [Program.fieldsOf, hu]
      rw [run_equalIn_struct w 9999 t xs ys (by rw [hfo]; exact hu) h.1, hfo]
      exact fields_eq 9998 fs.toList zs a b 0 r h.2 hk hc (by omega) (by omega) (by simpa using hx) (by simpa using hy)
    · rename_i n e hu
      simp only [Bool.and_eq_true, beq_iff_eq] at h
      obtain ⟨⟨h1, h2⟩, h3⟩ := h
      split at h3
      · rename_i i hi
        rw [run_equalIn_array w 9999 xs ys hu hi]
        have hce : P.cellsOf e = 1 := by simp [Program.cellsOf, hi]; simpa using h3
        rw [hce, List.range_eq_range', ← h1]
        exact items_eq 9998 zs a b 0 r h2 hk hc (by omega) (by omega) (by simpa using hx) (by simpa using hy)
      · simp at h3
    · simp at h
  rcases hop with rfl | rfl
  · rw [run_eql_struct, key]; simp
  · rw [run_neq_struct, key]; simp
end

/-! the checker -/
def descB (P : Program) (d : TypeDesc) : Ty → Bool
  | .int k => match d with | .int k' => k == k' | _ => false
  | .bool => match d with | .bool => true | _ => false
  | .string => match d with | .string => true | _ => false
  | .slice e => match d with | .slice e' => e == e' | _ => false
  | .array n e => match d with | .array n' e' => n == n' && e == e' | _ => false
  | .struct fs => match d with
    | .struct fields => (fs == fields.toList.map fun f => (f.offset, f.type)) && fields.toList.all fun f => (P.info? f.type).isSome
    | _ => false
  | .map k e => match d with | .map k' e' => k == k' && e == e' | _ => false
  | .other => match d with | .struct _ | .array _ _ => false | _ => true

def zerosB : List Cell → List Value → Bool
  | [], [] => true
  | x :: l, v :: m => zeroMatch x v && zerosB l m
  | _, _ => false
def tyB (P : Program) (t : TypeId) (i : TyInfo) : Bool :=
  (match P.info? t with
  | some info => info.size == i.size && info.bytes == i.bytes && i.zero.length == i.size && (match info.zero with
    | some z => zerosB i.zero z.cells.toList && (if aggTy i.ty then (match z with | .agg _ => true | _ => false) else z.oneCell')
    | none => false)
  | none => false) &&
  (match P.underlying t with
  | some d => descB P d i.ty
  | none => false) &&
  (!i.eqFlat || flatB P t i.zero)

theorem zerosB_spec : ∀ (l : List Cell) (m : List Value), zerosB l m = true → m.length = l.length ∧ ∀ (j : Nat) (x : Cell), l[j]? = some x → zeroMatch x (m.getD j undef) = true
  | [], [], _ => ⟨rfl, fun j x h => by simp at h⟩
  | [], _ :: _, h => by simp [zerosB] at h
  | _ :: _, [], h => by simp [zerosB] at h
  | x :: l, v :: m, h => by
    simp only [zerosB, Bool.and_eq_true] at h
    obtain ⟨h1, h2⟩ := zerosB_spec l m h.2
    refine ⟨by simp [h1], fun j y hj => ?_⟩
    cases j with
    | zero => simp at hj; subst hj; simpa using h.1
    | succ j => simpa using h2 j y (by simpa using hj)

theorem descB_sound {P : Program} {d : TypeDesc} {ty : Ty} (h : descB P d ty = true) : descOK P d ty := by
  cases ty with
  | int k => cases d <;> simp [descB] at h; simp [descOK, h]
  | bool => cases d <;> simp [descB] at h; rfl
  | string => cases d <;> simp [descB] at h; rfl
  | slice e => cases d <;> simp [descB] at h; simp [descOK, h]
  | array n e => cases d <;> simp [descB] at h; simp [descOK, h]
  | struct fs =>
    cases d <;> simp [descB] at h
    rename_i fields
    obtain ⟨h1, h2⟩ := h
    refine ⟨fields, rfl, fun i o ft hi => ?_, fun f hf => by
      obtain ⟨j, hj, rfl⟩ := List.getElem_of_mem hf
      simpa using h2 j (by simpa using hj)⟩
    rw [h1, List.getElem?_map] at hi
    obtain ⟨f, hf, he⟩ := Option.map_eq_some_iff.1 hi
    simp only [Prod.mk.injEq] at he
    exact ⟨f, by simpa using hf, he.1, he.2⟩
  | map k e => cases d <;> simp [descB] at h; simp [descOK, h]
  | other => cases d <;> simp [descB] at h <;> simp [descOK]

theorem tyB_sound {P : Program} {t : TypeId} {i : TyInfo} (h : tyB P t i = true) : TyOK P t i := by
  simp only [tyB, Bool.and_eq_true] at h
  obtain ⟨⟨h1, h2⟩, h3⟩ := h
  split at h1
  · rename_i info hi
    simp only [Bool.and_eq_true, beq_iff_eq] at h1
    obtain ⟨⟨⟨a1, a2⟩, a3⟩, a4⟩ := h1
    split at a4
    · rename_i z hz
      simp only [Bool.and_eq_true] at a4
      obtain ⟨b1, b2⟩ := zerosB_spec _ _ a4.1
      split at h2
      · rename_i d hd
        refine ⟨⟨info, z, hi, a1, a2, hz, by simpa using b1, a3, fun j x hj => by have := b2 j x hj; rw [List.getD_eq_getElem?_getD, Array.getElem?_toList, ← Array.getD_eq_getD_getElem?] at this; exact this, fun hagg => ?_, fun hagg => ?_⟩, ⟨d, hd, descB_sound h2⟩, fun hq => ?_⟩
        · have := a4.2
          rw [if_pos hagg] at this
          cases z <;> simp at this
          exact ⟨_, rfl⟩
        · have := a4.2
          rw [hagg] at this
          simpa using this
        · rw [hq] at h3
          exact flatB_sound (by simpa using h3)
      · simp at h2
    · simp at a4
  · simp at h1

/-- A function of the table against the program's. -/
def fnB (F : Func) : Bool := (F.name != "runtime.NumGoroutine") && (match F.body with | some code => drawsOK code | none => false)

def fnOf (F : Func) : FnInfo := ⟨F.ntmps, F.results.toList, F.body.getD .skip⟩
theorem fnB_sound {P : Program} {f : FuncId} {F : Func} (hf : P.funcs[f]? = some F) (h : fnB F = true) :
    ∃ fn, P.funcs[f]? = some fn ∧ fn.body = some (fnOf F).body ∧ fn.ntmps = (fnOf F).ntmps ∧ fn.results.toList = (fnOf F).results ∧ (fn.name == "runtime.NumGoroutine") = false ∧ drawsOK (fnOf F).body = true := by
  simp only [fnB, Bool.and_eq_true, bne_iff_ne, ne_eq] at h
  obtain ⟨h1, h2⟩ := h
  split at h2
  · rename_i code hb
    exact ⟨F, hf, by simp [fnOf, hb], rfl, rfl, by simpa using h1, by simpa [fnOf, hb] using h2⟩
  · simp at h2

theorem lookup_mem {α : Type} {f : Nat} {x : α} : ∀ (l : List (Nat × α)), l.lookup f = some x → (f, x) ∈ l
  | [], h => by simp at h
  | (k, y) :: l, h => by
    rw [List.lookup_cons] at h
    by_cases hk : f == k
    · rw [hk] at h
      simp only [Option.some.injEq] at h
      have := (beq_iff_eq).1 hk
      subst h; subst this
      exact List.mem_cons_self ..
    · simp only [hk] at h
      exact List.mem_cons_of_mem _ (lookup_mem l h)

end Go.AI
