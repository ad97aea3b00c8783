/- How the project's values are coded. -/
import Derived.Test.YtacfehecjjoffaaDoorAiSimp
set_option linter.unusedSimpArgs false
set_option linter.unusedVariables false
namespace Fil
open Go Go.AI
def iC (n : Int) : List Cell := [.int .i64 n]
def bC (b : Bool) : List Cell := [.bool b]
structure Lut where
  ins : List Int
  table : Int
  deriving Inhabited
structure Hold where
  d : Int
  init : Bool
  deriving Inhabited, DecidableEq
structure Net where
  ins : Int
  holds : List Hold
  luts : List Lut
  outs : List Int
structure Aig where
  ins : Int
  flops : List Hold
  ands : List (Int × Int)
  outs : List Int
def lC (t : Lut) : List Cell := [.slice .no 1 (t.ins.map iC), .int .u64 t.table]
def hC (h : Hold) : List Cell := [.int .i64 h.d, .bool h.init]
def pC (p : Int × Int) : List Cell := [.int .i64 p.1, .int .i64 p.2]
def vC (l : List Bool) : List Cell := [.slice .no 1 (l.map bC)]
def sI (l : List Int) : Cell := .slice .no 1 (l.map iC)
def sB (l : List Bool) : Cell := .slice .no 1 (l.map bC)
def sL (l : List Lut) : Cell := .slice .no 2 (l.map lC)
def sH (l : List Hold) : Cell := .slice .no 2 (l.map hC)
def sP (l : List (Int × Int)) : Cell := .slice .no 2 (l.map pC)
def sV (l : List (List Bool)) : Cell := .slice .no 1 (l.map vC)
def nC (n : Net) : List Cell := [.int .i64 n.ins, sH n.holds, sL n.luts, sI n.outs]
def gC (g : Aig) : List Cell := [.int .i64 g.ins, sH g.flops, sP g.ands, sI g.outs]
theorem iC_eq (n : Int) : iC n = [.int .i64 n] := rfl
theorem bC_eq (n : Bool) : bC n = [.bool n] := rfl
theorem lC_eq (t : Lut) : lC t = [.slice .no 1 (t.ins.map iC), .int .u64 t.table] := rfl
theorem hC_eq (h : Hold) : hC h = [.int .i64 h.d, .bool h.init] := rfl
theorem pC_eq (p : Int × Int) : pC p = [.int .i64 p.1, .int .i64 p.2] := rfl
theorem vC_eq (l : List Bool) : vC l = [.slice .no 1 (l.map bC)] := rfl
theorem nC_eq (n : Net) : nC n = [.int .i64 n.ins, .slice .no 2 (n.holds.map hC), .slice .no 2 (n.luts.map lC), .slice .no 1 (n.outs.map iC)] := rfl
theorem gC_eq (g : Aig) : gC g = [.int .i64 g.ins, .slice .no 2 (g.flops.map hC), .slice .no 2 (g.ands.map pC), .slice .no 1 (g.outs.map iC)] := rfl
theorem sI_eq (l : List Int) : sI l = .slice .no 1 (l.map iC) := rfl
theorem sB_eq (l : List Bool) : sB l = .slice .no 1 (l.map bC) := rfl
theorem snoc_iC (l : List Int) (n : Int) : l.map iC ++ [[Cell.int .i64 n]] = (l ++ [n]).map iC := by simp [iC]
theorem snoc_bC (l : List Bool) (n : Bool) : l.map bC ++ [[Cell.bool n]] = (l ++ [n]).map bC := by simp [bC]
theorem take_snoc {α : Type} [Inhabited α] (l : List α) (i : Nat) (h : i < l.length) : l.take i ++ [l.getD i default] = l.take (i + 1) := by
  rw [List.take_add_one, List.getD_eq_getElem?_getD]; simp [h]
theorem map_take_snoc {α β : Type} [Inhabited α] (f : α → β) (l : List α) (i : Nat) (h : i < l.length) : (l.take i).map f ++ [f (l.getD i default)] = (l.take (i + 1)).map f := by
  rw [← take_snoc l i h]; simp
theorem getD_mem {α : Type} [Inhabited α] (l : List α) (i : Nat) (h : i < l.length) : l.getD i default ∈ l := by
  rw [List.getD_eq_getElem?_getD]; simp [h]
theorem drop_cons_getD {α : Type} [Inhabited α] (l : List α) (i : Nat) (h : i < l.length) : l.drop i = l.getD i default :: l.drop (i + 1) := by
  rw [List.getD_eq_getElem?_getD]; simp [h]
theorem len_take {α : Type} (l : List α) (i : Nat) (h : i ≤ l.length) : (l.take i).length = i := by simp; omega

/-! tables -/
def rowsV (n : Nat) : Int := 2 ^ (2 ^ min n 6) - 1
theorem rows_min : ∀ k : Nat, k ≤ 6 → IntKind.u64.wrap (1 * 2 ^ min k IntKind.u64.bits) = 2 ^ k ∧
    IntKind.u64.wrap (64 - 2 ^ k) = 64 - 2 ^ k ∧ ¬ (64 - 2 ^ k : Int) < 0 ∧ (18446744073709551615 : Int).fdiv (2 ^ min (64 - 2 ^ k : Int).toNat IntKind.u64.bits) = rowsV k := by decide
end Fil

/-! Rows as one run of cells. -/
namespace Fil
open Go Go.AI
def fl {α : Type} (enc : α → List Cell) (l : List α) : List Cell := (l.map enc).flatten
variable {α : Type} {enc : α → List Cell} {s : Nat}
theorem fl_nil : fl enc [] = [] := rfl
theorem fl_cons (x : α) (l : List α) : fl enc (x :: l) = enc x ++ fl enc l := by simp [fl]
theorem fl_app (l m : List α) : fl enc (l ++ m) = fl enc l ++ fl enc m := by simp [fl]
theorem fl_len (h : ∀ x, (enc x).length = s) : ∀ l : List α, (fl enc l).length = l.length * s
  | [] => by simp [fl]
  | x :: l => by rw [fl_cons, List.length_append, h, fl_len h l, List.length_cons, Nat.add_mul]; omega
theorem fl_take (h : ∀ x, (enc x).length = s) : ∀ (n : Nat) (l : List α), (fl enc l).take (n * s) = fl enc (l.take n)
  | 0, l => by simp [fl]
  | n + 1, [] => by simp [fl]
  | n + 1, x :: l => by
    rw [fl_cons, Nat.add_mul, Nat.one_mul, Nat.add_comm, ← h x, List.take_length_add_append, h x, fl_take h n l, List.take_succ_cons, fl_cons]
theorem fl_drop (h : ∀ x, (enc x).length = s) : ∀ (n : Nat) (l : List α), (fl enc l).drop (n * s) = fl enc (l.drop n)
  | 0, l => by simp
  | n + 1, [] => by simp [fl]
  | n + 1, x :: l => by
    rw [fl_cons, Nat.add_mul, Nat.one_mul, Nat.add_comm, ← h x, List.drop_length_add_append, h x, fl_drop h n l, List.drop_succ_cons]
theorem fl_chunk (h : ∀ x, (enc x).length = s) : ∀ (l : List α), chunk s l.length (fl enc l) = l.map enc
  | [] => rfl
  | x :: l => by
    have h1 : (fl enc (x :: l)).take s = enc x := by rw [fl_cons, ← h x]; simp
    have h2 : (fl enc (x :: l)).drop s = fl enc l := by rw [fl_cons, ← h x]; simp
    simp only [List.length_cons, chunk, h1, h2, List.map_cons, fl_chunk h l]
theorem freezeList_id {f : Cell → Option Cell} : ∀ (l : List Cell), (∀ x ∈ l, f x = some x) → freezeList f l = some l
  | [], _ => rfl
  | x :: l, h => by
    rw [freezeList, h x (by simp), freezeList_id l fun y hy => h y (by simp [hy])]
theorem fl_mem {x : Cell} {l : List α} (hx : x ∈ fl enc l) : ∃ a ∈ l, x ∈ enc a := by
  simp only [fl, List.mem_flatten, List.mem_map] at hx
  obtain ⟨_, ⟨a, ha, rfl⟩, h⟩ := hx
  exact ⟨a, ha, h⟩
/-- Coded as values alone. -/
def Plainly (enc : α → List Cell) : Prop := ∀ a, ∀ x ∈ enc a, x.pure1 = some x ∧ (∀ n, x.refs n = true) ∧ ∀ r g s cp off len, x ≠ .own r g s cp off len
theorem fl_frz (h : Plainly enc) (ok : Nat → Bool) (st : St) (n : Nat) (l : List α) : freezeCells ok st n (fl enc l) = some (fl enc l) :=
  freezeList_id _ fun x hx => by
    obtain ⟨a, _, ha⟩ := fl_mem hx
    obtain ⟨h1, _, h2⟩ := h a x ha
    cases n with
    | zero => exact h1
    | succ n =>
      cases x <;> first | exact h1 | (exact absurd rfl (h2 _ _ _ _ _ _))
theorem fl_frzl (h : Plainly enc) (ok : Nat → Bool) (st : St) (n : Nat) (l : List α) : freezeList (freezeCell ok st n) (fl enc l) = some (fl enc l) := fl_frz h ok st n l
theorem fl_refs (h : Plainly enc) (n : Nat) (l : List α) : (fl enc l).all (·.refs n) = true := by
  rw [List.all_eq_true]
  intro x hx
  obtain ⟨a, _, ha⟩ := fl_mem hx
  exact (h a x ha).2.1 n
theorem fl_pure (h : Plainly enc) : ∀ (l : List Cell), (∀ x ∈ l, x.pure1 = some x) → purify l = some l
  | [], _ => rfl
  | x :: l, hl => by rw [purify, hl x (by simp), fl_pure h l fun y hy => hl y (by simp [hy])]
theorem bC_plain : Plainly bC := fun a x hx => by
  simp only [bC, List.mem_singleton] at hx; subst hx; exact ⟨rfl, fun _ => rfl, nofun⟩
theorem iC_plain : Plainly iC := fun a x hx => by
  simp only [iC, List.mem_singleton] at hx; subst hx; exact ⟨rfl, fun _ => rfl, nofun⟩
theorem bC_len (x : Bool) : (bC x).length = 1 := rfl
theorem iC_len (x : Int) : (iC x).length = 1 := rfl
theorem lC_len (x : Lut) : (lC x).length = 2 := rfl
theorem hC_len (x : Hold) : (hC x).length = 2 := rfl
theorem lC_plain : Plainly lC := fun a x hx => by
  simp only [lC, List.mem_cons, List.not_mem_nil, or_false] at hx
  rcases hx with rfl | rfl <;> exact ⟨rfl, fun _ => rfl, nofun⟩
theorem hC_plain : Plainly hC := fun a x hx => by
  simp only [hC, List.mem_cons, List.not_mem_nil, or_false] at hx
  rcases hx with rfl | rfl <;> exact ⟨rfl, fun _ => rfl, nofun⟩
theorem rep_fl (n : Nat) (z : α) : (List.replicate n (enc z)).flatten = fl enc (List.replicate n z) := by simp [fl]
end Fil
