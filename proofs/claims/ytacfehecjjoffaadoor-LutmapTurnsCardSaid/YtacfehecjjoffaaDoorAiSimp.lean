/- Rules by which simp walks the abstract interpreter. -/
import Derived.Test.YtacfehecjjoffaaDoorAiWp
set_option linter.unusedVariables false
set_option maxRecDepth 100000
namespace Go.AI.W
open Go Go.AI
variable {c : Cfg} {f : FuncId} {nt wb rid i : Nat} {ops rest : List Oper} {K : List Eff → Fr → St → Prop} {fr : Fr} {st : St} {kd : Kind}


universe u in
/-- Nothing: but what it speaks of simp leaves alone. -/
inductive Tag {α : Sort u} (a : α) : Type
  | mk
/-- A plan, and its effect. -/
def XE (c : Cfg) (wb : Nat) (K : Eff → AV → St → Prop) (_ : Tag K) (st : St) (p : Plan) : Prop := XW c wb (K (p.eff c)) st p
def putK (nt : Nat) (fr : Fr) (d : Option Tmp) (v : AV) (K : Fr → Prop) (_ : Tag K) : Prop := match putFr nt fr d v with | some fr1 => K fr1 | none => False
def guardK (w : Option Bool) (A : Prop) (_ : Tag A) (B : Prop) (_ : Tag B) : Prop := match w with | none => False | some false => B | some true => A
def OT (c : Cfg) (f : FuncId) (nt wb rid : Nat) (ops : List Oper) (i : Nat) (rest : List Oper) (K : List Eff → Fr → St → Prop) (_ : Tag (ops, rest, K)) (fr : Fr) (st : St) : Prop := OW c f nt wb rid ops i rest K fr st
def CT (c : Cfg) (wb : Nat) (f : FuncId) (args : List AV) (K : AV → St → Prop) (_ : Tag K) (st : St) : Prop := CW c wb f args K st

theorem ow_start : OW c f nt wb rid ops i rest K fr st = OT c f nt wb rid ops i rest K .mk fr st := rfl
theorem ow_nil : OT c f nt wb rid ops i [] K .mk fr st = K [] fr st := rfl
theorem ow_cons {o : Oper} : OT c f nt wb rid ops i (o :: rest) K .mk fr st =
    guardK (wantedIn ops o fr) (XE c wb (fun e v st => putK nt fr o.dst v (fun fr => OT c f nt wb rid ops (i + 1) rest (fun es => K (e :: es)) .mk fr st) .mk) .mk st (opPlan c (c.kind f rid i) o fr)) .mk
      (putK nt fr o.dst .any (fun fr => OT c f nt wb rid ops (i + 1) rest (fun es => K (.none :: es)) .mk fr st) .mk) .mk := by
  conv => lhs; unfold OT OW
  unfold guardK putK XE OT
  cases wantedIn ops o fr with
  | none => rfl
  | some b => cases b <;> rfl
theorem guardK_t {A B : Prop} : guardK (some true) A .mk B .mk = A := rfl
theorem guardK_f {A B : Prop} : guardK (some false) A .mk B .mk = B := rfl
theorem wanted_none {d : Option Tmp} {op : Op} {t : TypeId} {p : String} {a : Array Edge} : wantedIn ops ⟨d, op, t, p, a, none⟩ fr = some true := rfl
def wantK (v : AV) (want : Bool) : Option Bool := match v with | .one (.bool b) => some (b == want) | _ => none
theorem wanted_some {d : Option Tmp} {op : Op} {t : TypeId} {p : String} {a : Array Edge} {j : Nat} {want : Bool} : wantedIn ops ⟨d, op, t, p, a, some (j, want)⟩ fr =
    match (ops[j]?).bind (·.dst) with | some d => wantK (fr.get d) want | none => none := rfl
theorem wantK_bool {b want : Bool} : wantK (.one (.bool b)) want = some (b == want) := rfl
theorem putK_none {v : AV} {K : Fr → Prop} : putK nt fr none v K .mk = K fr := rfl
theorem putK_some {d : Nat} {v : AV} {K : Fr → Prop} (h : d < nt) : putK nt fr (some d) v K .mk = K (fr.set d v) := by simp [putK, putFr, h]
theorem fset {t : Nat} {v : AV} : Fr.set fr t v = (t, v) :: fr := rfl
theorem get_nil {t : Nat} : Fr.get [] t = .any := rfl
theorem get_cons {k t : Nat} {v : AV} {r : Fr} : Fr.get ((k, v) :: r) t = if k = t then v else Fr.get r t := rfl
theorem keep_nil : Fr.keep [] fr = [] := rfl
theorem keep_cons {t : Nat} {l : List Nat} : Fr.keep (t :: l) fr = (t, fr.get t) :: Fr.keep l fr := rfl

/-! effects -/
variable {K1 : Eff → AV → St → Prop}
theorem xe_fail : XE c wb K1 .mk st .fail = False := rfl
theorem xe_val {v : AV} : XE c wb K1 .mk st (.val v) = K1 .none v st := rfl
theorem xe_rd {r : Nat} {k : Res → Option AV} : XE c wb K1 .mk st (.rd r k) = ∃ v, (st[r]?).bind k = some v ∧ K1 (.rd r) v st := rfl
theorem xe_wr {r : Nat} {k : Res → Option (AV × Res)} : XE c wb K1 .mk st (.wr r k) = (wb ≤ r ∧ ∃ v, (st[r]?).bind k = some v ∧ K1 (.wr r) v.1 (st.set r v.2)) := rfl
theorem xe_new {xs : Nat → List Res} {k : Nat → AV} : XE c wb K1 .mk st (.new xs k) = K1 .bad (k st.length) (st ++ xs st.length) := rfl
theorem xe_call {g : FuncId} {args : List AV} : XE c wb K1 .mk st (.call g args) = CT c wb g args (K1 ((Plan.call g args).eff c)) .mk st := rfl
theorem xe_some {v : AV} : XE c wb K1 .mk st (.ofOpt (some v)) = K1 .none v st := rfl
theorem xe_none : XE c wb K1 .mk st (.ofOpt none) = False := rfl
theorem xe_ite {p : Prop} [Decidable p] {a b : Plan} : XE c wb K1 .mk st (if p then a else b) = if p then XE c wb K1 .mk st a else XE c wb K1 .mk st b := by split <;> rfl
theorem xe_ofOpt_ite {p : Prop} [Decidable p] {a b : Option AV} : XE c wb K1 .mk st (.ofOpt (if p then a else b)) = if p then XE c wb K1 .mk st (.ofOpt a) else XE c wb K1 .mk st (.ofOpt b) := by split <;> rfl
theorem ex_some {α : Type} {x : α} {P : α → Prop} : (∃ v, some x = some v ∧ P v) = P x := by simp
theorem ex_ite {α : Type} {p : Prop} [Decidable p] {x : Option α} {P : α → Prop} : (∃ v, (if p then x else none) = some v ∧ P v) = (p ∧ ∃ v, x = some v ∧ P v) := by split <;> simp_all
theorem ite_false' {p q : Prop} [Decidable p] : (if p then q else False) = (p ∧ q) := by split <;> simp_all

/-! operations -/
variable {d : Option Tmp} {t : TypeId} {p : String} {a : Array Edge} {g : Option (Nat × Bool)}
theorem op_move {x : Operand} : opPlan c kd ⟨d, .move x, t, p, a, g⟩ fr = constPlan c kd t (isNil x) (c.eval fr x) := rfl
theorem op_assign {x : Operand} : opPlan c kd ⟨d, .assign x, t, p, a, g⟩ fr = constPlan c kd t (isNil x) (c.eval fr x) := rfl
def pickP (b x y : AV) : Plan := match b with | .one (.bool true) => .val x | .one (.bool false) => .val y | _ => .fail
theorem op_pick {b x y : Operand} : opPlan c kd ⟨d, .pick b x y, t, p, a, g⟩ fr = pickP (c.eval fr b) (c.eval fr x) (c.eval fr y) := rfl
theorem pick_t {x y : AV} : pickP (.one (.bool true)) x y = .val x := rfl
theorem pick_f {x y : AV} : pickP (.one (.bool false)) x y = .val y := rfl
theorem pick_b {b : Bool} {x y : AV} : pickP (.one (.bool b)) x y = .val (if b then x else y) := by cases b <;> rfl
def allocP (i : Option TyInfo) (kd : Kind) (e : TypeId) : Plan := match i with | some i => varPlan kd e i.zero | none => .fail
theorem op_alloc {e : TypeId} : opPlan c kd ⟨d, .alloc e, t, p, a, g⟩ fr = allocP (c.ty e) kd e := rfl
theorem alloc_some {e : TypeId} {y : Ty} {s b : Nat} {z : List Cell} {q : Bool} : allocP (some ⟨y, s, b, z, q⟩) kd e = varPlan kd e z := rfl
def boxP (kd : Kind) (e : TypeId) (cs : Option (List Cell)) : Plan := match cs with | some cs => varPlan kd e cs | none => .fail
theorem op_box {e : TypeId} {x : Operand} : opPlan c kd ⟨d, .box e x, t, p, a, g⟩ fr = boxP kd e (c.eval fr x).cells := rfl
theorem box_some {e : TypeId} {cs : List Cell} : boxP kd e (some cs) = varPlan kd e cs := rfl
theorem var_plain {e : TypeId} {cs : List Cell} : varPlan .plain e cs = .new (fun _ => [.row e 0 cs]) fun r => .one (.ptr r 0 0) := rfl
theorem cells_one {x : Cell} : (AV.one x).cells = some [x] := rfl
theorem cells_agg {x : List Cell} : (AV.agg x).cells = some x := rfl
theorem op_build {e : TypeId} {parts : Array (Nat × Operand)} : opPlan c kd ⟨d, .build e parts, t, p, a, g⟩ fr = buildPlan kd (buildAV c e (parts.toList.map fun (i, x) => (i, c.eval fr x))) := rfl
theorem op_buildSlice {e : TypeId} {n : Nat} {parts : Array (Nat × Operand)} : opPlan c kd ⟨d, .buildSlice e n parts, t, p, a, g⟩ fr = buildSlicePlan c kd e n (parts.toList.map fun (i, x) => (i, c.eval fr x)) := rfl
theorem op_load {e : TypeId} {x : Operand} : opPlan c kd ⟨d, .load e x, t, p, a, g⟩ fr = loadPlan c e (c.eval fr x) := rfl
theorem op_store {e : TypeId} {x y : Operand} : opPlan c kd ⟨d, .store e x y, t, p, a, g⟩ fr = storePlan c e (c.eval fr x) (c.eval fr y) := rfl
def nilCheckP (x : AV) : Plan := match x with | .one (.ptr r g o) => .val (.one (.ptr r g o)) | .one (.fp cs) => .val (.one (.fp cs)) | .one (.func f a b) => .val (.one (.func f a b)) | _ => .fail
theorem op_nilCheck {x : Operand} : opPlan c kd ⟨d, .nilCheck x, t, p, a, g⟩ fr = nilCheckP (c.eval fr x) := rfl
theorem nilCheck_ptr {r g o : Nat} : nilCheckP (.one (.ptr r g o)) = .val (.one (.ptr r g o)) := rfl
theorem nilCheck_fp {cs : List Cell} : nilCheckP (.one (.fp cs)) = .val (.one (.fp cs)) := rfl
theorem nilCheck_func {f : FuncId} {x y : List Cell} : nilCheckP (.one (.func f x y)) = .val (.one (.func f x y)) := rfl
theorem op_bin {op : BinOp} {xt yt : TypeId} {x y : Operand} : opPlan c kd ⟨d, .binOp op xt x y yt, t, p, a, g⟩ fr = .ofOpt (binAV c op xt (c.eval fr x) (c.eval fr y)) := rfl
theorem op_un {op : UnOp} {xt : TypeId} {x : Operand} : opPlan c kd ⟨d, .unOp op xt x, t, p, a, g⟩ fr = .ofOpt (unAV op (c.eval fr x)) := rfl
theorem op_convert {s e : TypeId} {x : Operand} : opPlan c kd ⟨d, .convert s e x, t, p, a, g⟩ fr = .ofOpt (convAV c s e (c.eval fr x)) := rfl
def makeFuncP (f : FuncId) (fs cs : Option (List Cell)) : Plan := match fs, cs with | some fs, some cs => .val (.one (.func f fs cs)) | _, _ => .fail
theorem op_makeFunc {h : FuncId} {x y : Array Operand} : opPlan c kd ⟨d, .makeFunc (.func h) x y, t, p, a, g⟩ fr = makeFuncP h (opPlan.oneAll (x.toList.map (c.eval fr))) (opPlan.oneAll (y.toList.map (c.eval fr))) := rfl
theorem makeFunc_some {h : FuncId} {x y : List Cell} : makeFuncP h (some x) (some y) = .val (.one (.func h x y)) := rfl
theorem oneAll_nil : opPlan.oneAll [] = some [] := rfl
theorem oneAll_cons {x : Cell} {l : List AV} : opPlan.oneAll (.one x :: l) = (opPlan.oneAll l).map (x :: ·) := rfl
theorem op_makeSlice {e : TypeId} {x y : Operand} : opPlan c kd ⟨d, .makeSlice e x y, t, p, a, g⟩ fr = makeSlicePlan c kd e (c.eval fr x) (c.eval fr y) := rfl
theorem op_slice {e : TypeId} {x : Operand} {lo hi mx : Option Operand} : opPlan c kd ⟨d, .slice e x lo hi mx, t, p, a, g⟩ fr = slicePlan c e (c.eval fr x) (lo.map (c.eval fr)) (hi.map (c.eval fr)) (mx.map (c.eval fr)) := rfl
theorem op_fieldAddr {s : TypeId} {x : Operand} {n : Nat} : opPlan c kd ⟨d, .fieldAddr s x n, t, p, a, g⟩ fr = .ofOpt (fieldAddrAV c s (c.eval fr x) n) := rfl
theorem op_field {s : TypeId} {x : Operand} {n : Nat} : opPlan c kd ⟨d, .field s x n, t, p, a, g⟩ fr = .ofOpt (fieldAV c s (c.eval fr x) n) := rfl
theorem op_indexAddr {s : TypeId} {x y : Operand} : opPlan c kd ⟨d, .indexAddr s x y, t, p, a, g⟩ fr = .ofOpt (indexAddrAV c s (c.eval fr x) (c.eval fr y)) := rfl
theorem op_index {s : TypeId} {x y : Operand} : opPlan c kd ⟨d, .index s x y, t, p, a, g⟩ fr = .ofOpt (indexAV c s (c.eval fr x) (c.eval fr y)) := rfl
theorem op_lookup {s : TypeId} {x y : Operand} {ok : Bool} : opPlan c kd ⟨d, .lookup s x y ok, t, p, a, g⟩ fr = lookupPlan c s (c.eval fr x) (c.eval fr y) ok := rfl
theorem op_mapUpdate {s : TypeId} {x y z : Operand} : opPlan c kd ⟨d, .mapUpdate s x y z, t, p, a, g⟩ fr = updatePlan c s (c.eval fr x) (c.eval fr y) (c.eval fr z) := rfl
theorem op_insert {s : TypeId} {x y z : Operand} : opPlan c kd ⟨d, .insert s x y z, t, p, a, g⟩ fr = updatePlan c s (c.eval fr x) (c.eval fr y) (c.eval fr z) := rfl
def extractP (x : AV) (n : Nat) : Plan := match x with | .tup vs => (match vs[n]? with | some v => .val v | none => .fail) | _ => .fail
theorem op_extract {x : Operand} {n : Nat} : opPlan c kd ⟨d, .extract x n, t, p, a, g⟩ fr = extractP (c.eval fr x) n := by
  simp only [opPlan, extractP]; rfl
theorem extract_zero {v : AV} {vs : List AV} : extractP (.tup (v :: vs)) 0 = .val v := rfl
theorem extract_succ {v : AV} {vs : List AV} {n : Nat} : extractP (.tup (v :: vs)) (n + 1) = extractP (.tup vs) n := by simp [extractP]
def callValP (x : AV) (args : List AV) : Plan := match x with | .one (.func f first captured) => .call f (first.map .one ++ args ++ captured.map .one) | _ => .fail
theorem op_callVal {x : Operand} {args : Array Operand} {ts : Array TypeId} : opPlan c kd ⟨d, .call ⟨.value x, args, ts⟩, t, p, a, g⟩ fr = callValP (c.eval fr x) (args.toList.map (c.eval fr)) := rfl
theorem callVal_func {h : FuncId} {x y : List Cell} {args : List AV} : callValP (.one (.func h x y)) args = .call h (x.map .one ++ args ++ y.map .one) := rfl
def builtinP (c : Cfg) (kd : Kind) (b : Builtin) (ts : List TypeId) (args : List AV) : Plan :=
  match b, ts, args with
  | .append, t :: ts, [s, x] => appendPlan c kd t ts.head? s x
  | .len, t :: _, [x] => lenPlan c t x
  | .cap, t :: _, [x] => capPlan c t x
  | .copy, t :: _, [d, s] => copyPlan c t d s
  | .clear, t :: _, [x] => clearPlan c t x
  | .delete, t :: _, [m, k] => deletePlan c t m k
  | .max, _, l => .ofOpt (minmaxAV true l)
  | .min, _, l => .ofOpt (minmaxAV false l)
  | _, _, _ => .fail
theorem op_builtin {b : Builtin} {args : Array Operand} {ts : Array TypeId} : opPlan c kd ⟨d, .call ⟨.builtin b, args, ts⟩, t, p, a, g⟩ fr = builtinP c kd b ts.toList (args.toList.map (c.eval fr)) := rfl
theorem bi_append {e e2 : TypeId} {ts : List TypeId} {x y : AV} : builtinP c kd .append (e :: e2 :: ts) [x, y] = appendPlan c kd e (some e2) x y := rfl
theorem bi_len {e : TypeId} {ts : List TypeId} {x : AV} : builtinP c kd .len (e :: ts) [x] = lenPlan c e x := rfl
theorem bi_cap {e : TypeId} {ts : List TypeId} {x : AV} : builtinP c kd .cap (e :: ts) [x] = capPlan c e x := rfl
theorem bi_copy {e : TypeId} {ts : List TypeId} {x y : AV} : builtinP c kd .copy (e :: ts) [x, y] = copyPlan c e x y := rfl
theorem bi_clear {e : TypeId} {ts : List TypeId} {x : AV} : builtinP c kd .clear (e :: ts) [x] = clearPlan c e x := rfl
theorem bi_delete {e : TypeId} {ts : List TypeId} {x y : AV} : builtinP c kd .delete (e :: ts) [x, y] = deletePlan c e x y := rfl
theorem bi_max {ts : List TypeId} {l : List AV} : builtinP c kd .max ts l = .ofOpt (minmaxAV true l) := by cases ts <;> rfl
theorem bi_min {ts : List TypeId} {l : List AV} : builtinP c kd .min ts l = .ofOpt (minmaxAV false l) := by cases ts <;> rfl

/-! operands -/
theorem ev_tmp {s : Nat} : c.eval fr (.tmp s) = fr.get s := rfl
theorem ev_func {s : Nat} : c.eval fr (.func s) = .one (.func s [] []) := rfl
theorem ev_int {k : IntKind} {n : Int} : c.eval fr (.const (.int k n)) = .one (.int k n) := rfl
theorem ev_bool {b : Bool} : c.eval fr (.const (.bool b)) = .one (.bool b) := rfl
theorem ev_str {s : ByteArray} : c.eval fr (.const (.string s)) = .one (.str s) := rfl
theorem ev_nils : c.eval fr (.const (.slice none 0 0)) = .one (.slice .exact 0 []) := rfl
theorem ev_nilp : c.eval fr (.const (.pointer none)) = .one .nilp := rfl
theorem ev_nilm : c.eval fr (.const (.map none)) = .one .nilm := rfl
theorem ev_nilf : c.eval fr (.const .nilFunc) = .one .nilf := rfl
theorem ev_nili : c.eval fr (.const .nilIface) = .one .nili := rfl

/-! moves -/
theorem const_plain {nil : Bool} {x : AV} : constPlan c .plain t nil x = .val x := by unfold constPlan; rfl

/-! arithmetic -/
variable {k : IntKind} {m n : Int}
theorem bin_add : binAV c .add t (.one (.int k m)) (.one (.int k n)) = some (.one (.int k (k.wrap (m + n)))) := by simp [binAV, intBin]
theorem bin_sub : binAV c .sub t (.one (.int k m)) (.one (.int k n)) = some (.one (.int k (k.wrap (m - n)))) := by simp [binAV, intBin]
theorem bin_mul : binAV c .mul t (.one (.int k m)) (.one (.int k n)) = some (.one (.int k (k.wrap (m * n)))) := by simp [binAV, intBin]
theorem bin_quo : binAV c .quo t (.one (.int k m)) (.one (.int k n)) = if n = 0 then none else some (.one (.int k (k.wrap (m.tdiv n)))) := by simp only [binAV, intBin, if_true]; split <;> rfl
theorem bin_rem : binAV c .rem t (.one (.int k m)) (.one (.int k n)) = if n = 0 then none else some (.one (.int k (m.tmod n))) := by simp only [binAV, intBin, if_true]; split <;> rfl
theorem bin_and : binAV c .and t (.one (.int k m)) (.one (.int k n)) = some (.one (.int k (k.wrap (BitVec.ofInt k.bits m &&& BitVec.ofInt k.bits n).toNat))) := by simp [binAV, intBin]
theorem bin_or : binAV c .or t (.one (.int k m)) (.one (.int k n)) = some (.one (.int k (k.wrap (BitVec.ofInt k.bits m ||| BitVec.ofInt k.bits n).toNat))) := by simp [binAV, intBin]
theorem bin_xor : binAV c .xor t (.one (.int k m)) (.one (.int k n)) = some (.one (.int k (k.wrap (BitVec.ofInt k.bits m ^^^ BitVec.ofInt k.bits n).toNat))) := by simp [binAV, intBin]
theorem bin_andNot : binAV c .andNot t (.one (.int k m)) (.one (.int k n)) = some (.one (.int k (k.wrap (BitVec.ofInt k.bits m &&& ~~~BitVec.ofInt k.bits n).toNat))) := by simp [binAV, intBin]
theorem bin_eql : binAV c .eql t (.one (.int k m)) (.one (.int k n)) = some (.one (.bool (decide (m = n)))) := by simp [binAV, intBin]; rfl
theorem bin_neq : binAV c .neq t (.one (.int k m)) (.one (.int k n)) = some (.one (.bool (decide (m ≠ n)))) := by simp [binAV, intBin, bne]; rfl
theorem bin_lss : binAV c .lss t (.one (.int k m)) (.one (.int k n)) = some (.one (.bool (decide (m < n)))) := by simp [binAV, intBin]
theorem bin_leq : binAV c .leq t (.one (.int k m)) (.one (.int k n)) = some (.one (.bool (decide (m ≤ n)))) := by simp [binAV, intBin]
theorem bin_gtr : binAV c .gtr t (.one (.int k m)) (.one (.int k n)) = some (.one (.bool (decide (n < m)))) := by simp [binAV, intBin]
theorem bin_geq : binAV c .geq t (.one (.int k m)) (.one (.int k n)) = some (.one (.bool (decide (n ≤ m)))) := by simp [binAV, intBin]
theorem bin_shl {k' : IntKind} : binAV c .shl t (.one (.int k m)) (.one (.int k' n)) = if n < 0 then none else some (.one (.int k (k.wrap (m * 2 ^ min n.toNat k.bits)))) := by simp only [binAV, shiftBin]; split <;> rfl
theorem bin_shr {k' : IntKind} : binAV c .shr t (.one (.int k m)) (.one (.int k' n)) = if n < 0 then none else some (.one (.int k (m.fdiv (2 ^ min n.toNat k.bits)))) := by simp only [binAV, shiftBin]; split <;> rfl
def boolBin (ty : Option TyInfo) (op : BinOp) (a b : Bool) : Option AV := match ty with
  | some { ty := .bool, .. } => (match op with | .eql => some (.one (.bool (a == b))) | .neq => some (.one (.bool (!(a == b)))) | _ => none)
  | _ => none
theorem bin_bool {op : BinOp} {x y : Bool} : binAV c op t (.one (.bool x)) (.one (.bool y)) = boolBin (c.ty t) op x y := rfl
theorem bool_eql {s b : Nat} {z : List Cell} {q x y : Bool} : boolBin (some ⟨.bool, s, b, z, q⟩) .eql x y = some (.one (.bool (x == y))) := rfl
theorem bool_neq {s b : Nat} {z : List Cell} {q x y : Bool} : boolBin (some ⟨.bool, s, b, z, q⟩) .neq x y = some (.one (.bool (!(x == y)))) := rfl
theorem un_not {x : Bool} : unAV .not (.one (.bool x)) = some (.one (.bool !x)) := rfl
theorem un_neg : unAV .neg (.one (.int k n)) = some (.one (.int k (k.wrap (0 - n)))) := rfl
theorem un_xor : unAV .xor (.one (.int k n)) = some (.one (.int k (k.wrap (BitVec.ofInt k.bits (if k.signed then -1 else k.max) ^^^ BitVec.ofInt k.bits n).toNat))) := rfl
def convP (s d : Option TyInfo) (x : AV) : Option AV := match s, d, x with
  | some _, some { ty := .int k, .. }, .one (.int _ n) => some (.one (.int k (k.wrap n)))
  | _, _, _ => none
theorem conv_eq {s e : TypeId} {x : AV} : convAV c s e x = convP (c.ty s) (c.ty e) x := rfl
theorem conv_int {i : TyInfo} {s b : Nat} {z : List Cell} {q : Bool} {k' : IntKind} : convP (some i) (some ⟨.int k, s, b, z, q⟩) (.one (.int k' n)) = some (.one (.int k (k.wrap n))) := rfl
theorem mm_go_nil {mx : Bool} : minmaxAV.go mx k n [] = some (.one (.int k n)) := rfl
theorem max_go {l : List AV} {k' : IntKind} : minmaxAV.go true k m (.one (.int k' n) :: l) = minmaxAV.go true k (max m n) l := by
  simp only [minmaxAV.go]; congr 1; simp only [if_true]; split <;> omega
theorem min_go {l : List AV} {k' : IntKind} : minmaxAV.go false k m (.one (.int k' n) :: l) = minmaxAV.go false k (min m n) l := by
  simp only [minmaxAV.go]; congr 1; simp only [Bool.false_eq_true, if_false]; split <;> omega
theorem mm_start {mx : Bool} {l : List AV} : minmaxAV mx (.one (.int k m) :: l) = minmaxAV.go mx k m l := rfl

end Go.AI.W

namespace Go.AI.W
open Go Go.AI
variable {c : Cfg} {wb : Nat} {st : St} {K : Eff → AV → St → Prop} {kd : Kind} {t e : TypeId} {y : Ty} {s b q' : Nat} {z : List Cell} {q : Bool}

/-! types -/
theorem size_eq : c.size t = (c.ty t).map (·.size) := rfl
theorem isAgg_eq : c.isAgg t = (c.ty t).map fun i => match i.ty with | .struct _ | .array _ _ => true | _ => false := rfl
def readP (i : Option TyInfo) (cells : List Cell) : Option AV :=
  match i with
  | none => none
  | some i => match i.ty with
    | .struct _ | .array _ _ => if i.size ≤ cells.length then some (.agg (cells.take i.size)) else none
    | _ => match cells with
      | x :: _ => some (.one x)
      | [] => none
theorem read_eq {cells : List Cell} : readCells c t cells = readP (c.ty t) cells := rfl
theorem read_int {k : IntKind} {x : Cell} {l : List Cell} : readP (some ⟨.int k, s, b, z, q⟩) (x :: l) = some (.one x) := rfl
theorem read_bool {x : Cell} {l : List Cell} : readP (some ⟨.bool, s, b, z, q⟩) (x :: l) = some (.one x) := rfl
theorem read_string {x : Cell} {l : List Cell} : readP (some ⟨.string, s, b, z, q⟩) (x :: l) = some (.one x) := rfl
theorem read_slice {x : Cell} {l : List Cell} : readP (some ⟨.slice e, s, b, z, q⟩) (x :: l) = some (.one x) := rfl
theorem read_map {k : TypeId} {x : Cell} {l : List Cell} : readP (some ⟨.map k e, s, b, z, q⟩) (x :: l) = some (.one x) := rfl
theorem read_other {x : Cell} {l : List Cell} : readP (some ⟨.other, s, b, z, q⟩) (x :: l) = some (.one x) := rfl
theorem read_struct {fs : List (Nat × TypeId)} {cells : List Cell} : readP (some ⟨.struct fs, s, b, z, q⟩) cells = if s ≤ cells.length then some (.agg (cells.take s)) else none := rfl
theorem read_array {n : Nat} {cells : List Cell} : readP (some ⟨.array n e, s, b, z, q⟩) cells = if s ≤ cells.length then some (.agg (cells.take s)) else none := rfl
theorem put_zero {x v : Cell} {vs l : List Cell} : putCells 0 (v :: vs) (x :: l) = (putCells 0 vs l).map (v :: ·) := by cases vs <;> rfl
theorem put_nil {l : List Cell} : putCells 0 [] l = some l := by cases l <;> rfl
theorem put_succ {o : Nat} {x : Cell} {vs l : List Cell} : putCells (o + 1) vs (x :: l) = (putCells o vs l).map (x :: ·) := rfl

/-! loads and stores -/
theorem load_fp {cells : List Cell} : loadPlan c t (.one (.fp cells)) = .ofOpt (readP (c.ty t) cells) := rfl
def loadK (i : Option TyInfo) (g off : Nat) (x : Res) : Option AV := match x with
  | .row _ g' cells => if g = g' then (if off ≤ cells.length then readP i (cells.drop off) else none) else none
  | _ => none
theorem load_ptr {r g off : Nat} : loadPlan c t (.one (.ptr r g off)) = .rd r (loadK (c.ty t) g off) := rfl
theorem loadK_row {i : Option TyInfo} {g off : Nat} {t' : TypeId} {cells : List Cell} : loadK i g off (.row t' g cells) = if off ≤ cells.length then readP i (cells.drop off) else none := by simp [loadK]
def storeP (i : Option TyInfo) (t : TypeId) (a : AV) (v : Option (List Cell)) : Plan :=
  match a, v, i.map (·.size) with
  | .one (.ptr r g off), some vs, some n =>
    if vs.length = n then .wr r fun
      | .row t g' cells => if g = g' then (putCells off vs cells).map fun cells => (.any, .row t g' cells) else none
      | _ => none
    else .fail
  | _, _, _ => .fail
theorem store_eq {a x : AV} : storePlan c t a x = storeP (c.ty t) t a x.cells := rfl
def storeK (g off : Nat) (vs : List Cell) (x : Res) : Option (AV × Res) := match x with
  | .row t g' cells => if g = g' then (putCells off vs cells).map fun cells => (.any, .row t g' cells) else none
  | _ => none
theorem store_ptr {r g off : Nat} {vs : List Cell} : storeP (some ⟨y, s, b, z, q⟩) t (.one (.ptr r g off)) (some vs) = if vs.length = s then .wr r (storeK g off vs) else .fail := by
  simp only [storeP, Option.map_some]; rfl
theorem storeK_row {g off : Nat} {vs cells : List Cell} {t' : TypeId} : storeK g off vs (.row t' g cells) = (putCells off vs cells).map fun cells => (.any, .row t' g cells) := by simp [storeK]

/-! addresses -/
def fieldOffP (i : Option TyInfo) (f : Nat) : Option (Nat × TypeId) := match i with | some ⟨.struct fs, _, _, _, _⟩ => fs[f]? | _ => none
theorem fieldOff_eq {f : Nat} : fieldOff c t f = fieldOffP (c.ty t) f := by
  unfold fieldOff fieldOffP
  cases c.ty t with
  | none => rfl
  | some i => obtain ⟨y, _, _, _, _⟩ := i; cases y <;> rfl
theorem fieldOff_struct {f : Nat} {fs : List (Nat × TypeId)} : fieldOffP (some ⟨.struct fs, s, b, z, q⟩) f = fs[f]? := rfl
def fieldAddrP (c : Cfg) (x : AV) (o : Option (Nat × TypeId)) : Option AV := match o with
  | some (o, ft) => match c.size ft with
    | some (_ + 1) => addPtr x o
    | _ => none
  | none => none
theorem fieldAddr_eq {x : AV} {f : Nat} : fieldAddrAV c t x f = fieldAddrP c x (fieldOff c t f) := rfl
def szK (n : Option Nat) (x : Option AV) : Option AV := match n with | some (_ + 1) => x | _ => none
theorem fieldAddr_some {x : AV} {o : Nat} : fieldAddrP c x (some (o, e)) = szK (c.size e) (addPtr x o) := by
  simp only [fieldAddrP, szK]
theorem szK_some {n : Nat} {x : Option AV} : szK (some (n + 1)) x = x := rfl
theorem addPtr_ptr {r g off n : Nat} : addPtr (.one (.ptr r g off)) n = some (.one (.ptr r g (off + n))) := rfl
theorem addPtr_fp {cells : List Cell} {n : Nat} : addPtr (.one (.fp cells)) n = if n ≤ cells.length then some (.one (.fp (cells.drop n))) else none := rfl
def fieldP (c : Cfg) (x : AV) (o : Option (Nat × TypeId)) : Option AV := match x, o with | .agg cs, some (o, ft) => readCells c ft (cs.drop o) | _, _ => none
theorem field_eq {x : AV} {f : Nat} : fieldAV c t x f = fieldP c x (fieldOff c t f) := by
  unfold fieldAV fieldP; rfl
theorem field_agg {cs : List Cell} {o : Nat} : fieldP c (.agg cs) (some (o, e)) = readP (c.ty e) (cs.drop o) := rfl
def idxAddrP (c : Cfg) (i : Option TyInfo) (x ix : AV) : Option AV :=
  match ix, i with
  | .one (.int _ i), some ⟨.array n e, _, _, _, _⟩ => if 0 ≤ i ∧ i < n then (c.size e).bind fun s => addPtr x (i.toNat * s) else none
  | .one (.int _ i), some ⟨.slice e, _, _, _, _⟩ =>
    match x, c.size e with
    | .one (.slice _ esz rows), some s => if 0 ≤ i ∧ i < rows.length ∧ esz = s then some (.one (.fp (rows.getD i.toNat []))) else none
    | .one (.own r g esz _ off len), some s => if 0 ≤ i ∧ i < len ∧ esz = s then some (.one (.ptr r g (off + i.toNat * s))) else none
    | _, _ => none
  | _, _ => none
theorem idxAddr_eq {x ix : AV} : indexAddrAV c t x ix = idxAddrP c (c.ty t) x ix := by
  unfold indexAddrAV idxAddrP
  cases c.ty t with
  | none => cases ix with
    | one d => cases d <;> rfl
    | _ => rfl
  | some i => obtain ⟨y, _, _, _, _⟩ := i; cases ix with
    | one d => cases d <;> cases y <;> rfl
    | _ => rfl
theorem idxAddr_array {x : AV} {n : Nat} {k : IntKind} {i : Int} : idxAddrP c (some ⟨.array n e, s, b, z, q⟩) x (.one (.int k i)) = if 0 ≤ i ∧ i < n then (c.size e).bind fun s => addPtr x (i.toNat * s) else none := rfl
def idxS (sz : Option Nat) (x : AV) (i : Int) : Option AV := match x, sz with
  | .one (.slice _ esz rows), some s => if 0 ≤ i ∧ i < rows.length ∧ esz = s then some (.one (.fp (rows.getD i.toNat []))) else none
  | .one (.own r g esz _ off len), some s => if 0 ≤ i ∧ i < len ∧ esz = s then some (.one (.ptr r g (off + i.toNat * s))) else none
  | _, _ => none
theorem idxAddr_slice {x : AV} {k : IntKind} {i : Int} : idxAddrP c (some ⟨.slice e, s, b, z, q⟩) x (.one (.int k i)) = idxS (c.size e) x i := rfl
theorem idxS_own {i : Int} {r g off len : Nat} {cp : Bool} : idxS (some s) (.one (.own r g s cp off len)) i = if 0 ≤ i ∧ i < len then some (.one (.ptr r g (off + i.toNat * s))) else none := by simp [idxS]
theorem idxS_rows {i : Int} {tok : Tok} {rows : List (List Cell)} : idxS (some s) (.one (.slice tok s rows)) i = if 0 ≤ i ∧ i < rows.length then some (.one (.fp (rows.getD i.toNat []))) else none := by simp [idxS]
/-- Rows as they are coded. -/
theorem idxS_map {α : Type} [Inhabited α] {enc : α → List Cell} {l : List α} {i : Int} {tok : Tok} : idxS (some s) (.one (.slice tok s (l.map enc))) i = if 0 ≤ i ∧ i < l.length then some (.one (.fp (enc (l.getD i.toNat default)))) else none := by
  rw [idxS_rows, List.length_map]
  split
  · rename_i h
    have : i.toNat < l.length := by omega
    simp [List.getD_eq_getElem?_getD, this]
  · rfl
def idxP (c : Cfg) (i : Option TyInfo) (x ix : AV) : Option AV :=
  match ix, i, x with
  | .one (.int _ i), some ⟨.array n e, _, _, _, _⟩, .agg cs => if 0 ≤ i ∧ i < n then (c.size e).bind fun s => readCells c e (cs.drop (i.toNat * s)) else none
  | .one (.int _ i), some ⟨.string, _, _, _, _⟩, .one (.str s) => if 0 ≤ i then (s[i.toNat]?).map fun b => .one (.int .u8 b.toNat) else none
  | _, _, _ => none
theorem idx_eq {x ix : AV} : indexAV c t x ix = idxP c (c.ty t) x ix := by
  unfold indexAV idxP
  cases c.ty t with
  | none => cases ix with
    | one d => cases d <;> rfl
    | _ => rfl
  | some i => obtain ⟨y, _, _, _, _⟩ := i; cases ix with
    | one d => cases d <;> cases y <;> first | rfl | (cases x with | one d => cases d <;> rfl | _ => rfl)
    | _ => rfl
theorem idx_array {cs : List Cell} {n : Nat} {k : IntKind} {i : Int} : idxP c (some ⟨.array n e, s, b, z, q⟩) (.agg cs) (.one (.int k i)) = if 0 ≤ i ∧ i < n then (c.size e).bind fun s => readP (c.ty e) (cs.drop (i.toNat * s)) else none := rfl

/-! len -/
def lenP (i : Option TyInfo) (x : AV) : Plan := match i, x with
  | some ⟨.slice _, _, _, _, _⟩, .one (.slice _ _ rows) => .val (.one (.int .i64 rows.length))
  | some ⟨.slice _, _, _, _, _⟩, .one (.own _ _ _ _ _ len) => .val (.one (.int .i64 len))
  | some ⟨.array n _, _, _, _, _⟩, _ => .val (.one (.int .i64 n))
  | some ⟨.string, _, _, _, _⟩, .one (.str s) => .val (.one (.int .i64 s.size))
  | some ⟨.map _ _, _, _, _, _⟩, .one (.map r) => .rd r fun | .map _ _ es => some (.one (.int .i64 es.length)) | _ => none
  | _, _ => .fail
theorem len_eq {x : AV} : lenPlan c t x = lenP (c.ty t) x := by
  unfold lenPlan lenP
  cases c.ty t with
  | none => rfl
  | some i => obtain ⟨y, _, _, _, _⟩ := i; cases y <;> first | rfl | (cases x with | one d => cases d <;> rfl | _ => rfl)
theorem len_slice {tok : Tok} {rows : List (List Cell)} : lenP (some ⟨.slice e, s, b, z, q⟩) (.one (.slice tok q' rows)) = .val (.one (.int .i64 rows.length)) := rfl
theorem len_map {α : Type} {enc : α → List Cell} {l : List α} {tok : Tok} : lenP (some ⟨.slice e, s, b, z, q⟩) (.one (.slice tok q' (l.map enc))) = .val (.one (.int .i64 l.length)) := by simp [len_slice]
theorem len_own {r g esz off len : Nat} {cp : Bool} : lenP (some ⟨.slice e, s, b, z, q⟩) (.one (.own r g esz cp off len)) = .val (.one (.int .i64 len)) := rfl
theorem len_array {n : Nat} {x : AV} : lenP (some ⟨.array n e, s, b, z, q⟩) x = .val (.one (.int .i64 n)) := by cases x <;> rfl

end Go.AI.W

namespace Go.AI.W
open Go Go.AI
variable {c : Cfg} {wb : Nat} {st : St} {K : Eff → AV → St → Prop} {kd : Kind} {t e : TypeId} {y : Ty} {s b q' : Nat} {z : List Cell} {q : Bool}

/-! append -/
def appP (c : Cfg) (kd : Kind) (i : Option TyInfo) (xt : Option TypeId) (s x : AV) : Plan := match i with
  | some ⟨.slice e, _, _, _, _⟩ => (match c.ty e with
    | some i => (match appendNews c i xt x with | none => .fail | some ns => appendTo kd e i ns s)
    | none => .fail)
  | _ => .fail
theorem append_eq {xt : Option TypeId} {x v : AV} : appendPlan c kd t xt x v = appP c kd (c.ty t) xt x v := by
  unfold appendPlan appP
  cases c.ty t with
  | none => rfl
  | some i => obtain ⟨y, _, _, _, _⟩ := i; cases y <;> rfl
def appP2 (c : Cfg) (kd : Kind) (e : TypeId) (i : Option TyInfo) (xt : Option TypeId) (s x : AV) : Plan := match i with
  | some i => (match appendNews c i xt x with | none => .fail | some ns => appendTo kd e i ns s)
  | none => .fail
theorem append_slice {xt : Option TypeId} {x v : AV} : appP c kd (some ⟨.slice e, s, b, z, q⟩) xt x v = appP2 c kd e (c.ty e) xt x v := rfl
def newsP (i : TyInfo) (j : Option TyInfo) (x : AV) : Option (List (List Cell)) := match j, x with
  | some ⟨.int _, _, _, _, _⟩, .one (.int _ n) => if 0 ≤ n ∧ n * i.bytes ≤ 140737488355328 ∧ n ≤ 9223372036854775807 then (purify i.zero).map fun z => List.replicate n.toNat z else none
  | some ⟨.slice _, _, _, _, _⟩, .one (.slice _ esz rows) => if esz = i.size ∨ rows = [] then some rows else none
  | _, _ => none
theorem news_eq {i : TyInfo} {xt : TypeId} {x : AV} : appendNews c i (some xt) x = newsP i (c.ty xt) x := by
  unfold appendNews newsP
  simp only [Option.bind_some]
  cases c.ty xt with
  | none => rfl
  | some i => obtain ⟨y, _, _, _, _⟩ := i; cases y <;> first | rfl | (cases x with | one d => cases d <;> rfl | _ => rfl)
def appP3 (kd : Kind) (e : TypeId) (i : TyInfo) (ns : Option (List (List Cell))) (x : AV) : Plan := match ns with | none => .fail | some ns => appendTo kd e i ns x
theorem append_some {i : TyInfo} {xt : TypeId} {x v : AV} : appP2 c kd e (some i) (some xt) x v = appP3 kd e i (newsP i (c.ty xt) v) x := by
  unfold appP2 appP3; simp only [news_eq]
theorem news_rows {tok : Tok} {rows : List (List Cell)} {s' b' : Nat} {z' : List Cell} {q1 : Bool} : newsP ⟨y, s, b, z, q⟩ (some ⟨.slice e, s', b', z', q1⟩) (.one (.slice tok s rows)) = some rows := by simp [newsP]
theorem append_ns {i : TyInfo} {ns : List (List Cell)} {x : AV} : appP3 kd e i (some ns) x = appendTo kd e i ns x := rfl
def tailK (sz : Nat) (rows ns : List (List Cell)) (r : Nat) (x : Res) : Option (AV × Res) := match x with
  | .tail n z => if n = rows.length ∧ z = sz then some (.one (.slice (.tail r) sz (rows ++ ns)), .tail (rows.length + ns.length) z) else none
  | _ => none
theorem app_tail {r : Nat} {rows ns : List (List Cell)} : appendTo kd e ⟨y, s, b, z, q⟩ ns (.one (.slice (.tail r) s rows)) =
    if (rows.length + ns.length) * b ≤ 140737488355328 ∧ rows.length + ns.length ≤ 9223372036854775807 then .wr r (tailK s rows ns r) else .fail := by
  simp only [appendTo, fits, true_and, Bool.and_eq_true, decide_eq_true_eq]; rfl
theorem tailK_tail {rows ns : List (List Cell)} {r n : Nat} : tailK s rows ns r (.tail n s) = if n = rows.length then some (.one (.slice (.tail r) s (rows ++ ns)), .tail (rows.length + ns.length) s) else none := by simp [tailK]
theorem app_exact {rows ns : List (List Cell)} : appendTo .plain e ⟨y, s, b, z, q⟩ ns (.one (.slice .exact s rows)) =
    if (rows.length + ns.length) * b ≤ 140737488355328 ∧ rows.length + ns.length ≤ 9223372036854775807 then .new (fun _ => [.tail (rows.length + ns.length) s]) fun r => .one (.slice (.tail r) s (rows ++ ns)) else .fail := by
  simp only [appendTo, fits, true_or, true_and, Bool.and_eq_true, decide_eq_true_eq]
theorem app_exact_tok {rows ns : List (List Cell)} : appendTo .tok e ⟨y, s, b, z, q⟩ ns (.one (.slice .exact s rows)) =
    if (rows.length + ns.length) * b ≤ 140737488355328 ∧ rows.length + ns.length ≤ 9223372036854775807 then .new (fun _ => [.tail (rows.length + ns.length) s]) fun r => .one (.slice (.tail r) s (rows ++ ns)) else .fail := by
  simp only [appendTo, fits, true_or, true_and, Bool.and_eq_true, decide_eq_true_eq]
def ownK (e sz : Nat) (esz g len : Nat) (r : Nat) (ns : List (List Cell)) (x : Res) : Option (AV × Res) := match x with
  | .row t' g' cells => if g = g' ∧ t' = e ∧ len * sz ≤ cells.length then some (.one (.own r (g + 1) esz true 0 (len + ns.length)), .row t' (g + 1) (cells.take (len * sz) ++ ns.flatten)) else none
  | .nrow t' g' => if g = g' ∧ t' = e ∧ len = 0 then (match ns with
      | [] => some (.one (.own r g esz true 0 0), .nrow t' g')
      | _ :: _ => some (.one (.own r (g + 1) esz true 0 ns.length), .row t' (g + 1) ns.flatten)) else none
  | _ => none
theorem app_own {r g len : Nat} {ns : List (List Cell)} : appendTo kd e ⟨y, s, b, z, q⟩ ns (.one (.own r g s true 0 len)) =
    if (len + ns.length) * b ≤ 140737488355328 ∧ len + ns.length ≤ 9223372036854775807 then .wr r (ownK e s s g len r ns) else .fail := by
  simp only [appendTo, fits, true_and, Bool.and_eq_true, decide_eq_true_eq]; rfl
theorem ownK_row {esz g len r : Nat} {ns : List (List Cell)} {cells : List Cell} : ownK e s esz g len r ns (.row e g cells) = if len * s ≤ cells.length then some (.one (.own r (g + 1) esz true 0 (len + ns.length)), .row e (g + 1) (cells.take (len * s) ++ ns.flatten)) else none := by simp [ownK]
theorem ownK_nrow {esz g r : Nat} {x : List Cell} {ns : List (List Cell)} : ownK e s esz g 0 r (x :: ns) (.nrow e g) = some (.one (.own r (g + 1) esz true 0 (ns.length + 1)), .row e (g + 1) (x :: ns).flatten) := by simp [ownK]

/-! composite values -/
def bslP (c : Cfg) (kd : Kind) (e len : Nat) (i : Option TyInfo) (parts : List (Nat × AV)) : Plan := match i with
  | some i =>
    if len * i.size ≤ 16777216 then
      match fillAll (fun j => some (j * i.size, i.size)) parts (zeros i.zero len) with
      | some cells =>
        match kd with
        | .own => .new (fun _ => [.row e 0 cells]) fun r => .one (.own r 0 i.size true 0 len)
        | _ => match purify cells with
          | some cells => .val (.one (.slice .exact i.size (chunk i.size len cells)))
          | none => .fail
      | none => .fail
    else .fail
  | none => .fail
def bslT (c : Cfg) (kd : Kind) (len : Nat) (i : Option TyInfo) (parts : List (Nat × AV)) : Plan := match i with
  | some ⟨.slice e, _, _, _, _⟩ => bslP c kd e len (c.ty e) parts
  | _ => .fail
theorem buildSlice_eq {len : Nat} {parts : List (Nat × AV)} : buildSlicePlan c kd t len parts = bslT c kd len (c.ty t) parts := by
  unfold buildSlicePlan bslT
  cases c.ty t with
  | none => rfl
  | some i => obtain ⟨y, _, _, _, _⟩ := i; cases y <;> rfl
theorem bsl_slice {len : Nat} {parts : List (Nat × AV)} : bslT c kd len (some ⟨.slice e, s, b, z, q⟩) parts = bslP c kd e len (c.ty e) parts := rfl
def bslK (kd : Kind) (e len sz : Nat) (x : Option (List Cell)) : Plan := match x with
  | some cells =>
    match kd with
    | .own => .new (fun _ => [.row e 0 cells]) fun r => .one (.own r 0 sz true 0 len)
    | _ => match purify cells with
      | some cells => .val (.one (.slice .exact sz (chunk sz len cells)))
      | none => .fail
  | none => .fail
theorem bsl_some {len : Nat} {parts : List (Nat × AV)} : bslP c kd e len (some ⟨y, s, b, z, q⟩) parts = if len * s ≤ 16777216 then bslK kd e len s (fillAll (fun j => some (j * s, s)) parts (zeros z len)) else .fail := rfl
theorem bslK_own {len sz : Nat} {cells : List Cell} : bslK .own e len sz (some cells) = .new (fun _ => [.row e 0 cells]) fun r => .one (.own r 0 sz true 0 len) := rfl
def bslV (len sz : Nat) (x : Option (List Cell)) : Plan := match x with | some cells => .val (.one (.slice .exact sz (chunk sz len cells))) | none => .fail
theorem bslK_plain {len sz : Nat} {cells : List Cell} : bslK .plain e len sz (some cells) = bslV len sz (purify cells) := rfl
theorem bslK_tok {len sz : Nat} {cells : List Cell} : bslK .tok e len sz (some cells) = bslV len sz (purify cells) := rfl
theorem bslV_some {len sz : Nat} {cells : List Cell} : bslV len sz (some cells) = .val (.one (.slice .exact sz (chunk sz len cells))) := rfl
theorem zeros_zero : zeros z 0 = [] := rfl
theorem zeros_succ {n : Nat} : zeros z (n + 1) = z ++ zeros z n := rfl
theorem chunk_zero {l : List Cell} : chunk s 0 l = [] := rfl
theorem chunk_succ {l : List Cell} {n : Nat} : chunk s (n + 1) l = l.take s :: chunk s n (l.drop s) := rfl
theorem fill_nil {place : Nat → Option (Nat × Nat)} {cells : List Cell} : fillAll place [] cells = some cells := rfl
def fillK (p : Option (Nat × Nat)) (v : Option (List Cell)) (cells : List Cell) (k : List Cell → Option (List Cell)) : Option (List Cell) := match p, v with
  | some (o, s), some vs => if vs.length = s then (putCells o vs cells).bind k else none
  | _, _ => none
theorem fill_cons {place : Nat → Option (Nat × Nat)} {cells : List Cell} {i : Nat} {v : AV} {l : List (Nat × AV)} : fillAll place ((i, v) :: l) cells = fillK (place i) v.cells cells (fillAll place l) := rfl
theorem fillK_some {o : Nat} {vs cells : List Cell} {k : List Cell → Option (List Cell)} : fillK (some (o, s)) (some vs) cells k = if vs.length = s then (putCells o vs cells).bind k else none := rfl
theorem pure_nil : purify [] = some [] := rfl
def pureK (x : Option Cell) (l : Option (List Cell)) : Option (List Cell) := match x, l with | some c, some l => some (c :: l) | _, _ => none
theorem pure_cons {x : Cell} {l : List Cell} : purify (x :: l) = pureK x.pure1 (purify l) := rfl
theorem pureK_some {x : Cell} {l : List Cell} : pureK (some x) (some l) = some (x :: l) := rfl
theorem pure1_int {k : IntKind} {n : Int} : (Cell.int k n).pure1 = some (.int k n) := rfl
theorem pure1_bool {n : Bool} : (Cell.bool n).pure1 = some (.bool n) := rfl
theorem pure1_str {n : ByteArray} : (Cell.str n).pure1 = some (.str n) := rfl
theorem pure1_slice {tok : Tok} {rows : List (List Cell)} : (Cell.slice tok s rows).pure1 = some (.slice .no s rows) := rfl
theorem pure1_nilp : Cell.nilp.pure1 = some .nilp := rfl
theorem pure1_nilm : Cell.nilm.pure1 = some .nilm := rfl
theorem pure1_nili : Cell.nili.pure1 = some .nili := rfl
theorem pure1_nilf : Cell.nilf.pure1 = some .nilf := rfl
def buildP (c : Cfg) (t : TypeId) (i : Option TyInfo) (parts : List (Nat × AV)) : Option (List Cell) := match i with
  | some i => match i.ty with
    | .struct _ => fillAll (placesOf c t) parts i.zero
    | .array _ e => if (c.size e).isSome then fillAll (placesOf c t) parts i.zero else none
    | _ => none
  | none => none
theorem build_eq {parts : List (Nat × AV)} : buildAV c t parts = buildP c t (c.ty t) parts := rfl
theorem build_struct {fs : List (Nat × TypeId)} {parts : List (Nat × AV)} : buildP c t (some ⟨.struct fs, s, b, z, q⟩) parts = fillAll (placesOf c t) parts z := rfl
theorem build_array {n : Nat} {parts : List (Nat × AV)} : buildP c t (some ⟨.array n e, s, b, z, q⟩) parts = if (c.size e).isSome then fillAll (placesOf c t) parts z else none := rfl
def placeP (c : Cfg) (i : Option TyInfo) (n : Nat) : Option (Nat × Nat) := match i with
  | some inf => match inf.ty with
    | .struct fs => (fs[n]?).bind fun (o, ft) => (c.size ft).map fun s => (o, s)
    | .array _ e => (c.size e).map fun s => (n * s, s)
    | _ => none
  | none => none
theorem place_eq {n : Nat} : placesOf c t n = placeP c (c.ty t) n := rfl
theorem place_struct {fs : List (Nat × TypeId)} {n : Nat} : placeP c (some ⟨.struct fs, s, b, z, q⟩) n = (fs[n]?).bind fun (o, ft) => (c.size ft).map fun s => (o, s) := rfl
theorem place_array {k n : Nat} : placeP c (some ⟨.array k e, s, b, z, q⟩) n = (c.size e).map fun s => (n * s, s) := rfl
theorem buildPlan_plain {x : List Cell} : buildPlan .plain (some x) = .val (.agg x) := rfl

/-! moves of nil -/
theorem const_tok_nil {nil : Bool} {i : Option TyInfo} (h : c.ty t = some ⟨.slice e, s, b, z, q⟩) {y' : Ty} {s' b' : Nat} {z' : List Cell} {q1 : Bool} (h2 : c.ty e = some ⟨y', s', b', z', q1⟩) :
    constPlan c .tok t nil (.one (.slice .exact q' [])) = .new (fun _ => [.tail 0 s']) fun r => .one (.slice (.tail r) s' []) := by
  simp only [constPlan, h, Cfg.size, h2, Option.map_some]
def tokQ : Option Nat → Plan
  | some s => .new (fun _ => [.tail 0 s]) fun r => .one (.slice (.tail r) s [])
  | none => .fail
def tokP (c : Cfg) (i : Option TyInfo) (x : AV) : Plan := match i with | some ⟨.slice e, _, _, _, _⟩ => tokQ (c.size e) | _ => .val x
theorem const_tok {nil : Bool} : constPlan c .tok t nil (.one (.slice .exact q' [])) = tokP c (c.ty t) (.one (.slice .exact q' [])) := by
  unfold constPlan tokP
  cases c.ty t with
  | none => rfl
  | some i => obtain ⟨y, _, _, _, _⟩ := i; cases y <;> rfl
theorem tokP_slice {x : AV} : tokP c (some ⟨.slice e, s, b, z, q⟩) x = tokQ (c.size e) := rfl
theorem tokQ_some : tokQ (some s) = .new (fun _ => [.tail 0 s]) fun r => .one (.slice (.tail r) s []) := rfl
def nownQ (e : TypeId) : Option Nat → Plan
  | some s => .new (fun _ => [.nrow e 0]) fun r => .one (.own r 0 s true 0 0)
  | none => .fail
def nownP (c : Cfg) (i : Option TyInfo) (x : AV) : Plan := match i with | some ⟨.slice e, _, _, _, _⟩ => nownQ e (c.size e) | _ => .val x
theorem const_own : constPlan c .own t true (.one (.slice .exact q' [])) = nownP c (c.ty t) (.one (.slice .exact q' [])) := by
  unfold constPlan nownP
  cases c.ty t with
  | none => rfl
  | some i => obtain ⟨y, _, _, _, _⟩ := i; cases y <;> rfl
theorem const_own_no {x : AV} : constPlan c .own t false x = .val x := by
  unfold constPlan
  split <;> simp_all
theorem const_tok_int {k : IntKind} {n : Int} {nil : Bool} : constPlan c .tok t nil (.one (.int k n)) = .val (.one (.int k n)) := by unfold constPlan; rfl
theorem const_tok_bool {n : Bool} {nil : Bool} : constPlan c .tok t nil (.one (.bool n)) = .val (.one (.bool n)) := by unfold constPlan; rfl
theorem isNil_nil : isNil (.const (.slice none 0 0)) = true := rfl
theorem isNil_tmp {n : Nat} : isNil (.tmp n) = false := rfl
theorem nownP_slice {x : AV} : nownP c (some ⟨.slice e, s, b, z, q⟩) x = nownQ e (c.size e) := rfl
theorem nownQ_some : nownQ e (some s) = .new (fun _ => [.nrow e 0]) fun r => .one (.own r 0 s true 0 0) := rfl

end Go.AI.W

namespace Go.AI.W
open Go Go.AI
variable {c : Cfg} {f : FuncId} {wb i : Nat} {Q : Ex → Fr → St → Prop} {fr : Fr} {st : St}
theorem nil_app {α : Type} {l : List α} : [] ++ l = l := rfl
theorem cons_app {α : Type} {x : α} {l m : List α} : (x :: l) ++ m = x :: (l ++ m) := rfl
theorem length_nil' {α : Type} : ([] : List α).length = 0 := rfl
theorem length_cons' {α : Type} {x : α} {l : List α} : (x :: l).length = l.length + 1 := rfl
theorem getE_zero {α : Type} {x : α} {l : List α} : (x :: l)[0]? = some x := rfl
theorem getE_succ {α : Type} {x : α} {l : List α} {n : Nat} : (x :: l)[n + 1]? = l[n]? := rfl
theorem bind_some' {α β : Type} {x : α} {k : α → Option β} : (some x).bind k = k x := rfl
theorem map_some' {α β : Type} {x : α} {k : α → β} : (some x).map k = some (k x) := rfl
theorem set_zero {α : Type} {x y : α} {l : List α} : (x :: l).set 0 y = y :: l := rfl
theorem set_succ {α : Type} {x y : α} {l : List α} {n : Nat} : (x :: l).set (n + 1) y = x :: l.set n y := rfl
theorem drop_zero' {α : Type} {l : List α} : l.drop 0 = l := rfl
theorem drop_succ' {α : Type} {x : α} {l : List α} {n : Nat} : (x :: l).drop (n + 1) = l.drop n := rfl
theorem take_zero' {α : Type} {l : List α} : l.take 0 = [] := by simp
theorem take_succ' {α : Type} {x : α} {l : List α} {n : Nat} : (x :: l).take (n + 1) = x :: l.take n := rfl
theorem sw_skip : SW c f wb i Q fr st .skip = Q .normal fr st := rfl
theorem sw_exit {id : Nat} : SW c f wb i Q fr st (.exit id) = Q (.exit id) fr st := rfl
theorem sw_ret : SW c f wb i Q fr st .ret = Q .ret fr st := rfl
theorem sw_label : SW c f wb i Q fr st .label = Q .normal fr st := rfl
theorem sw_seq {a b : Nat} : SW c f wb i Q fr st (.seq a b) = WN c f wb a (seqN c f wb b Q) fr st := rfl
theorem sw_cond {x : Operand} {a b : Nat} : SW c f wb i Q fr st (.cond x a b) = ∃ r, c.eval fr x = .one (.bool r) ∧ (r = true → WN c f wb a Q fr st) ∧ (r = false → WN c f wb b Q fr st) := rfl
theorem sw_block {id a : Nat} : SW c f wb i Q fr st (.block id a) = WN c f wb a (blockK id Q) fr st := rfl
theorem sw_scope {a : Nat} : SW c f wb i Q fr st (.scope a) = WN c f wb a Q fr st := rfl
theorem sw_region {id : Nat} {draw : Bool} : SW c f wb i Q fr st (.region id draw) = OW c f (c.ntmps f) wb id (c.ops f i) 0 (c.ops f i) (regN c f i id draw Q) fr st := rfl
theorem seqN_normal {j : Nat} : seqN c f wb j Q .normal fr st = WN c f wb j Q fr st := rfl
theorem seqN_exit {j id : Nat} : seqN c f wb j Q (.exit id) fr st = Q (.exit id) fr st := rfl
theorem seqN_ret {j : Nat} : seqN c f wb j Q .ret fr st = Q .ret fr st := rfl
theorem blockK_normal {id : Nat} : blockK id Q .normal fr st = Q .normal fr st := rfl
theorem blockK_exit {id id' : Nat} : blockK id Q (.exit id') fr st = Q (if id' = id then .normal else .exit id') fr st := rfl
theorem blockK_ret {id : Nat} : blockK id Q .ret fr st = Q .ret fr st := rfl
theorem loopN_normal {n0 : Nat} {h : Option (List Nat)} : loopN c f wb n0 i h Q .normal fr st = WN c f wb i Q (headFr h fr) (trim n0 ((headFr h fr).refs n0) st) := rfl
theorem loopN_exit {n0 id : Nat} {h : Option (List Nat)} : loopN c f wb n0 i h Q (.exit id) fr st = Q (.exit id) fr st := rfl
theorem loopN_ret {n0 : Nat} {h : Option (List Nat)} : loopN c f wb n0 i h Q .ret fr st = Q .ret fr st := rfl
theorem regN_eq {id : Nat} {draw : Bool} {es : List Eff} : regN c f i id draw Q es fr st = ((draw = true → clashFree (c.opsA f i) es = true) ∧ Q .normal (c.behind f id fr) st) := rfl
theorem regN_quiet {id : Nat} {es : List Eff} : regN c f i id false Q es fr st = Q .normal (c.behind f id fr) st := by simp [regN]
theorem regN_draw {id : Nat} {es : List Eff} : regN c f i id true Q es fr st = (clashFree (c.opsA f i) es = true ∧ Q .normal (c.behind f id fr) st) := by simp [regN]
theorem behind_eq {id : Nat} : c.behind f id fr = headFr (c.live f id) fr := rfl
theorem headFr_some {l : List Nat} : headFr (some l) fr = fr.keep l := rfl
theorem headFr_none : headFr none fr = fr := rfl
theorem ex_bool {b : Bool} {P : Bool → Prop} : (∃ r, AV.one (Cell.bool b) = AV.one (Cell.bool r) ∧ P r) = P b := by simp
end Go.AI.W

namespace Go.AI.W
open Go Go.AI
variable {n r g off len s : Nat} {fr : Fr} {st : St}
/-! what falls away -/
theorem trim_eq {ok : Bool} : trim n ok st = if st.length ≤ n then st else if (ok && (st.take n).all (·.refs n)) = true then st.take n else st := rfl
theorem frefs_nil : Fr.refs n [] = true := rfl
theorem frefs_cons {t : Nat} {v : AV} : Fr.refs n ((t, v) :: fr) = (v.refs n && Fr.refs n fr) := rfl
theorem avrefs_any : AV.refs n .any = true := rfl
theorem avrefs_one {x : Cell} : AV.refs n (.one x) = x.refs n := rfl
theorem avrefs_agg {l : List Cell} : AV.refs n (.agg l) = l.all (·.refs n) := rfl
theorem avrefs_tup {l : List AV} : AV.refs n (.tup l) = AV.refs.all n l := rfl
theorem avall_nil : AV.refs.all n [] = true := rfl
theorem avall_cons {v : AV} {l : List AV} : AV.refs.all n (v :: l) = (v.refs n && AV.refs.all n l) := rfl
theorem crefs_int {k : IntKind} {m : Int} : Cell.refs n (.int k m) = true := rfl
theorem crefs_bool {b : Bool} : Cell.refs n (.bool b) = true := rfl
theorem crefs_str {b : ByteArray} : Cell.refs n (.str b) = true := rfl
theorem crefs_no {rows : List (List Cell)} : Cell.refs n (.slice .no s rows) = true := rfl
theorem crefs_exact {rows : List (List Cell)} : Cell.refs n (.slice .exact s rows) = true := rfl
theorem crefs_tail {rows : List (List Cell)} : Cell.refs n (.slice (.tail r) s rows) = decide (r < n) := rfl
theorem crefs_own {cp : Bool} : Cell.refs n (.own r g s cp off len) = decide (r < n) := rfl
theorem crefs_ptr : Cell.refs n (.ptr r g off) = decide (r < n) := rfl
theorem crefs_map : Cell.refs n (.map r) = decide (r < n) := rfl
theorem crefs_fp {l : List Cell} : Cell.refs n (.fp l) = true := rfl
theorem crefs_nilp : Cell.refs n .nilp = true := rfl
theorem crefs_nilm : Cell.refs n .nilm = true := rfl
theorem crefs_nilf : Cell.refs n .nilf = true := rfl
theorem crefs_nili : Cell.refs n .nili = true := rfl
theorem crefs_func {f : FuncId} {a b : List Cell} : Cell.refs n (.func f a b) = (Cell.refs.belowAll n a && Cell.refs.belowAll n b) := by rw [Cell.refs]
theorem below_nil : Cell.refs.belowAll n [] = true := by rw [Cell.refs.belowAll]
theorem below_cons {x : Cell} {l : List Cell} : Cell.refs.belowAll n (x :: l) = (x.refs n && Cell.refs.belowAll n l) := by rw [Cell.refs.belowAll]
theorem rrefs_row {t : TypeId} {l : List Cell} : Res.refs n (.row t g l) = l.all (·.refs n) := rfl
theorem rrefs_nrow {t : TypeId} : Res.refs n (.nrow t g) = true := rfl
theorem rrefs_tail : Res.refs n (.tail g s) = true := rfl
theorem rrefs_dead : Res.refs n .dead = true := rfl
theorem all_nil' {α : Type} {p : α → Bool} : [].all p = true := rfl
theorem all_cons' {α : Type} {p : α → Bool} {x : α} {l : List α} : (x :: l).all p = (p x && l.all p) := rfl
/-! ends -/
theorem endK_ret {c : Cfg} {rs : List ResultVar} {K : AV → St → Prop} : endK c rs K .ret fr st = ∃ vs, resultsAV c fr st rs = some vs ∧ K (tupAV vs) st := by simp [endK]
theorem endK_normal {c : Cfg} {rs : List ResultVar} {K : AV → St → Prop} : endK c rs K .normal fr st = ∃ vs, resultsAV c fr st rs = some vs ∧ K (tupAV vs) st := by simp [endK]
theorem res_nil {c : Cfg} : resultsAV c fr st [] = some [] := rfl
theorem res_tmp {c : Cfg} {t : Nat} {l : List ResultVar} : resultsAV c fr st (.tmp t :: l) = (resultsAV c fr st l).map (fr.get t :: ·) := rfl
def resK (st : St) (p : Plan) (k : AV → Option (List AV)) : Option (List AV) := match p with | .rd r q => (st[r]?).bind fun x => (q x).bind k | _ => none
theorem res_cell {c : Cfg} {a : Nat} {t : TypeId} {l : List ResultVar} : resultsAV c fr st (.cell a t :: l) = resK st (loadPlan c t (fr.get a)) fun v => (resultsAV c fr st l).map (v :: ·) := by
  simp only [resultsAV, resK]; cases loadPlan c t (fr.get a) <;> rfl
theorem resK_rd {q : Res → Option AV} {k : AV → Option (List AV)} : resK st (.rd r q) k = (st[r]?).bind fun x => (q x).bind k := rfl
theorem tup_one {v : AV} : tupAV [v] = v := rfl
theorem tup_two {u v : AV} {l : List AV} : tupAV (u :: v :: l) = .tup (u :: v :: l) := rfl
end Go.AI.W
namespace Go.AI.W
open Go Go.AI
variable {n r g off len e : Nat} {st st' : St} {rows : List (List Cell)} {tok : Tok}
/-! what is handed on -/
def handT (x : Option Res) (e : Nat) (rows : List (List Cell)) (st : St) : Option (AV × St) := match x with
  | some (.tail n e') => if n = rows.length ∧ e = e' then some (.one (.slice (.tail st.length) e rows), st ++ [.tail n e]) else none
  | _ => none
theorem hand_tok : handOn .tok (.one (.slice (.tail r) e rows)) st' st = handT (st'[r]?) e rows st := by
  simp only [handOn, handT]
  cases st'[r]? with | none => rfl | some x => cases x <;> rfl
theorem handT_tail : handT (some (.tail n e)) e rows st = if n = rows.length then some (.one (.slice (.tail st.length) e rows), st ++ [.tail n e]) else none := by simp [handT]
theorem hand_plain {v : AV} : handOn .plain v st' st = (outAV st' 0 v).map fun v => (v, st) := rfl
theorem out_one {x : Cell} : outAV st n (.one x) = (outCell st n x).map .one := rfl
theorem out_agg {l : List Cell} : outAV st n (.agg l) = (outCells st n l).map .agg := rfl
theorem out_tup {l : List AV} : outAV st n (.tup l) = (outAV.outAll st n l).map .tup := rfl
def outK {α : Type} (x : Option α) (l : Option (List α)) : Option (List α) := match x, l with | some x, some l => some (x :: l) | _, _ => none
theorem outs_nil : outCells st n [] = some [] := rfl
theorem outs_cons {x : Cell} {l : List Cell} : outCells st n (x :: l) = outK (outCell st n x) (outCells st n l) := by
  simp only [outCells, outK]; cases outCell st n x <;> cases outCells st n l <;> rfl
theorem outAll_nil : outAV.outAll st n [] = some [] := rfl
theorem outAll_cons {x : AV} {l : List AV} : outAV.outAll st n (x :: l) = outK (outAV st n x) (outAV.outAll st n l) := by
  simp only [outAV.outAll, outK]; cases outAV st n x <;> cases outAV.outAll st n l <;> rfl
theorem outK_some {α : Type} {x : α} {l : List α} : outK (some x) (some l) = some (x :: l) := rfl
theorem outc_int {k : IntKind} {m : Int} : outCell st n (.int k m) = some (.int k m) := by unfold outCell; split <;> rfl
theorem outc_bool {b : Bool} : outCell st n (.bool b) = some (.bool b) := by unfold outCell; split <;> rfl
theorem outc_str {b : ByteArray} : outCell st 0 (.str b) = some (.str b) := rfl
theorem outc_slice : outCell st 0 (.slice tok e rows) = some (.slice .no e rows) := rfl
theorem outc_no : outCell st n (.slice .no e rows) = some (.slice .no e rows) := by unfold outCell; split <;> rfl
theorem outc_exact : outCell st (n + 1) (.slice .exact e rows) = some (.slice .exact e rows) := by unfold outCell; rw [if_pos ⟨by omega, rfl⟩]
theorem outc_tail : outCell st n (.slice (.tail r) e rows) = if 0 < n ∧ r < n then some (.slice (.tail r) e rows) else some (.slice .no e rows) := by
  unfold outCell
  by_cases h : 0 < n ∧ r < n
  · rw [if_pos h, if_pos ⟨h.1, by simp [Cell.refs, h.2]⟩]
  · rw [if_neg h, if_neg (fun h' => h ⟨h'.1, by simpa [Cell.refs] using h'.2⟩)]; rfl
theorem outc_nilp : outCell st 0 .nilp = some .nilp := rfl
theorem outc_nilm : outCell st 0 .nilm = some .nilm := rfl
theorem outc_own {cp : Bool} {s : Nat} : outCell st 0 (.own r g s cp off len) = freezeCell (fun _ => true) st 6 (.own r g s cp off len) := by
  simp [outCell]
def frzK (st : St) (k : Nat) (g s off len : Nat) (x : Option Res) : Option Cell := match x with
  | some (.row _ g' cells) => if g = g' ∧ off + len * s ≤ cells.length then (freezeList (freezeCell (fun _ => true) st k) ((cells.drop off).take (len * s))).map fun cs => .slice .no s (chunk s len cs) else none
  | some (.nrow _ g') => if g = g' ∧ len = 0 then some (.slice .no s []) else none
  | _ => none
theorem frz_own {cp : Bool} {s k : Nat} : freezeCell (fun _ => true) st (k + 1) (.own r g s cp off len) = frzK st k g s off len (st[r]?) := by
  simp only [freezeCell, frzK, true_and]
  cases st[r]? with | none => rfl | some x => cases x <;> rfl
theorem frzK_row {t s k : Nat} {cells : List Cell} : frzK st k g s off len (some (.row t g cells)) = if off + len * s ≤ cells.length then (freezeList (freezeCell (fun _ => true) st k) ((cells.drop off).take (len * s))).map fun cs => .slice .no s (chunk s len cs) else none := by simp [frzK]
theorem frzK_nrow {t s k : Nat} : frzK st k g s off 0 (some (.nrow t g)) = some (.slice .no s []) := by simp [frzK]
theorem frzl_nil {f : Cell → Option Cell} : freezeList f [] = some [] := rfl
theorem frzl_cons {f : Cell → Option Cell} {x : Cell} {l : List Cell} : freezeList f (x :: l) = outK (f x) (freezeList f l) := by
  simp only [freezeList, outK]; cases f x <;> cases freezeList f l <;> rfl
/-! fresh ones -/
def handO (x : Option Res) (r g s len : Nat) (st' st : St) : Option (AV × St) := match x with
  | some (.row t g' cells) => if g = g' then (freezeCells (fun q => q != r) st' 6 cells).map fun cells => (.one (.own st.length 0 s true 0 len), st ++ [.row t 0 cells]) else none
  | some (.nrow t g') => if g = g' ∧ len = 0 then some (.one (.own st.length 0 s true 0 0), st ++ [.nrow t 0]) else none
  | _ => none
theorem hand_own {s : Nat} : handOn .own (.one (.own r g s true 0 len)) st' st = handO (st'[r]?) r g s len st' st := by
  simp only [handOn, handO]
  cases st'[r]? with | none => rfl | some x => cases x <;> rfl
theorem handO_row {t s : Nat} {cells : List Cell} : handO (some (.row t g cells)) r g s len st' st = (freezeCells (fun q => q != r) st' 6 cells).map fun cells => (.one (.own st.length 0 s true 0 len), st ++ [.row t 0 cells]) := by simp [handO]
theorem handO_nrow {t s : Nat} : handO (some (.nrow t g)) r g s 0 st' st = some (.one (.own st.length 0 s true 0 0), st ++ [.nrow t 0]) := by simp [handO]
def handTO (x : Option Res) (r g s len : Nat) (st' st : St) : Option (AV × St) := match x with
  | some (.row _ g' cells) => if g = g' ∧ len * s ≤ cells.length then
      (freezeCells (fun q => q != r) st' 6 (cells.take (len * s))).map fun cells => (.one (.slice (.tail st.length) s (chunk s len cells)), st ++ [.tail len s])
    else none
  | some (.nrow _ g') => if g = g' ∧ len = 0 then some (.one (.slice (.tail st.length) s []), st ++ [.tail 0 s]) else none
  | _ => none
theorem hand_tok_own {s : Nat} : handOn .tok (.one (.own r g s true 0 len)) st' st = handTO (st'[r]?) r g s len st' st := by
  simp only [handOn, handTO]
  cases st'[r]? with | none => rfl | some x => cases x <;> rfl
theorem handTO_row {t s : Nat} {cells : List Cell} : handTO (some (.row t g cells)) r g s len st' st = if len * s ≤ cells.length then (freezeCells (fun q => q != r) st' 6 (cells.take (len * s))).map fun cells => (.one (.slice (.tail st.length) s (chunk s len cells)), st ++ [.tail len s]) else none := by simp [handTO]
theorem handTO_nrow {t s : Nat} : handTO (some (.nrow t g)) r g s 0 st' st = some (.one (.slice (.tail st.length) s []), st ++ [.tail 0 s]) := by simp [handTO]
theorem exmap {α β : Type} {x : Option α} {f : α → β} {P : β → Prop} : (∃ v, x.map f = some v ∧ P v) = ∃ v, x = some v ∧ P (f v) := by cases x <;> simp
end Go.AI.W
namespace Go.AI.W
open Go Go.AI
theorem imp_t {A : Prop} : (True → A) = A := by simp
theorem imp_f {A : Prop} : (False → A) = True := by simp
theorem tf_eq : (true = false) = False := by simp
theorem ft_eq : (false = true) = False := by simp
theorem tt_eq : (true = true) = True := by simp
theorem ff_eq : (false = false) = True := by simp
theorem beq_tt : (true == true) = true := rfl
theorem beq_tf : (true == false) = false := rfl
theorem beq_ft : (false == true) = false := rfl
theorem beq_ff : (false == false) = true := rfl
theorem dec_t {h : Decidable True} : @decide True h = true := by simp
theorem dec_f {h : Decidable False} : @decide False h = false := by simp
theorem not_t : (!true) = false := rfl
theorem not_f : (!false) = true := rfl
theorem cast0 : ((0 : Nat) : Int) = 0 := rfl
theorem cast1 : ((1 : Nat) : Int) = 1 := rfl
theorem cast2 : ((2 : Nat) : Int) = 2 := rfl
theorem wrap0 : IntKind.i64.wrap 0 = 0 := by decide
theorem cm_ne_std : (CMode.std != CMode.mt) = true := rfl
theorem cm_eq_std : (CMode.std == CMode.mt) = false := rfl
theorem cm_ne_exact : (CMode.exact != CMode.mt) = true := rfl
theorem cm_eq_exact : (CMode.exact == CMode.mt) = false := rfl
theorem cm_ne_mt : (CMode.mt != CMode.mt) = false := rfl
theorem cm_eq_mt : (CMode.mt == CMode.mt) = true := rfl
theorem kd_eq_plain : (Kind.plain == Kind.plain) = true := rfl
theorem kd_ne_plain : (Kind.plain != Kind.plain) = false := rfl
theorem kd_eq_tok : (Kind.tok == Kind.plain) = false := rfl
theorem kd_ne_tok : (Kind.tok != Kind.plain) = true := rfl
theorem kd_eq_own : (Kind.own == Kind.plain) = false := rfl
theorem kd_ne_own : (Kind.own != Kind.plain) = true := rfl
theorem or_t {b : Bool} : (true || b) = true := rfl
theorem or_f {b : Bool} : (false || b) = b := by cases b <;> rfl
theorem and_t {b : Bool} : (true && b) = b := by cases b <;> rfl
theorem and_f {b : Bool} : (false && b) = false := rfl
theorem app_len {α : Type} {l : List α} {x : α} : (l ++ [x])[l.length]? = some x := by simp
theorem pa_nil : pureArgs [] = some [] := rfl
theorem pa_cons {x : AV} {l : List AV} : pureArgs (x :: l) = outK x.pure1 (pureArgs l) := by
  simp only [pureArgs, outK]; cases x.pure1 <;> cases pureArgs l <;> rfl
theorem pax_nil : pureArgsX [] = some [] := rfl
theorem pax_cons {x : AV} {l : List AV} : pureArgsX (x :: l) = outK x.pureX (pureArgsX l) := by
  simp only [pureArgsX, outK]; cases x.pureX <;> cases pureArgsX l <;> rfl
theorem av1_one {x : Cell} : (AV.one x).pure1 = x.pure1.map .one := rfl
theorem av1_agg {l : List Cell} : (AV.agg l).pure1 = (purify l).map .agg := rfl
theorem avX_one {x : Cell} : (AV.one x).pureX = x.pureX.map .one := rfl
theorem avX_agg {l : List Cell} : (AV.agg l).pureX = (purifyX l).map .agg := rfl
theorem px_nil : purifyX [] = some [] := rfl
theorem px_cons {x : Cell} {l : List Cell} : purifyX (x :: l) = outK x.pureX (purifyX l) := by
  simp only [purifyX, outK]; cases x.pureX <;> cases purifyX l <;> rfl
theorem cX_int {k : IntKind} {n : Int} : (Cell.int k n).pureX = some (.int k n) := rfl
theorem cX_bool {n : Bool} : (Cell.bool n).pureX = some (.bool n) := rfl
theorem cX_exact {s : Nat} {rows : List (List Cell)} : (Cell.slice .exact s rows).pureX = some (.slice .exact s rows) := rfl
theorem cX_no {s : Nat} {rows : List (List Cell)} : (Cell.slice .no s rows).pureX = some (.slice .no s rows) := rfl
theorem cX_tail {s r : Nat} {rows : List (List Cell)} : (Cell.slice (.tail r) s rows).pureX = some (.slice .no s rows) := rfl
theorem p1_own {r g s off len : Nat} {cp : Bool} : (Cell.own r g s cp off len).pure1 = none := rfl
theorem p1_ptr {r g off : Nat} : (Cell.ptr r g off).pure1 = none := rfl
theorem p1_map {r : Nat} : (Cell.map r).pure1 = none := rfl
theorem p1_fp {l : List Cell} : (Cell.fp l).pure1 = none := rfl
theorem p1_func {f : FuncId} {a b : List Cell} : (Cell.func f a b).pure1 = none := rfl
theorem pureK_none {l : Option (List Cell)} : pureK none l = none := by cases l <;> rfl
theorem pureK_none2 {x : Cell} : pureK (some x) none = none := rfl
theorem outK_none {α : Type} {l : Option (List α)} : outK (none : Option α) l = none := by cases l <;> rfl
theorem outK_none2 {α : Type} {x : Option α} : outK x none = none := by cases x <;> rfl
theorem map_none' {α β : Type} {k : α → β} : (none : Option α).map k = none := rfl
theorem eff_call {c : Cfg} {f : FuncId} {args : List AV} : (Plan.call f args).eff c = if c.alone f args then .none else if (c.primS f).isSome || c.mode f == .mt || c.fresh f != .plain then .bad else .all := rfl
theorem alone_eq {c : Cfg} {f : FuncId} {args : List AV} : c.alone f args = ((c.prim f).isSome || ((c.primS f).isNone && c.mode f != .mt && c.fresh f == .plain && (pureArgs args).isSome)) := rfl
theorem guard_t {p : Bool} {A B : Prop} (h : p = true) : guardK (some p) A .mk B .mk = A := by rw [h]; rfl
end Go.AI.W
namespace Go.AI.W
open Go Go.AI
end Go.AI.W
namespace Go.AI.W
open Go Go.AI
variable {c : Cfg} {wb : Nat} {st : St} {kd : Kind} {t e : TypeId} {y : Ty} {s b q' : Nat} {z : List Cell} {q : Bool}
/-! slicing -/
def slcP (c : Cfg) (i : Option TyInfo) (x : AV) (lo hi mx : Option AV) : Plan :=
  match i, x with
  | some ⟨.slice e, _, _, _, _⟩, .one (.slice tok esz rows) =>
    match c.size e with
    | some s =>
      if esz = s ∨ rows = [] then
        match bound hi rows.length rows.length with
        | some h => match bound lo h 0 with
          | some l =>
            match mx with
            | none =>
              .val (.one (.slice (if tok = .exact ∧ h = rows.length then .exact else if hi.isNone && lo.isNone then tok else .no) esz ((rows.take h).drop l)))
            | some (.one (.int _ m)) => if (h : Int) = m ∧ h ≤ rows.length ∧ hi.isSome = true then .val (.one (.slice .exact esz ((rows.take h).drop l))) else .fail
            | _ => .fail
          | none => .fail
        | none => .fail
      else .fail
    | none => .fail
  | some ⟨.slice e, _, _, _, _⟩, .one (.own r g esz cp off len) =>
    match mx, bound hi len len, c.size e with
    | none, some h, some s => match bound lo h 0 with
      | some l => if esz = s then .val (.one (.own r g esz cp (off + l * s) (h - l))) else .fail
      | none => .fail
    | _, _, _ => .fail
  | some ⟨.array n e, _, _, _, _⟩, .one (.ptr r g off) =>
    match mx, bound hi n n, c.size e with
    | none, some h, some s => match bound lo h 0 with
      | some l => .val (.one (.own r g s false (off + l * s) (h - l)))
      | none => .fail
    | _, _, _ => .fail
  | _, _ => .fail
theorem slice_eq {x : AV} {lo hi mx : Option AV} : slicePlan c t x lo hi mx = slcP c (c.ty t) x lo hi mx := by
  unfold slicePlan slcP
  cases c.ty t with
  | none => rfl
  | some i => obtain ⟨y, _, _, _, _⟩ := i; cases y <;> first | rfl | (cases x with | one d => cases d <;> rfl | _ => rfl)
def slcO (r g esz : Nat) (cp : Bool) (off : Nat) (h sz l : Option Nat) : Plan := match h, sz, l with
  | some h, some s, some l => if esz = s then .val (.one (.own r g esz cp (off + l * s) (h - l))) else .fail
  | _, _, _ => .fail
def boundO (lo : Option AV) (h : Option Nat) : Option Nat := match h with | some h => bound lo h 0 | none => none
theorem slc_own {r g esz off len : Nat} {cp : Bool} {lo hi : Option AV} : slcP c (some ⟨.slice e, s, b, z, q⟩) (.one (.own r g esz cp off len)) lo hi none = slcO r g esz cp off (bound hi len len) (c.size e) (boundO lo (bound hi len len)) := by
  simp only [slcP]
  cases bound hi len len with
  | none => rfl
  | some h => cases c.size e with
    | none => rfl
    | some s =>
      show _ = slcO r g esz cp off (some h) (some s) (bound lo h 0)
      simp only [slcO]
      cases bound lo h 0 <;> rfl
theorem slcO_some {r g esz off h l : Nat} {cp : Bool} : slcO r g esz cp off (some h) (some esz) (some l) = .val (.one (.own r g esz cp (off + l * esz) (h - l))) := by simp [slcO]
theorem boundO_some {lo : Option AV} {h : Nat} : boundO lo (some h) = bound lo h 0 := rfl
theorem bound_none {a d : Nat} : bound none a d = some d := rfl
theorem bound_int {k : IntKind} {n : Int} {a d : Nat} : bound (some (.one (.int k n))) a d = if 0 ≤ n ∧ n ≤ a then some n.toNat else none := rfl
def slcS (tok : Tok) (esz : Nat) (rows : List (List Cell)) (hi lo : Bool) (h sz l : Option Nat) : Plan := match h, sz, l with
  | some h, some s, some l => if esz = s ∨ rows = [] then .val (.one (.slice (if tok = .exact ∧ h = rows.length then .exact else if hi && lo then tok else .no) esz ((rows.take h).drop l))) else .fail
  | _, _, _ => .fail
theorem slc_rows {tok : Tok} {esz : Nat} {rows : List (List Cell)} {lo hi : Option AV} : slcP c (some ⟨.slice e, s, b, z, q⟩) (.one (.slice tok esz rows)) lo hi none =
    slcS tok esz rows hi.isNone lo.isNone (bound hi rows.length rows.length) (c.size e) (boundO lo (bound hi rows.length rows.length)) := by
  simp only [slcP]
  cases c.size e with
  | none => cases bound hi rows.length rows.length <;> rfl
  | some s => cases bound hi rows.length rows.length with
    | none => simp [slcS]
    | some h =>
      show _ = slcS tok esz rows hi.isNone lo.isNone (some h) (some s) (bound lo h 0)
      simp only [slcS]
      cases bound lo h 0 with
      | none => simp
      | some l => rfl
theorem slcS_nil {tok : Tok} {esz h l : Nat} {x y : Bool} : slcS tok esz [] x y (some h) (some s) (some l) = .val (.one (.slice (if tok = .exact ∧ h = 0 then .exact else if x && y then tok else .no) esz [])) := by simp [slcS]
theorem slcS_some {tok : Tok} {rows : List (List Cell)} {h l : Nat} {x y : Bool} : slcS tok s rows x y (some h) (some s) (some l) = .val (.one (.slice (if tok = .exact ∧ h = rows.length then .exact else if x && y then tok else .no) s ((rows.take h).drop l))) := by simp [slcS]
def slcA (r g off : Nat) (h sz l : Option Nat) : Plan := match h, sz, l with
  | some h, some s, some l => .val (.one (.own r g s false (off + l * s) (h - l)))
  | _, _, _ => .fail
theorem slc_array {r g off n : Nat} {lo hi : Option AV} : slcP c (some ⟨.array n e, s, b, z, q⟩) (.one (.ptr r g off)) lo hi none = slcA r g off (bound hi n n) (c.size e) (boundO lo (bound hi n n)) := by
  simp only [slcP]
  cases bound hi n n with
  | none => rfl
  | some h => cases c.size e with
    | none => rfl
    | some s =>
      show _ = slcA r g off (some h) (some s) (bound lo h 0)
      simp only [slcA]
      cases bound lo h 0 <;> rfl
theorem slcA_some {r g off h l : Nat} : slcA r g off (some h) (some s) (some l) = .val (.one (.own r g s false (off + l * s) (h - l))) := rfl
theorem omap_none {α β : Type} {k : α → β} : Option.map k none = none := rfl
theorem isNone_none {α : Type} : (none : Option α).isNone = true := rfl
theorem isNone_some {α : Type} {x : α} : (some x).isNone = false := rfl
theorem isSome_none {α : Type} : (none : Option α).isSome = false := rfl
theorem isSome_some {α : Type} {x : α} : (some x).isSome = true := rfl
/-! cap, make -/
def capP (i : Option TyInfo) (x : AV) : Plan := match i, x with | some ⟨.slice _, _, _, _, _⟩, .one (.slice .exact _ rows) => .val (.one (.int .i64 rows.length)) | _, _ => .fail
theorem cap_eq {x : AV} : capPlan c t x = capP (c.ty t) x := by
  unfold capPlan capP
  cases c.ty t with
  | none => rfl
  | some i => obtain ⟨y, _, _, _, _⟩ := i; cases y <;> first | rfl | (cases x with | one d => cases d with | slice tok a b => cases tok <;> rfl | _ => rfl | _ => rfl)
theorem cap_exact {rows : List (List Cell)} : capP (some ⟨.slice e, s, b, z, q⟩) (.one (.slice .exact q' rows)) = .val (.one (.int .i64 rows.length)) := rfl
def newsI (n : Int) (b : Nat) (z : Option (List Cell)) : Option (List (List Cell)) := if 0 ≤ n ∧ n * b ≤ 140737488355328 ∧ n ≤ 9223372036854775807 then z.map fun z => List.replicate n.toNat z else none
theorem news_int {k k' : IntKind} {n : Int} {s' b' : Nat} {z' : List Cell} {q1 : Bool} : newsP ⟨y, s, b, z, q⟩ (some ⟨.int k, s', b', z', q1⟩) (.one (.int k' n)) = newsI n b (purify z) := rfl
theorem newsI_some {n : Int} {z : List Cell} : newsI n b (some z) = if 0 ≤ n ∧ n * b ≤ 140737488355328 ∧ n ≤ 9223372036854775807 then some (List.replicate n.toNat z) else none := rfl
theorem append_ns_ite {i : TyInfo} {p : Prop} [Decidable p] {ns : List (List Cell)} {x : AV} : appP3 kd e i (if p then some ns else none) x = if p then appendTo kd e i ns x else .fail := by split <;> rfl
theorem app_exact_own {ns : List (List Cell)} {x : List Cell} {es : Nat} : appendTo .own e ⟨y, s, b, z, q⟩ (x :: ns) (.one (.slice .exact es [])) =
    if (ns.length + 1) * b ≤ 140737488355328 ∧ ns.length + 1 ≤ 9223372036854775807 then .new (fun _ => [.row e 0 (x :: ns).flatten]) fun r => .one (.own r 0 s true 0 (ns.length + 1)) else .fail := by
  simp only [appendTo, fits, or_true, true_and, Bool.and_eq_true, decide_eq_true_eq, List.length_nil, Nat.zero_add, List.length_cons, List.nil_append]
theorem app_exact_own2 {rows ns : List (List Cell)} {x : List Cell} : appendTo .own e ⟨y, s, b, z, q⟩ (x :: ns) (.one (.slice .exact s rows)) =
    if (rows.length + (x :: ns).length) * b ≤ 140737488355328 ∧ rows.length + (x :: ns).length ≤ 9223372036854775807 then .new (fun _ => [.row e 0 (rows ++ x :: ns).flatten]) fun r => .one (.own r 0 s true 0 (rows.length + (x :: ns).length)) else .fail := by
  simp only [appendTo, fits, true_or, true_and, Bool.and_eq_true, decide_eq_true_eq]
/-- A new slice that is none's. -/
theorem app_exact_nil {ns : List (List Cell)} {es : Nat} : appendTo .plain e ⟨y, s, b, z, q⟩ ns (.one (.slice .exact es [])) =
    if ns.length * b ≤ 140737488355328 ∧ ns.length ≤ 9223372036854775807 then .new (fun _ => [.tail ns.length s]) fun r => .one (.slice (.tail r) s ns) else .fail := by
  simp only [appendTo, fits, or_true, true_and, Bool.and_eq_true, decide_eq_true_eq, List.length_nil, Nat.zero_add, List.nil_append]
def mkP (c : Cfg) (kd : Kind) (i : Option TyInfo) (l cp : AV) : Plan := match i, l, cp with
  | some ⟨.slice e, _, _, _, _⟩, .one (.int .i64 n), .one (.int .i64 m) =>
    match c.ty e with
    | some i =>
      if 0 ≤ n ∧ n ≤ m ∧ m * i.bytes ≤ 140737488355328 ∧ m ≤ 9223372036854775807 then
        match kd with
        | .tok => match purify i.zero with
          | some z => .new (fun _ => [.tail n.toNat i.size]) fun r => .one (.slice (.tail r) i.size (List.replicate n.toNat z))
          | none => .fail
        | _ => .new (fun _ => [.row e 0 (zeros i.zero n.toNat)]) fun r => .one (.own r 0 i.size true 0 n.toNat)
      else .fail
    | none => .fail
  | _, _, _ => .fail
theorem mk_eq {x v : AV} : makeSlicePlan c kd t x v = mkP c kd (c.ty t) x v := by
  unfold makeSlicePlan mkP
  cases c.ty t with
  | none => rfl
  | some i =>
    obtain ⟨y, _, _, _, _⟩ := i
    cases y <;> rfl
def mkQ (kd : Kind) (e : TypeId) (i : Option TyInfo) (n m : Int) : Plan := match i with
  | some i =>
      if 0 ≤ n ∧ n ≤ m ∧ m * i.bytes ≤ 140737488355328 ∧ m ≤ 9223372036854775807 then
        match kd with
        | .tok => match purify i.zero with
          | some z => .new (fun _ => [.tail n.toNat i.size]) fun r => .one (.slice (.tail r) i.size (List.replicate n.toNat z))
          | none => .fail
        | _ => .new (fun _ => [.row e 0 (zeros i.zero n.toNat)]) fun r => .one (.own r 0 i.size true 0 n.toNat)
      else .fail
  | none => .fail
theorem mk_slice {n m : Int} : mkP c kd (some ⟨.slice e, s, b, z, q⟩) (.one (.int .i64 n)) (.one (.int .i64 m)) = mkQ kd e (c.ty e) n m := rfl
theorem mkQ_own {n m : Int} : mkQ .own e (some ⟨y, s, b, z, q⟩) n m = if 0 ≤ n ∧ n ≤ m ∧ m * b ≤ 140737488355328 ∧ m ≤ 9223372036854775807 then .new (fun _ => [.row e 0 (zeros z n.toNat)]) fun r => .one (.own r 0 s true 0 n.toNat) else .fail := rfl
theorem mkQ_plain {n m : Int} : mkQ .plain e (some ⟨y, s, b, z, q⟩) n m = if 0 ≤ n ∧ n ≤ m ∧ m * b ≤ 140737488355328 ∧ m ≤ 9223372036854775807 then .new (fun _ => [.row e 0 (zeros z n.toNat)]) fun r => .one (.own r 0 s true 0 n.toNat) else .fail := rfl
def mkT (s : Nat) (n : Int) (z : Option (List Cell)) : Plan := match z with | some z => .new (fun _ => [.tail n.toNat s]) fun r => .one (.slice (.tail r) s (List.replicate n.toNat z)) | none => .fail
theorem mkQ_tok {n m : Int} : mkQ .tok e (some ⟨y, s, b, z, q⟩) n m = if 0 ≤ n ∧ n ≤ m ∧ m * b ≤ 140737488355328 ∧ m ≤ 9223372036854775807 then mkT s n (purify z) else .fail := rfl
theorem mkT_some {n : Int} {z : List Cell} : mkT s n (some z) = .new (fun _ => [.tail n.toNat s]) fun r => .one (.slice (.tail r) s (List.replicate n.toNat z)) := rfl
/-! handing on -/
theorem hand_own_exact {st' : St} {rows : List (List Cell)} : handOn .own (.one (.slice .exact s rows)) st' st = some (.one (.slice .exact s rows), st) := rfl
theorem hand_own_tail {st' : St} {r : Nat} {rows : List (List Cell)} : handOn .own (.one (.slice (.tail r) s rows)) st' st = some (.one (.slice .no s rows), st) := rfl
theorem hand_own_no {st' : St} {rows : List (List Cell)} : handOn .own (.one (.slice .no s rows)) st' st = some (.one (.slice .no s rows), st) := rfl
end Go.AI.W
namespace Go.AI.W
open Go Go.AI
set_option linter.defProp false in
def AIS := And.intro @W.ow_nil <| And.intro @W.ow_cons <| And.intro @W.guardK_t <| And.intro @W.guardK_f <| And.intro @W.wanted_none <| And.intro @W.wanted_some <| And.intro @W.wantK_bool <| And.intro @W.putK_none <| And.intro @W.fset <| And.intro @W.get_nil <| And.intro @W.get_cons <| And.intro @W.keep_nil <| And.intro @W.keep_cons <| And.intro @W.xe_fail <| And.intro @W.xe_val <| And.intro @W.xe_rd <| And.intro @W.xe_wr <| And.intro @W.xe_new <| And.intro @W.xe_call <| And.intro @W.xe_some <| And.intro @W.xe_none <| And.intro @W.xe_ite <| And.intro @W.xe_ofOpt_ite <| And.intro @W.ex_some <| And.intro @W.ex_ite <| And.intro @W.ite_false' <| And.intro @W.op_move <| And.intro @W.op_assign <| And.intro @W.op_pick <| And.intro @W.pick_t <| And.intro @W.pick_f <| And.intro @W.pick_b <| And.intro @W.op_alloc <| And.intro @W.alloc_some <| And.intro @W.op_box <| And.intro @W.box_some <| And.intro @W.var_plain <| And.intro @W.cells_one <| And.intro @W.cells_agg <| And.intro @W.op_build <| And.intro @W.op_buildSlice <| And.intro @W.op_load <| And.intro @W.op_store <| And.intro @W.op_nilCheck <| And.intro @W.nilCheck_ptr <| And.intro @W.nilCheck_fp <| And.intro @W.nilCheck_func <| And.intro @W.op_bin <| And.intro @W.op_un <| And.intro @W.op_convert <| And.intro @W.op_makeFunc <| And.intro @W.makeFunc_some <| And.intro @W.oneAll_nil <| And.intro @W.oneAll_cons <| And.intro @W.op_makeSlice <| And.intro @W.op_slice <| And.intro @W.op_fieldAddr <| And.intro @W.op_field <| And.intro @W.op_indexAddr <| And.intro @W.op_index <| And.intro @W.op_lookup <| And.intro @W.op_mapUpdate <| And.intro @W.op_insert <| And.intro @W.op_extract <| And.intro @W.extract_zero <| And.intro @W.extract_succ <| And.intro @W.op_callVal <| And.intro @W.callVal_func <| And.intro @W.op_builtin <| And.intro @W.bi_append <| And.intro @W.bi_len <| And.intro @W.bi_cap <| And.intro @W.bi_copy <| And.intro @W.bi_clear <| And.intro @W.bi_delete <| And.intro @W.bi_max <| And.intro @W.bi_min <| And.intro @W.ev_tmp <| And.intro @W.ev_func <| And.intro @W.ev_int <| And.intro @W.ev_bool <| And.intro @W.ev_str <| And.intro @W.ev_nils <| And.intro @W.ev_nilp <| And.intro @W.ev_nilm <| And.intro @W.ev_nilf <| And.intro @W.ev_nili <| And.intro @W.const_plain <| And.intro @W.bin_add <| And.intro @W.bin_sub <| And.intro @W.bin_mul <| And.intro @W.bin_quo <| And.intro @W.bin_rem <| And.intro @W.bin_and <| And.intro @W.bin_or <| And.intro @W.bin_xor <| And.intro @W.bin_andNot <| And.intro @W.bin_eql <| And.intro @W.bin_neq <| And.intro @W.bin_lss <| And.intro @W.bin_leq <| And.intro @W.bin_gtr <| And.intro @W.bin_geq <| And.intro @W.bin_shl <| And.intro @W.bin_shr <| And.intro @W.bin_bool <| And.intro @W.bool_eql <| And.intro @W.bool_neq <| And.intro @W.un_not <| And.intro @W.un_neg <| And.intro @W.un_xor <| And.intro @W.conv_eq <| And.intro @W.conv_int <| And.intro @W.mm_go_nil <| And.intro @W.mm_start <| And.intro @W.size_eq <| And.intro @W.isAgg_eq <| And.intro @W.read_eq <| And.intro @W.read_int <| And.intro @W.read_bool <| And.intro @W.read_string <| And.intro @W.read_slice <| And.intro @W.read_map <| And.intro @W.read_other <| And.intro @W.read_struct <| And.intro @W.read_array <| And.intro @W.put_zero <| And.intro @W.put_nil <| And.intro @W.put_succ <| And.intro @W.load_fp <| And.intro @W.load_ptr <| And.intro @W.loadK_row <| And.intro @W.store_eq <| And.intro @W.store_ptr <| And.intro @W.storeK_row <| And.intro @W.fieldOff_eq <| And.intro @W.fieldOff_struct <| And.intro @W.fieldAddr_eq <| And.intro @W.fieldAddr_some <| And.intro @W.szK_some <| And.intro @W.addPtr_ptr <| And.intro @W.addPtr_fp <| And.intro @W.field_eq <| And.intro @W.field_agg <| And.intro @W.idxAddr_eq <| And.intro @W.idxAddr_array <| And.intro @W.idxAddr_slice <| And.intro @W.idxS_own <| And.intro @W.idx_eq <| And.intro @W.idx_array <| And.intro @W.len_eq <| And.intro @W.len_own <| And.intro @W.len_array <| And.intro @W.append_eq <| And.intro @W.append_slice <| And.intro @W.news_eq <| And.intro @W.append_some <| And.intro @W.news_rows <| And.intro @W.append_ns <| And.intro @W.app_tail <| And.intro @W.tailK_tail <| And.intro @W.app_exact <| And.intro @W.app_exact_tok <| And.intro @W.app_own <| And.intro @W.ownK_row <| And.intro @W.ownK_nrow <| And.intro @W.buildSlice_eq <| And.intro @W.bsl_slice <| And.intro @W.bsl_some <| And.intro @W.bslK_own <| And.intro @W.bslK_plain <| And.intro @W.bslK_tok <| And.intro @W.bslV_some <| And.intro @W.zeros_zero <| And.intro @W.zeros_succ <| And.intro @W.chunk_zero <| And.intro @W.chunk_succ <| And.intro @W.fill_nil <| And.intro @W.fill_cons <| And.intro @W.fillK_some <| And.intro @W.pure_nil <| And.intro @W.pure_cons <| And.intro @W.pureK_some <| And.intro @W.pure1_int <| And.intro @W.pure1_bool <| And.intro @W.pure1_str <| And.intro @W.pure1_slice <| And.intro @W.pure1_nilp <| And.intro @W.pure1_nilm <| And.intro @W.pure1_nili <| And.intro @W.pure1_nilf <| And.intro @W.build_eq <| And.intro @W.build_struct <| And.intro @W.build_array <| And.intro @W.place_eq <| And.intro @W.place_struct <| And.intro @W.place_array <| And.intro @W.buildPlan_plain <| And.intro @W.const_tok <| And.intro @W.tokP_slice <| And.intro @W.tokQ_some <| And.intro @W.const_own <| And.intro @W.const_own_no <| And.intro @W.const_tok_int <| And.intro @W.const_tok_bool <| And.intro @W.isNil_nil <| And.intro @W.isNil_tmp <| And.intro @W.nownP_slice <| And.intro @W.nownQ_some <| And.intro @W.nil_app <| And.intro @W.cons_app <| And.intro @W.length_nil' <| And.intro @W.length_cons' <| And.intro @W.getE_zero <| And.intro @W.getE_succ <| And.intro @W.bind_some' <| And.intro @W.map_some' <| And.intro @W.set_zero <| And.intro @W.set_succ <| And.intro @W.drop_zero' <| And.intro @W.drop_succ' <| And.intro @W.take_zero' <| And.intro @W.take_succ' <| And.intro @W.sw_skip <| And.intro @W.sw_exit <| And.intro @W.sw_ret <| And.intro @W.sw_label <| And.intro @W.sw_seq <| And.intro @W.sw_cond <| And.intro @W.sw_block <| And.intro @W.sw_scope <| And.intro @W.sw_region <| And.intro @W.seqN_normal <| And.intro @W.seqN_exit <| And.intro @W.seqN_ret <| And.intro @W.blockK_normal <| And.intro @W.blockK_exit <| And.intro @W.blockK_ret <| And.intro @W.loopN_normal <| And.intro @W.loopN_exit <| And.intro @W.loopN_ret <| And.intro @W.regN_quiet <| And.intro @W.regN_draw <| And.intro @W.behind_eq <| And.intro @W.headFr_some <| And.intro @W.headFr_none <| And.intro @W.ex_bool <| And.intro @W.trim_eq <| And.intro @W.frefs_nil <| And.intro @W.frefs_cons <| And.intro @W.avrefs_any <| And.intro @W.avrefs_one <| And.intro @W.avrefs_agg <| And.intro @W.avrefs_tup <| And.intro @W.avall_nil <| And.intro @W.avall_cons <| And.intro @W.crefs_int <| And.intro @W.crefs_bool <| And.intro @W.crefs_str <| And.intro @W.crefs_no <| And.intro @W.crefs_exact <| And.intro @W.crefs_tail <| And.intro @W.crefs_own <| And.intro @W.crefs_ptr <| And.intro @W.crefs_map <| And.intro @W.crefs_fp <| And.intro @W.crefs_nilp <| And.intro @W.crefs_nilm <| And.intro @W.crefs_nilf <| And.intro @W.crefs_nili <| And.intro @W.crefs_func <| And.intro @W.below_nil <| And.intro @W.below_cons <| And.intro @W.rrefs_row <| And.intro @W.rrefs_nrow <| And.intro @W.rrefs_tail <| And.intro @W.rrefs_dead <| And.intro @W.all_nil' <| And.intro @W.all_cons' <| And.intro @W.endK_ret <| And.intro @W.endK_normal <| And.intro @W.res_nil <| And.intro @W.res_tmp <| And.intro @W.res_cell <| And.intro @W.resK_rd <| And.intro @W.tup_one <| And.intro @W.tup_two <| And.intro @W.hand_tok <| And.intro @W.handT_tail <| And.intro @W.hand_plain <| And.intro @W.out_one <| And.intro @W.out_agg <| And.intro @W.out_tup <| And.intro @W.outs_nil <| And.intro @W.outs_cons <| And.intro @W.outAll_nil <| And.intro @W.outAll_cons <| And.intro @W.outK_some <| And.intro @W.outc_int <| And.intro @W.outc_bool <| And.intro @W.outc_str <| And.intro @W.outc_slice <| And.intro @W.outc_no <| And.intro @W.outc_exact <| And.intro @W.outc_tail <| And.intro @W.outc_nilp <| And.intro @W.outc_nilm <| And.intro @W.outc_own <| And.intro @W.frz_own <| And.intro @W.frzK_row <| And.intro @W.frzK_nrow <| And.intro @W.frzl_nil <| And.intro @W.frzl_cons <| And.intro @W.hand_own <| And.intro @W.handO_row <| And.intro @W.handO_nrow <| And.intro @W.hand_tok_own <| And.intro @W.handTO_row <| And.intro @W.handTO_nrow <| And.intro @W.exmap <| And.intro @W.imp_t <| And.intro @W.imp_f <| And.intro @W.tf_eq <| And.intro @W.ft_eq <| And.intro @W.tt_eq <| And.intro @W.ff_eq <| And.intro @W.beq_tt <| And.intro @W.beq_tf <| And.intro @W.beq_ft <| And.intro @W.beq_ff <| And.intro @W.dec_t <| And.intro @W.dec_f <| And.intro @W.not_t <| And.intro @W.not_f <| And.intro @W.cast0 <| And.intro @W.cast1 <| And.intro @W.cast2 <| And.intro @W.wrap0 <| And.intro @W.cm_ne_std <| And.intro @W.cm_eq_std <| And.intro @W.cm_ne_exact <| And.intro @W.cm_eq_exact <| And.intro @W.cm_ne_mt <| And.intro @W.cm_eq_mt <| And.intro @W.kd_eq_plain <| And.intro @W.kd_ne_plain <| And.intro @W.kd_eq_tok <| And.intro @W.kd_ne_tok <| And.intro @W.kd_eq_own <| And.intro @W.kd_ne_own <| And.intro @W.or_t <| And.intro @W.or_f <| And.intro @W.and_t <| And.intro @W.and_f <| And.intro @W.app_len <| And.intro @W.pa_nil <| And.intro @W.pa_cons <| And.intro @W.pax_nil <| And.intro @W.pax_cons <| And.intro @W.av1_one <| And.intro @W.av1_agg <| And.intro @W.avX_one <| And.intro @W.avX_agg <| And.intro @W.px_nil <| And.intro @W.px_cons <| And.intro @W.cX_int <| And.intro @W.cX_bool <| And.intro @W.cX_exact <| And.intro @W.cX_no <| And.intro @W.cX_tail <| And.intro @W.p1_own <| And.intro @W.p1_ptr <| And.intro @W.p1_map <| And.intro @W.p1_fp <| And.intro @W.p1_func <| And.intro @W.pureK_none <| And.intro @W.pureK_none2 <| And.intro @W.outK_none <| And.intro @W.outK_none2 <| And.intro @W.map_none' <| And.intro @W.eff_call <| And.intro @W.alone_eq <| And.intro @W.slice_eq <| And.intro @W.slc_own <| And.intro @W.slcO_some <| And.intro @W.boundO_some <| And.intro @W.bound_none <| And.intro @W.bound_int <| And.intro @W.slc_rows <| And.intro @W.slcS_nil <| And.intro @W.slcS_some <| And.intro @W.slc_array <| And.intro @W.slcA_some <| And.intro @W.omap_none <| And.intro @W.isNone_none <| And.intro @W.isNone_some <| And.intro @W.isSome_none <| And.intro @W.isSome_some <| And.intro @W.cap_eq <| And.intro @W.cap_exact <| And.intro @W.news_int <| And.intro @W.newsI_some <| And.intro @W.append_ns_ite <| And.intro @W.app_exact_own <| And.intro @W.app_exact_own2 <| And.intro @W.app_exact_nil <| And.intro @W.mk_eq <| And.intro @W.mk_slice <| And.intro @W.mkQ_own <| And.intro @W.mkQ_plain <| And.intro @W.mkQ_tok <| And.intro @W.mkT_some <| And.intro @W.hand_own_exact <| And.intro @W.hand_own_tail <| @W.hand_own_no
theorem wrap_i64 {x : Int} (h : -9223372036854775808 ≤ x ∧ x ≤ 9223372036854775807) : IntKind.i64.wrap x = x := by
  change (if (true && decide (x % (18446744073709551616 : Int) ≥ 9223372036854775808)) = true then x % (18446744073709551616 : Int) - 18446744073709551616 else x % (18446744073709551616 : Int)) = x
  simp only [Bool.true_and, decide_eq_true_eq]; split <;> omega
theorem wrap_u64 {x : Int} (h : 0 ≤ x ∧ x ≤ 18446744073709551615) : IntKind.u64.wrap x = x := by
  change (if (false && decide (x % (18446744073709551616 : Int) ≥ 9223372036854775808)) = true then x % (18446744073709551616 : Int) - 18446744073709551616 else x % (18446744073709551616 : Int)) = x
  simp only [Bool.false_and, Bool.false_eq_true, if_false]; omega
end Go.AI.W
