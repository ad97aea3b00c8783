/- append. -/
import Derived.Test.YtacfehecjjoffaaDoorAiOps5
set_option linter.unusedVariables false
set_option linter.unusedSimpArgs false
namespace Go.AI
open Go

section
variable {P : Program} {w w' : World}

theorem appA_room {t tx ty e e2 : TypeId} {inf : TypeInfo} (ht : P.underlying t = some (.slice e)) (hi : P.info? e = some inf) (htx : P.underlying tx = some (.slice e2)) {a : Addr} {sLen sCap n capB : Nat} {B : Option Addr} {news : Array Value}
    (hf : (Builtin.firstCells inf.size n (.slice B n capB)).run P w = .ok news w) (hroom : sLen + n ≤ sCap) (hst : (storeCells (a.add (sLen * inf.size)) news.toList).run P w = .ok () w') :
    (Builtin.append_ #[t, tx] ty #[.slice (some a) sLen sCap, .slice B n capB]).run P w = .ok (.slice (some a) (sLen + n) sCap) w' := by
  simp [Builtin.append_, run_underlying ht, run_underlying htx, sizeOf, typeInfo, hi, Builtin.lenOf, hroom, hf, hst]
theorem appA_nil {t tx ty e e2 : TypeId} {inf : TypeInfo} (ht : P.underlying t = some (.slice e)) (hi : P.info? e = some inf) (htx : P.underlying tx = some (.slice e2)) {sLen sCap n capB : Nat} {B : Option Addr} {news : Array Value}
    (hf : (Builtin.firstCells inf.size n (.slice B n capB)).run P w = .ok news w) (hroom : sLen + n ≤ sCap) :
    (Builtin.append_ #[t, tx] ty #[.slice none sLen sCap, .slice B n capB]).run P w = .ok (.slice none (sLen + n) sCap) w := by
  simp [Builtin.append_, run_underlying ht, run_underlying htx, sizeOf, typeInfo, hi, Builtin.lenOf, hroom, hf]
theorem appA_grow {t tx ty e e2 : TypeId} {inf : TypeInfo} {z : Value} (ht : P.underlying t = some (.slice e)) (hi : P.info? e = some inf) (hz : inf.zero = some z) (htx : P.underlying tx = some (.slice e2)) {base : Option Addr} {sLen sCap n capB : Nat} {B : Option Addr} {olds news : Array Value}
    (hf : (Builtin.firstCells inf.size n (.slice B n capB)).run P w.drew = .ok news w.drew) (hfo : (Builtin.firstCells inf.size sLen (.slice base sLen sCap)).run P w.drew = .ok olds w.drew)
    (hg : sCap < sLen + n) (h63 : sLen + n ≤ 9223372036854775807) (h47 : (sLen + n) * inf.bytes ≤ 140737488355328) :
    (Builtin.append_ #[t, tx] ty #[.slice base sLen sCap, .slice B n capB]).run P w =
      .ok (.slice (some ⟨w.heap.size, 0, none⟩) (sLen + n) (grownCap w (sLen + n) sCap e)) (w.drew.alloc (.cells (olds ++ news ++ Builtin.zeroCells z.cells (grownCap w (sLen + n) sCap e - (sLen + n))) e)) := by
  have hn : ¬ (sLen + n ≤ sCap) := by omega
  have h63' : ¬ (9223372036854775807 < ((sLen : Int) + (n : Int))) := by omega
  have hfit := growslice_fits hg h47
  have h48' : ¬ (281474976710656 < Builtin.nextslicecap (sLen + n) sCap * inf.bytes) := by omega
  simp [Builtin.append_, run_underlying ht, run_underlying htx, sizeOf, typeInfo, zeroValue, hi, hz, Builtin.lenOf, hn, h63', h48', Question.forced, hf, hfo, newRow, grownCap]

theorem appB_room {t tx ty e : TypeId} {k k2 : IntKind} {inf : TypeInfo} {z : Value} (ht : P.underlying t = some (.slice e)) (hi : P.info? e = some inf) (hz : inf.zero = some z) (htx : P.underlying tx = some (.int k2)) {a : Addr} {sLen sCap n : Nat}
    (h63 : n ≤ 9223372036854775807) (h47 : n * inf.bytes ≤ 140737488355328) (hzs : z.cells.size = inf.size) (hroom : sLen + n ≤ sCap) (hst : (storeCells (a.add (sLen * inf.size)) (Builtin.zeroCells z.cells n).toList).run P w = .ok () w') :
    (Builtin.append_ #[t, tx] ty #[.slice (some a) sLen sCap, .int k (n : Int)]).run P w = .ok (.slice (some a) (sLen + n) sCap) w' := by
  have hw : IntKind.i64.wrap (n : Int) = n := by rw [IntKind.wrap_i64]; omega
  have h0 : ¬ ((n : Int) < 0) := by omega
  have h48 : ¬ (281474976710656 < (n : Int) * (inf.bytes : Int)) := by omega
  by_cases hn : n * inf.size = 0
  · have hz0 : (Builtin.zeroCells z.cells n).toList = [] := by
      apply List.eq_nil_of_length_eq_zero
      simp [Builtin.zeroCells, hzs, hn]
    rw [hz0] at hst
    simp [Builtin.append_, run_underlying ht, run_underlying htx, sizeOf, typeInfo, hi, hz, zeroValue, asInt, asIntOf, hw, h0, h48, hroom, hn, hst]
  · simp [Builtin.append_, run_underlying ht, run_underlying htx, sizeOf, typeInfo, hi, hz, zeroValue, asInt, asIntOf, hw, h0, h48, hroom, hn, hst]
theorem appB_nil {t tx ty e : TypeId} {k k2 : IntKind} {inf : TypeInfo} {z : Value} (ht : P.underlying t = some (.slice e)) (hi : P.info? e = some inf) (hz : inf.zero = some z) (htx : P.underlying tx = some (.int k2)) {sLen sCap n : Nat}
    (h63 : n ≤ 9223372036854775807) (h47 : n * inf.bytes ≤ 140737488355328) (hroom : sLen + n ≤ sCap) :
    (Builtin.append_ #[t, tx] ty #[.slice none sLen sCap, .int k (n : Int)]).run P w = .ok (.slice none (sLen + n) sCap) w := by
  have hw : IntKind.i64.wrap (n : Int) = n := by rw [IntKind.wrap_i64]; omega
  have h0 : ¬ ((n : Int) < 0) := by omega
  have h48 : ¬ (281474976710656 < (n : Int) * (inf.bytes : Int)) := by omega
  by_cases hn : n * inf.size = 0
  · simp [Builtin.append_, run_underlying ht, run_underlying htx, sizeOf, typeInfo, hi, hz, zeroValue, asInt, asIntOf, hw, h0, h48, hroom, hn]
  · simp [Builtin.append_, run_underlying ht, run_underlying htx, sizeOf, typeInfo, hi, hz, zeroValue, asInt, asIntOf, hw, h0, h48, hroom, hn]
theorem appB_grow {t tx ty e : TypeId} {k k2 : IntKind} {inf : TypeInfo} {z : Value} (ht : P.underlying t = some (.slice e)) (hi : P.info? e = some inf) (hz : inf.zero = some z) (htx : P.underlying tx = some (.int k2)) {base : Option Addr} {sLen sCap n : Nat} {olds : Array Value}
    (hzs : z.cells.size = inf.size) (hfo : (Builtin.firstCells inf.size sLen (.slice base sLen sCap)).run P w.drew = .ok olds w.drew)
    (hg : sCap < sLen + n) (h63 : sLen + n ≤ 9223372036854775807) (h47 : (sLen + n) * inf.bytes ≤ 140737488355328) :
    (Builtin.append_ #[t, tx] ty #[.slice base sLen sCap, .int k (n : Int)]).run P w =
      .ok (.slice (some ⟨w.heap.size, 0, none⟩) (sLen + n) (grownCap w (sLen + n) sCap e)) (w.drew.alloc (.cells (olds ++ Builtin.zeroCells z.cells n ++ Builtin.zeroCells z.cells (grownCap w (sLen + n) sCap e - (sLen + n))) e)) := by
  have hn : ¬ (sLen + n ≤ sCap) := by omega
  have h63' : ¬ (9223372036854775807 < ((sLen : Int) + (n : Int))) := by omega
  have hfit := growslice_fits hg h47
  have h48' : ¬ (281474976710656 < Builtin.nextslicecap (sLen + n) sCap * inf.bytes) := by omega
  have hw : IntKind.i64.wrap (n : Int) = n := by rw [IntKind.wrap_i64]; omega
  have h0 : ¬ ((n : Int) < 0) := by omega
  have h47n : n * inf.bytes ≤ (sLen + n) * inf.bytes := Nat.mul_le_mul_right _ (by omega)
  have h48 : ¬ (281474976710656 < (n : Int) * (inf.bytes : Int)) := by omega
  by_cases hn0 : n * inf.size = 0
  · have hz0 : Builtin.zeroCells z.cells n = #[] := by
      apply Array.eq_empty_of_size_eq_zero
      simp [Builtin.zeroCells, hzs, hn0]
    simp [Builtin.append_, run_underlying ht, run_underlying htx, sizeOf, typeInfo, zeroValue, hi, hz, asInt, asIntOf, hw, h0, h48, hn, h63', h48', Question.forced, hfo, newRow, grownCap, hn0, hz0]
  · simp [Builtin.append_, run_underlying ht, run_underlying htx, sizeOf, typeInfo, zeroValue, hi, hz, asInt, asIntOf, hw, h0, h48, hn, h63', h48', Question.forced, hfo, newRow, grownCap, hn0]
end

variable {P : Program} {c : Cfg} {E : Env} {st : St} {w : World} {wb : Nat} {callf : FuncId → List AV → St → Option (AV × St)} {av : AV} {st' : St}

theorem chunk_flatten {s : Nat} : ∀ (rows : List (List Cell)), (∀ (i : Nat) (row : List Cell), rows[i]? = some row → row.length = s) → chunk s rows.length rows.flatten = rows
  | [], _ => rfl
  | row :: rows, h => by
    have h0 : row.length = s := h 0 row (by simp)
    simp only [List.length_cons, chunk, List.flatten_cons]
    rw [show (row ++ rows.flatten).take s = row by rw [← h0]; simp, show (row ++ rows.flatten).drop s = rows.flatten by rw [← h0]; simp, chunk_flatten rows (fun i r hi => h (i + 1) r (by simpa using hi))]

theorem slice_cp' {F : Fz} {b off cap s : Nat} {rows : List (List Cell)} (tok : Tok) (vs : Nat → Value) (hE : ∀ (i : Nat) (row : List Cell), rows[i]? = some row → row.length = s)
    (hF : ∀ (k : Nat) (x : Cell), rows.flatten[k]? = some x → F b (off + k) = some (vs k)) (hC : ∀ (k : Nat) (x : Cell), rows.flatten[k]? = some x → CP F x (vs k) ∧ x.noTok = true) (hcap : rows.length ≤ cap) :
    CP F (.slice tok s rows) (.slice (some ⟨b, off, none⟩) rows.length cap) := by
  have := slice_cp (F := F) (b := b) (off := off) (n := rows.length) (cap := cap) (s := s) (cells := rows.flatten) tok vs (flatten_length rows hE) hF hC hcap
  rwa [chunk_flatten rows hE] at this

theorem CP.rowlen {F : Fz} {tok : Tok} {esz : Nat} {rows : List (List Cell)} {v : Value} (h : CP F (.slice tok esz rows) v) : ∀ (i : Nat) (row : List Cell), rows[i]? = some row → row.length = esz := by
  cases h with | slice _ _ _ A b off cap vs hA hcap hE hF hC hN => exact hE

/-- What a slice that never changes holds, read. -/
theorem pslice_read (hF : ∀ b o v, E.F b o = some v → w.cell? ⟨b, o, none⟩ = some v) {tok : Tok} {esz s : Nat} {rows : List (List Cell)} {A : Option Addr} {cap : Nat} (hcp : CP E.F (.slice tok esz rows) (.slice A rows.length cap)) (he : esz = s ∨ rows = []) :
    ∃ us : Array Value, (∀ cap', (Builtin.firstCells s rows.length (.slice A rows.length cap')).run P w = .ok us w) ∧ us.size = rows.length * s ∧
      ∀ (k : Nat) (x : Cell), rows.flatten[k]? = some x → CP E.F x (us.getD k undef) ∧ x.noTok = true := by
  obtain ⟨hfl, b, o, vals, hB, hval⟩ := hcp.flat
  by_cases hne : rows = []
  · subst hne
    exact ⟨#[], fun cap' => by cases A <;> simp [Builtin.firstCells, loadCells, loadCellsFrom], by simp, fun k x hk => by simp at hk⟩
  · have he := he.resolve_right hne
    subst he
    have := hB hne
    subst this
    have hl := run_loadCells (P := P) w ⟨b, o, none⟩ (rows.length * esz) vals (fun j hj => by
      rw [add_addr]
      exact hF _ _ _ (hval j _ (List.getElem?_eq_getElem (by rw [hfl]; exact hj))).1)
    refine ⟨((List.range (rows.length * esz)).map vals).toArray, fun cap' => by simp only [Builtin.firstCells]; exact hl, by simp, fun k x hk => ?_⟩
    have hlt : k < rows.length * esz := by have := (List.getElem?_eq_some_iff.1 hk).1; rwa [hfl] at this
    obtain ⟨_, q2, q3⟩ := hval k x hk
    have : (((List.range (rows.length * esz)).map vals).toArray.getD k undef) = vals k := by simp [Array.getD_eq_getD_getElem?, hlt]
    rw [this]
    exact ⟨q2, q3⟩

/-- append's second argument. -/
structure Arg2 (P : Program) (E : Env) (w : World) (t tx ty e : TypeId) (inf : TypeInfo) (z : Value) (x : Value) (ns : List (List Cell)) (news : Array Value) : Prop where
  size : news.size = ns.length * inf.size
  rows : ∀ (i : Nat) (row : List Cell), ns[i]? = some row → row.length = inf.size
  cells : ∀ (k : Nat) (x : Cell), ns.flatten[k]? = some x → CP E.F x (news.getD k undef) ∧ x.noTok = true
  room : ∀ (a : Addr) (sLen sCap : Nat) (w' : World), sLen + ns.length ≤ sCap → (storeCells (a.add (sLen * inf.size)) news.toList).run P w = .ok () w' →
    (Builtin.append_ #[t, tx] ty #[.slice (some a) sLen sCap, x]).run P w = .ok (.slice (some a) (sLen + ns.length) sCap) w'
  nil : ∀ (sLen sCap : Nat), sLen + ns.length ≤ sCap → (Builtin.append_ #[t, tx] ty #[.slice none sLen sCap, x]).run P w = .ok (.slice none (sLen + ns.length) sCap) w
  grow : ∀ (base : Option Addr) (sLen sCap : Nat) (olds : Array Value), (Builtin.firstCells inf.size sLen (.slice base sLen sCap)).run P w.drew = .ok olds w.drew → sCap < sLen + ns.length → sLen + ns.length ≤ 9223372036854775807 →
    (sLen + ns.length) * inf.bytes ≤ 140737488355328 → (Builtin.append_ #[t, tx] ty #[.slice base sLen sCap, x]).run P w =
      .ok (.slice (some ⟨w.heap.size, 0, none⟩) (sLen + ns.length) (grownCap w (sLen + ns.length) sCap e)) (w.drew.alloc (.cells (olds ++ news ++ Builtin.zeroCells z.cells (grownCap w (sLen + ns.length) sCap e - (sLen + ns.length))) e))

/-- The new block of an append that grows. -/
theorem grown_size {z : Value} {inf : TypeInfo} {olds news : Array Value} {len k cap : Nat} (hz : z.cells.size = inf.size) (ho : olds.size = len * inf.size) (hn : news.size = k * inf.size) (hc : len + k ≤ cap) :
    (olds ++ news ++ Builtin.zeroCells z.cells (cap - (len + k))).size = cap * inf.size := by
  simp only [Array.size_append, ho, hn, size_zeroCells, hz]
  rw [← Nat.add_mul, ← Nat.add_mul]; congr 1; omega
theorem grown_get {olds news rest : Array Value} {oc nc : List Cell} {Q : Cell → Value → Prop} (ho : olds.size = oc.length) (hn : news.size = nc.length)
    (h1 : ∀ (k : Nat) (x : Cell), oc[k]? = some x → Q x (olds.getD k undef)) (h2 : ∀ (k : Nat) (x : Cell), nc[k]? = some x → Q x (news.getD k undef)) :
    ∀ (k : Nat) (x : Cell), (oc ++ nc)[k]? = some x → Q x ((olds ++ news ++ rest).getD k undef) := by
  intro k x hk
  by_cases hlt : k < oc.length
  · rw [List.getElem?_append_left hlt] at hk
    have e : (olds ++ news ++ rest).getD k undef = olds.getD k undef := by
      simp only [Array.getD_eq_getD_getElem?]
      rw [Array.append_assoc, Array.getElem?_append_left (by omega)]
    rw [e]; exact h1 k x hk
  · rw [List.getElem?_append_right (by omega)] at hk
    have hlt2 : k - oc.length < nc.length := (List.getElem?_eq_some_iff.1 hk).1
    have e : (olds ++ news ++ rest).getD k undef = news.getD (k - oc.length) undef := by
      simp only [Array.getD_eq_getD_getElem?]
      rw [Array.append_assoc, Array.getElem?_append_right (by omega), Array.getElem?_append_left (by omega), ho]
    rw [e]; exact h2 _ x hk

theorem arg2_slice {t tx ty e e2 : TypeId} {inf : TypeInfo} {z : Value} {tok : Tok} {esz : Nat} {ns : List (List Cell)} {B : Option Addr} {capB : Nat} (hW : WS c E st w) (ht : P.underlying t = some (.slice e)) (hi : P.info? e = some inf) (hz : inf.zero = some z)
    (htx : P.underlying tx = some (.slice e2)) (hcp : CP E.F (.slice tok esz ns) (.slice B ns.length capB)) (he : esz = inf.size ∨ ns = []) : ∃ news, Arg2 P E w t tx ty e inf z (.slice B ns.length capB) ns news := by
  obtain ⟨us, h1, h2, h3⟩ := pslice_read (P := P) hW.hF hcp he
  obtain ⟨us', h1', h2', h3'⟩ := pslice_read (P := P) (w := w.drew) (fun b o v hb => hW.hF b o v hb) hcp he
  have hsame : us' = us := by
    have e1 := h1' capB
    have e2 := h1 capB
    by_cases hne : ns = []
    · subst hne
      have a1 : us.size = 0 := by simpa using h2
      have a2 : us'.size = 0 := by simpa using h2'
      rw [Array.eq_empty_of_size_eq_zero a1, Array.eq_empty_of_size_eq_zero a2]
    · obtain ⟨hfl, b, o, vals, hB, hval⟩ := hcp.flat
      have he := he.resolve_right hne
      subst he
      have := hB hne
      subst this
      have hl := run_loadCells (P := P) w ⟨b, o, none⟩ (ns.length * inf.size) vals (fun j hj => by
        rw [add_addr]; exact hW.hF _ _ _ (hval j _ (List.getElem?_eq_getElem (by rw [hfl]; exact hj))).1)
      have hl' := run_loadCells (P := P) w.drew ⟨b, o, none⟩ (ns.length * inf.size) vals (fun j hj => by
        rw [add_addr]; exact hW.hF _ _ _ (hval j _ (List.getElem?_eq_getElem (by rw [hfl]; exact hj))).1)
      simp only [Builtin.firstCells] at e1 e2
      rw [hl'] at e1
      rw [hl] at e2
      injection e1 with e1 _
      injection e2 with e2 _
      rw [← e1, ← e2]
  subst hsame
  refine ⟨us', h2, fun i row hi' => ?_, h3, fun a sLen sCap w' hroom hst => appA_room ht hi htx (h1 capB) hroom hst, fun sLen sCap hroom => appA_nil ht hi htx (h1 capB) hroom, fun base sLen sCap olds hfo hg h63 h47 => appA_grow ht hi hz htx (h1' capB) hfo hg h63 h47⟩
  rcases he with he | he
  · rw [← he]; exact hcp.rowlen i row hi'
  · subst he; simp at hi'

theorem arg2_zeros {t tx ty e : TypeId} {k k2 : IntKind} {inf : TypeInfo} {z : Value} {i : TyInfo} {zc : List Cell} {n : Nat} (ht : P.underlying t = some (.slice e)) (hi : P.info? e = some inf) (hz : inf.zero = some z)
    (htx : P.underlying tx = some (.int k2)) (hzs : z.cells.size = inf.size) (hzl : i.zero.length = inf.size) (hzc : ∀ (E : Env) (st : St) (j : Nat) (x : Cell), i.zero[j]? = some x → CC E st x (z.cells.getD j undef)) (hp : purify i.zero = some zc)
    (h63 : n ≤ 9223372036854775807) (h47 : n * inf.bytes ≤ 140737488355328) : Arg2 P E w t tx ty e inf z (.int k (n : Int)) (List.replicate n zc) (Builtin.zeroCells z.cells n) := by
  obtain ⟨p1, p2⟩ := purify_sound (E := E) (st := []) (vs := fun k => z.cells.getD k undef) hp (hzc E [])
  have hrep : ∀ (i : Nat) (row : List Cell), (List.replicate n zc)[i]? = some row → row = zc := fun i row h => List.eq_of_mem_replicate (List.mem_of_getElem? h)
  refine ⟨by simp [Builtin.zeroCells, hzs], fun i row h => by rw [hrep i row h, p1, hzl], fun k x hk => ?_, fun a sLen sCap w' hroom hst => ?_, fun sLen sCap hroom => ?_, fun base sLen sCap olds hfo hg h63' h47' => ?_⟩
  · have hpos : 0 < inf.size := by
      rcases Nat.eq_zero_or_pos inf.size with h0 | h0
      · have hl := (List.getElem?_eq_some_iff.1 hk).1
        rw [flatten_length (s := inf.size) _ (fun i row h => by rw [hrep i row h, p1, hzl]), h0] at hl; simp at hl
      · exact h0
    rw [flatten_get hpos _ k (fun i row h => by rw [hrep i row h, p1, hzl])] at hk
    obtain ⟨row, q1, q2⟩ := Option.bind_eq_some_iff.1 hk
    have := hrep _ row q1
    subst this
    have hlt : k < n * inf.size := by
      have := (List.getElem?_eq_some_iff.1 q1).1
      simp only [List.length_replicate] at this
      exact (Nat.div_lt_iff_lt_mul hpos).1 this
    have e : (Builtin.zeroCells z.cells n).getD k undef = z.cells.getD (k % inf.size) undef := by
      have := (made_get (z := z) (m := n) (s := inf.size) (k := k) hzs hlt).1
      simpa [Builtin.zeroCells, madeCells, hzs] using this
    rw [e]
    exact p2 _ x q2
  · simp only [List.length_replicate] at hroom ⊢
    exact appB_room ht hi hz htx h63 h47 hzs hroom hst
  · simp only [List.length_replicate] at hroom ⊢
    exact appB_nil ht hi hz htx h63 h47 hroom
  · simp only [List.length_replicate] at hg h63' h47' ⊢
    exact appB_grow ht hi hz htx hzs hfo hg h63' h47'

end Go.AI
