/- lutmap.bit: a range over slices.Backward: after the library's texts on slices.All. -/
import Derived.RangeFuncNested
import Derived.RangeFuncBox
import Derived.RangeFuncLeaves
import Derived.Shelf.Abstract
import Derived.WalkKit
import Derived.OwnWalkIn
import Derived.TacticsInMore
import Derived.LoopNIn
import Derived.LoopIn
import Derived.Test.YtacfehecjjoffaaDoorPrims
import Derived.Test.YtacfehecjjoffaaDoorProg
set_option linter.unusedSimpArgs false
set_option linter.unusedVariables false
namespace Go.Proofs
open Go.RowKit Go.Shelf
attribute [local go_sem] Oper.semAt_some

/-- What has come when k rounds are over. -/
def Tryd.upto {α : Type} (f : Nat → α) (k : Nat) : List α := (List.range k).map f
theorem Tryd.upto_succ {α : Type} (f : Nat → α) (k : Nat) : Tryd.upto f (k + 1) = Tryd.upto f k ++ [f k] := by simp [Tryd.upto, List.range_succ]
theorem Tryd.upto_length {α : Type} (f : Nat → α) (k : Nat) : (Tryd.upto f k).length = k := by simp [Tryd.upto]
/-- The k-th from the end. -/
def Tryd.bk (zs : List Bool) (k : Nat) : Nat × Bool := (zs.length - 1 - k, zs[zs.length - 1 - k]?.getD false)

/-- What a round keeps. -/
def Tryd.KpB (Bs n₀ : Nat) (A B : World) : Prop := Below n₀ A B ∧ ∀ v, A.cell? ⟨Bs, 0, none⟩ = some v → B.cell? ⟨Bs, 0, none⟩ = some v
theorem Tryd.KpB.refl {Bs n₀ : Nat} (W : World) : Tryd.KpB Bs n₀ W W := ⟨Below.refl _ _, fun _ h => h⟩
theorem Tryd.KpB.trans {Bs n₀ : Nat} {A B C : World} (h : Tryd.KpB Bs n₀ A B) (h' : Tryd.KpB Bs n₀ B C) : Tryd.KpB Bs n₀ A C := ⟨h.1.trans h'.1, fun v e => h'.2 v (h.2 v e)⟩
set_option maxRecDepth 100000 in
set_option maxHeartbeats 4000000 in
theorem Tryd.back1_in (F : Fence) (n : Nat) (h8 : F.fn 66) (hro : F.round = none) (hn : 1 ≤ n) (l Bs n₀ b off cap : Nat) (zs : List Bool) (hlen : zs.length ≤ 6) (hb : b < n₀) (J Jx : List (Nat × Bool) → World → Prop)
    (hY : ∀ pre x W, J pre W → pre.length < zs.length → YieldAt F (n - 1) Tryd.prog l #[.int .i64 (x.1 : Int), .bool x.2] W fun e W' =>
      (e = .returned (.bool true) ∧ J (pre ++ [x]) W' ∧ Tryd.KpB Bs n₀ W W') ∨ (e = .returned (.bool false) ∧ Jx (pre ++ [x]) W'))
    (W : World) (hBs : W.cell? ⟨Bs, 0, none⟩ = some (.slice (some ⟨b, off, none⟩) zs.length cap)) (hc : ∀ j, j < zs.length → W.cell? ⟨b, off + j, none⟩ = some (.bool (zs[j]?.getD false))) (h0 : J [] W) :
    CallsIn F n Tryd.prog 66 #[.func (.yield l) #[] #[], .pointer (some ⟨Bs, 0, none⟩)] W fun e W' => (∃ v, e = .returned v) ∧
      ((∃ ys, ys = Tryd.upto (Tryd.bk zs) zs.length ∧ J ys W') ∨ (∃ pre, (∃ k, k ≤ zs.length ∧ pre = Tryd.upto (Tryd.bk zs) k) ∧ Jx pre W')) := by
  refine callsIn_of_wp Tryd.func66 rfl h8 ?_ hro
  simp only [Tryd.ntmps66, List.size_toArray, List.length_cons, List.length_nil, Nat.reduceAdd, Nat.reduceSub, Array.replicate_succ, Array.replicate_zero, List.push_toArray, List.append_toArray, List.nil_append, List.cons_append]
  have hw0 : wrap64 ((zs.length : Int) - 1) = (zs.length : Int) - 1 := by simp [wrap64, IntKind.wrap, IntKind.signed, IntKind.bits]; omega
  gi_wp2
  gi_loopw [3] (fun i wr => ∃ k : Nat, k ≤ zs.length ∧ i = .int .i64 ((zs.length : Int) - 1 - k) ∧ J (Tryd.upto (Tryd.bk zs) k) wr ∧ Tryd.KpB Bs n₀ W wr)
    (fun i _ => (intOf i + 1).toNat)
  case atStart => exact ⟨0, Nat.zero_le _, by simp, h0, Tryd.KpB.refl _⟩
  case round =>
    obtain ⟨k, hk, rfl, hJs, hnx⟩ := hrel
    by_cases hlt : k < zs.length
    · obtain ⟨m, hm⟩ : ∃ m : Nat, (zs.length : Int) - 1 - k = m := ⟨zs.length - 1 - k, by omega⟩
      have hm' : m = zs.length - 1 - k := by omega
      have hcx : wr.cell? ⟨b, off + m, none⟩ = some (.bool (zs[m]?.getD false)) := (hnx.1.cell (p := ⟨b, off + m, none⟩) hb).trans (hc m (by omega))
      have hBx : wr.cell? ⟨Bs, 0, none⟩ = some (.slice (some ⟨b, off, none⟩) zs.length cap) := hnx.2 _ hBs
      rw [hm]
      have g1 : (0 : Int) ≤ m := by omega
      have g2 : (m : Int) < zs.length := by omega
      have hw1 : wrap64 ((m : Int) - 1) = (m : Int) - 1 := by simp [wrap64, IntKind.wrap, IntKind.signed, IntKind.bits]; omega
      obtain ⟨fn, tmps, assign, body, hy, hR⟩ := hY _ (m, zs[m]?.getD false) wr hJs (by rw [Tryd.upto_length]; exact hlt)
      dsimp only at hy
      have hbk : Tryd.bk zs k = (m, zs[m]?.getD false) := by unfold Tryd.bk; rw [← hm']
      have HD : Hid (m = zs.length - 1 - k) := hm'
      have HD2 : Hid ((zs.length : Int) - 1 - k = m) := hm
      clear hm hm'
      gi_wp2
      refine hR.mono ?_
      rintro e W3 (⟨rfl, hJ3, hk3⟩ | ⟨rfl, hJx3⟩)
      · gi_wp2
        go_roundw
        case rel => exact ⟨k + 1, by omega, by have := HD2.out; simp <;> omega, by rw [Tryd.upto_succ, hbk]; exact hJ3, hnx.trans hk3⟩
        case measure => simp [intOf] <;> omega
      · gi_wp2
        refine bodyPost_ret (results_none rfl _ _ _) rfl ?_
        exact ⟨⟨_, rfl⟩, .inr ⟨_, ⟨k + 1, by omega, by rw [Tryd.upto_succ, hbk]⟩, hJx3⟩⟩
    · obtain rfl : k = zs.length := by omega
      have g1 : ¬ (0 : Int) ≤ (zs.length : Int) - 1 - zs.length := by omega
      gi_wp2
      go_end0
      exact ⟨⟨_, rfl⟩, .inl hJs⟩

set_option maxRecDepth 100000 in
set_option maxHeartbeats 1000000 in
/-- .. at the nil slice: no round. -/
theorem Tryd.back1_nil_in (F : Fence) (n : Nat) (h8 : F.fn 66) (hro : F.round = none) (l Bs : Nat) (A : Option Addr) (cap : Nat) (J : List (Nat × Bool) → World → Prop) (W : World) (hBs : W.cell? ⟨Bs, 0, none⟩ = some (.slice A 0 cap)) (h0 : J [] W) :
    CallsIn F n Tryd.prog 66 #[.func (.yield l) #[] #[], .pointer (some ⟨Bs, 0, none⟩)] W fun e W' => (∃ v, e = .returned v) ∧ J [] W' := by
  refine callsIn_of_wp Tryd.func66 rfl h8 ?_ hro
  simp only [Tryd.ntmps66, List.size_toArray, List.length_cons, List.length_nil, Nat.reduceAdd, Nat.reduceSub, Array.replicate_succ, Array.replicate_zero, List.push_toArray, List.append_toArray, List.nil_append, List.cons_append]
  have hw0 : wrap64 (-1) = -1 := by simp [wrap64, IntKind.wrap, IntKind.signed, IntKind.bits]
  have hw1 : wrap64 (0 - 1) = -1 := by simp [wrap64, IntKind.wrap, IntKind.signed, IntKind.bits]
  gi_wp2
  gi_loopw [3] (fun i wr => i = .int .i64 (-1) ∧ J [] wr) (fun _ _ => 0)
  case atStart => exact ⟨rfl, h0⟩
  case round =>
    obtain ⟨rfl, hJs⟩ := hrel
    gi_wp2
    go_end0
    exact ⟨⟨_, rfl⟩, hJs⟩

set_option maxHeartbeats 1000000 in
/-- **slices.Backward(s)**: the slice value is boxed; the function value captures the box. -/
theorem Tryd.back_in (F : Fence) (n : Nat) (h6 : F.fn 55) (hro : F.round = none) (a : Option Addr) (len cap : Nat) (w : World) :
    CallsIn F n Tryd.prog 55 #[.slice a len cap] w fun e w' => e = .returned (.func (.func 66) #[] #[.pointer (some ⟨w.heap.size, 0, none⟩)]) ∧ w' = w.alloc (.cells #[.slice a len cap] 37) := by
  refine callsIn_of_wp Tryd.func55 rfl h6 ?_ hro
  simp only [Tryd.ntmps55, List.size_toArray, List.length_cons, List.length_nil, Nat.reduceAdd, Nat.reduceSub, Array.replicate_succ, Array.replicate_zero, List.push_toArray, List.append_toArray, List.nil_append, List.cons_append]
  gi_wp2
  go_ret
  exact ⟨rfl, rfl⟩

/-- The slice value holds the bools, in a block below n₀; or there are none. -/
def Tryd.Bools (n₀ : Nat) (W : World) (sv : Value) (zs : List Bool) : Prop :=
  (∃ A cap, sv = .slice A 0 cap ∧ zs = []) ∨ ∃ b off cap, sv = .slice (some ⟨b, off, none⟩) zs.length cap ∧ b < n₀ ∧ ∀ j, j < zs.length → W.cell? ⟨b, off + j, none⟩ = some (.bool (zs[j]?.getD false))
theorem Tryd.Bools.below {n₀ : Nat} {A B : World} (h : Below n₀ A B) {sv : Value} {zs : List Bool} : Tryd.Bools n₀ A sv zs → Tryd.Bools n₀ B sv zs
  | .inl e => .inl e
  | .inr ⟨b, off, cap, e, hb, hc⟩ => .inr ⟨b, off, cap, e, hb, fun j hj => (h.cell (p := ⟨b, off + j, none⟩) hb).trans (hc j hj)⟩

theorem Tryd.back_stops (F : Fence) (n : Nat) (h8 : F.fn 66) (hro : F.round = none) (hn : 1 ≤ n) (Bs n₀ : Nat) (sv : Value) (zs : List Bool) (hlen : zs.length ≤ 6) (w : World) (hBs : Bs < w.heap.size) (hn₀ : n₀ ≤ w.heap.size)
    (hc : w.cell? ⟨Bs, 0, none⟩ = some sv) (hI : Tryd.Bools n₀ w sv zs) :
    SeqStopsK F n Tryd.prog 66 #[.pointer (some ⟨Bs, 0, none⟩)] (fun x : Nat × Bool => #[Value.int .i64 (x.1 : Int), Value.bool x.2]) (Tryd.KpB Bs n₀) (fun ys => ys = Tryd.upto (Tryd.bk zs) zs.length)
      (fun pre => ∃ k, k ≤ zs.length ∧ pre = Tryd.upto (Tryd.bk zs) k) zs.length w := fun l J Jx W hW _ _ hY h0 => by
  have hc' := (hW.cell (p := ⟨Bs, 0, none⟩) hBs).trans hc
  rcases hI.below (hW.mono hn₀) with ⟨A, cap, rfl, rfl⟩ | ⟨b, off, cap, rfl, hb, hcs⟩
  · exact (Tryd.back1_nil_in F n h8 hro l Bs A cap J W hc' h0).mono fun e W' ⟨he, hj⟩ => ⟨he, .inl ⟨_, rfl, hj⟩⟩
  · exact Tryd.back1_in F n h8 hro hn l Bs n₀ b off cap zs hlen hb J Jx hY W hc' hcs h0

/-- What the rounds have made. -/
def Tryd.rowOf (l : List (Nat × Bool)) : Nat := l.foldl (fun r p => 2 * r + p.2.toNat) 0
theorem Tryd.rowOf_snoc (l : List (Nat × Bool)) (x : Nat × Bool) : Tryd.rowOf (l ++ [x]) = 2 * Tryd.rowOf l + x.2.toNat := by simp [Tryd.rowOf]
theorem Tryd.rowOf_lt (l : List (Nat × Bool)) : Tryd.rowOf l < 2 ^ l.length := by
  have : ∀ (l : List (Nat × Bool)) (r : Nat), l.foldl (fun r p => 2 * r + p.2.toNat) r < (r + 1) * 2 ^ l.length := by
    intro l
    induction l with
    | nil => intro r; simp
    | cons x l ih =>
      intro r
      have := ih (2 * r + x.2.toNat)
      simp only [List.foldl_cons, List.length_cons, Nat.pow_succ]
      have hb : x.2.toNat ≤ 1 := by cases x.2 <;> simp
      have h2 : (2 * r + x.2.toNat + 1) * 2 ^ l.length ≤ (2 * r + 2) * 2 ^ l.length := Nat.mul_le_mul_right _ (by omega)
      have h3 : (2 * r + 2) * 2 ^ l.length = (r + 1) * (2 ^ l.length * 2) := by rw [show 2 * r + 2 = (r + 1) * 2 by omega, Nat.mul_assoc, Nat.mul_comm 2]
      omega
  have := this l 0
  simpa [Tryd.rowOf] using this
theorem Tryd.rowOf_all (zs : List Bool) : Tryd.rowOf (Tryd.upto (Tryd.bk zs) zs.length) = Go.AI.bitsNat zs := by
  have key : ∀ (zs : List Bool) (k : Nat), k ≤ zs.length → Tryd.rowOf (Tryd.upto (Tryd.bk zs) k) = Go.AI.bitsNat (zs.drop (zs.length - k)) := by
    intro zs k
    induction k with
    | zero => intro _; simp [Tryd.upto, Tryd.rowOf, Go.AI.bitsNat]
    | succ k ih =>
      intro hk
      rw [Tryd.upto_succ, Tryd.rowOf_snoc, ih (by omega)]
      have hlt : zs.length - (k + 1) < zs.length := by omega
      have e : zs.drop (zs.length - (k + 1)) = zs[zs.length - (k + 1)] :: zs.drop (zs.length - k) := by
        rw [List.drop_eq_getElem_cons hlt]; congr 2; omega
      rw [e, Go.AI.bitsNat]
      have : (Tryd.bk zs k).2 = zs[zs.length - (k + 1)] := by
        unfold Tryd.bk
        simp only [show zs.length - 1 - k = zs.length - (k + 1) by omega]
        rw [List.getElem?_eq_getElem hlt]; rfl
      rw [this]
  have := key zs zs.length (Nat.le_refl _)
  rwa [Nat.sub_self, List.drop_zero] at this
theorem Tryd.last_bit (t : Int) (ht : 0 ≤ t) (zs : List Bool) (hlen : zs.length ≤ 6) : Hid ((bits BinOp.and IntKind.u64 (t / 2 ^ min (Go.AI.bitsNat zs) 64) 1 == 1) = t.toNat.testBit (Go.AI.bitsNat zs)) := by
  unfold Hid
  obtain ⟨T, rfl⟩ : ∃ T : Nat, t = T := ⟨t.toNat, by omega⟩
  have hk : Go.AI.bitsNat zs < 64 := by
    have : ∀ l : List Bool, Go.AI.bitsNat l < 2 ^ l.length := by
      intro l
      induction l with
      | nil => simp [Go.AI.bitsNat]
      | cons b l ih =>
        simp only [Go.AI.bitsNat, List.length_cons, Nat.pow_succ]
        cases b <;> simp <;> omega
    exact Nat.lt_of_lt_of_le (this zs) (Nat.le_trans (Nat.pow_le_pow_right (by omega) hlen) (by decide))
  generalize Go.AI.bitsNat zs = k at hk
  rw [show min k 64 = k by omega, show ((T : Int) / 2 ^ k) = ((T / 2 ^ k : Nat) : Int) by simp, Int.toNat_natCast, Nat.testBit_eq_decide_div_mod_eq]
  generalize T / 2 ^ k = X
  have e1 : BitVec.ofInt IntKind.u64.bits ((X : Nat) : Int) = BitVec.ofNat 64 X := BitVec.ofInt_natCast 64 X
  have e2 : BitVec.ofInt IntKind.u64.bits (1 : Int) = BitVec.ofNat 64 1 := BitVec.ofInt_natCast 64 1
  unfold bits
  simp only [e1, e2]
  have e3 : (BitVec.ofNat 64 X &&& BitVec.ofNat 64 1).toNat = X % 2 := by
    rw [BitVec.toNat_and, BitVec.toNat_ofNat, BitVec.toNat_ofNat]
    rw [show (1 % 2 ^ 64 : Nat) = 2 ^ 1 - 1 by decide, Nat.and_two_pow_sub_one_eq_mod]
    omega
  show (IntKind.u64.wrap (((BitVec.ofNat 64 X &&& BitVec.ofNat 64 1).toNat : Nat) : Int) == 1) = _
  rw [e3]
  have e4 : IntKind.u64.wrap (((X % 2 : Nat)) : Int) = ((X % 2 : Nat) : Int) := by
    simp [IntKind.wrap, IntKind.signed, IntKind.bits]; omega
  rw [e4]
  rcases Nat.mod_two_eq_zero_or_one X with h | h <;> rw [h] <;> rfl
set_option maxRecDepth 100000 in
set_option maxHeartbeats 4000000 in
/-- **lutmap.bit.** -/
theorem Tryd.bit_in (F : Fence) (n : Nat) (h3 : F.fn 47) (h5 : F.fn 55) (h7 : F.fn 66) (hro : F.round = none) (hn : 3 ≤ n) (t : Int) (ht : 0 ≤ t) (a : Option Addr) (len cap : Nat) (zs : List Bool) (hlen : zs.length ≤ 6) (w : World) (hI : Tryd.Bools w.heap.size w (.slice a len cap) zs) :
    CallsIn F n Tryd.prog 47 #[.int .u64 t, .slice a len cap] w fun e W' => e = .returned (.bool (t.toNat.testBit (Go.AI.bitsNat zs))) ∧ Below w.heap.size w W' := by
  have h1 : 1 ≤ n := by omega
  refine callsIn_of_wp_marks Tryd.func47 rfl h3 ?_ hro
  simp only [Tryd.ntmps47, List.size_toArray, List.length_cons, List.length_nil, Nat.reduceAdd, Nat.reduceSub, Array.replicate_succ, Array.replicate_zero, List.push_toArray, List.append_toArray, List.nil_append, List.cons_append]
  gi_wp2_with (gi_at_call 55; refine (Tryd.back_in F (n - 1) h5 hro _ _ _ _).mono ?_; rintro e w' ⟨rfl, rfl⟩)
  have bS := Boxed.new w 3 (.int .i64 0)
  have bN := Boxed.new (w.alloc (.cells #[.int .i64 0] 3)) 37 (.slice a len cap)
  rw [World.size_alloc] at bN
  have hB0 : Below w.heap.size w ((w.alloc (.cells #[.int .i64 0] 3)).alloc (.cells #[.slice a len cap] 37)) := ((Below.refl _ w).alloc (Nat.le_refl _) _).alloc (by simp) _
  have hKb : ∀ (W : World) (l : Nat) (o o' : Obj), ((w.alloc (.cells #[.int .i64 0] 3)).alloc (.cells #[.slice a len cap] 37)).heap.size ≤ l → W.heap[l]? = some o → o.isCells = false → o.isWalk = false → Tryd.KpB (w.heap.size + 1) w.heap.size W (W.putObj l o') :=
    fun W l o o' hl ho hc hw => ⟨belowK_b (w := ((w.alloc (.cells #[.int .i64 0] 3)).alloc (.cells #[.slice a len cap] 37))) (by simp; omega) W l o o' hl ho hc hw, fun v hv => cell_kept hv (grownBy_putObj' W l o') (fun r e => by cases e; exact ⟨o, ho, hc⟩)⟩
  refine wpIn_rangeFunc_ownG hro h1 (gf := 66) (lb := #[.pointer (some ⟨w.heap.size + 1, 0, none⟩)]) rfl h7 (enters_of Tryd.func66 (by kernel_rfl) rfl)
    (Tryd.back_stops F (n - 1) h7 hro (by omega) (w.heap.size + 1) w.heap.size _ zs hlen _ (by simp) (by simp; omega) bN.cell (hI.below hB0)) Tryd.KpB.trans hKb (Below.refl _ _) (fun _ => rfl)
    (fun pre W => (W.cell? ⟨w.heap.size, 0, none⟩ = some (.int .i64 (Tryd.rowOf pre)) ∧ W.frozen? ⟨w.heap.size, 0, none⟩ = false) ∧ Below w.heap.size w W)
    (fun _ _ _ => False)
    (OwnFrom.and (Own.from (fun s A B row hs hg hr => ⟨cell_kept hs.1 hg hr, (frozen_kept hs.1 hg hr).trans hs.2⟩) _) (ownFrom_below (Nat.le_refl _) (by simp; omega)))
    (fun _ _ _ _ _ hs _ _ => hs)
    ⟨⟨(bS.alloc _).cell, (bS.alloc _).frozen⟩, hB0⟩
    (fun x => { tmps := #[.int .u64 t, .slice a len cap, undef, undef, .bool false, .pointer (some ⟨w.heap.size, 0, none⟩), undef, .bool x.2, .slice a len cap, .func (.func 66) #[] #[.pointer (some ⟨w.heap.size + 1, 0, none⟩)], .int .i64 (x.1 : Int), .bool x.2, undef, undef, undef, undef, undef, undef, undef, undef, undef, undef], defers := [] }) ?assign ?body ?done ?stop
  case assign =>
    intro l x W K hK
    gi_wp2
    exact hK
  case body =>
    rintro l pre x W ⟨⟨hc, hf⟩, hB⟩ hpl
    have hr := Tryd.rowOf_lt pre
    have hr6 : Tryd.rowOf pre < 2 ^ 6 := Nat.lt_of_lt_of_le hr (Nat.pow_le_pow_right (by omega) (by omega))
    have hne : (⟨w.heap.size, 0, none⟩ : Addr) ≠ ⟨w.heap.size + 1, 0, none⟩ := by simp
    have hoth : ∀ (W : World) (u : Value), ∀ v, W.cell? ⟨w.heap.size + 1, 0, none⟩ = some v → (W.setCell ⟨w.heap.size, 0, none⟩ u).cell? ⟨w.heap.size + 1, 0, none⟩ = some v := fun W u v h => by rw [World.cell?_setCell_other]; exact h; exact hne
    clear hne
    gi_wp2
    · have hx : x.2 = true := by assumption
      have e : ((Tryd.rowOf (pre ++ [x]) : Nat) : Int) = (Tryd.rowOf pre : Int) * 2 + 1 := by rw [Tryd.rowOf_snoc, hx]; simp; omega
      refine ⟨((KeepsOthers.setCell _ _ _).trans (KeepsOthers.setCell _ _ _)).from _, ⟨((Below.refl w.heap.size W).setCell (p := ⟨w.heap.size, 0, none⟩) (Nat.le_refl _) _).setCell (p := ⟨w.heap.size, 0, none⟩) (Nat.le_refl _) _, fun v hv => hoth _ _ v (hoth _ _ v hv)⟩,
        ⟨?_, by rw [World.frozen?_setCell, World.frozen?_setCell]; exact hf⟩, (hB.setCell (p := ⟨w.heap.size, 0, none⟩) (Nat.le_refl _) _).setCell (p := ⟨w.heap.size, 0, none⟩) (Nat.le_refl _) _⟩
      rw [e]
      exact World.cell?_setCell_same' _ _ _ (by rw [World.cell?_setCell_same' _ _ _ (by rw [hc]; rfl)]; rfl)
    · have hx : x.2 = false := by assumption
      have e : ((Tryd.rowOf (pre ++ [x]) : Nat) : Int) = (Tryd.rowOf pre : Int) * 2 := by rw [Tryd.rowOf_snoc, hx]; simp; omega
      refine ⟨(KeepsOthers.setCell _ _ _).from _, ⟨(Below.refl w.heap.size W).setCell (p := ⟨w.heap.size, 0, none⟩) (Nat.le_refl _) _, fun v hv => hoth _ _ v hv⟩,
        ⟨?_, by rw [World.frozen?_setCell]; exact hf⟩, hB.setCell (p := ⟨w.heap.size, 0, none⟩) (Nat.le_refl _) _⟩
      rw [e]
      exact World.cell?_setCell_same' _ _ _ (by rw [hc]; rfl)
  case done =>
    rintro D ys W hD rfl ⟨⟨hc, _⟩, hB⟩ hK
    rw [Tryd.rowOf_all] at hc
    have HB := Tryd.last_bit t ht zs hlen
    gi_wp2
    refine ⟨by simp, .inl ⟨_, _, rfl, run_takeDeferred hK, ?_⟩⟩
    exact ⟨_, results_tmp rfl _ _ _, by rw [← HB.out]; rfl, hB.trans (belowK_b (w := w) (Nat.le_refl _) W D _ _ (by simp at hD; omega) hK rfl rfl)⟩
  case stop =>
    rintro D c pre W _ _ h _
    exact h.elim
end Go.Proofs
