/- slices.Backward over ints, where two blocks are written while it walks. -/
import Derived.Test.YtfjeohnigikmoaaDoorInR
import Derived.Test.YtfjeohnigikmoaaDoorNq
import Derived.RangeFuncBox
import Derived.RangeFuncWrites
import Derived.RangeFuncNested
import Derived.RangeFuncBound
import Derived.RangeFuncCalls
import Derived.RangeFuncLeaves
import Derived.Shelf.Abstract
import Derived.OwnWalkIn
import Derived.TacticsInMore
import Derived.LoopNIn
import Derived.LoopIn
namespace Go.Proofs.YtfjeohnigikmoaaDoor
open Go.RowKit Go.Bx Go.Od Go.Hp Go.Shelf
set_option linter.unusedVariables false

/-- below bm all but blocks O and X lies as it lay -/
def KpO (bm O X : Nat) (W W' : World) : Prop := W.heap.size ≤ W'.heap.size ∧ ∀ b, b < bm → b ≠ O → b ≠ X → W'.heap[b]? = W.heap[b]?
theorem KpO.refl (bm O X : Nat) (W : World) : KpO bm O X W W := ⟨Nat.le_refl _, fun _ _ _ _ => rfl⟩
theorem KpO.trans {bm O X : Nat} {A B C : World} (h : KpO bm O X A B) (k : KpO bm O X B C) : KpO bm O X A C := ⟨Nat.le_trans h.1 k.1, fun b h1 h2 h3 => (k.2 b h1 h2 h3).trans (h.2 b h1 h2 h3)⟩
theorem heap_at {W W' : World} {b : Nat} (h : W'.heap[b]? = W.heap[b]?) {o : Nat} {v : Value} (hv : W.cell? ⟨b, o, none⟩ = some v) : W'.cell? ⟨b, o, none⟩ = some v := by
  simpa [World.cell?, h] using hv
theorem KpO.below {bm O X : Nat} {W W' : World} (hb : Below W.heap.size W W') (hbm : bm ≤ W.heap.size) : KpO bm O X W W' := ⟨hb.size, fun b h1 _ _ => hb.block b (by omega)⟩
theorem KpO.grown {bm O X : Nat} {W W' : World} {row : Option Nat} (hg : W.grownBy W' row) (hr : ∀ j, row = some j → bm ≤ j) (hbm : bm ≤ W.heap.size) : KpO bm O X W W' :=
  ⟨hg.size, fun b h1 _ _ => hg.block b (by omega) fun e => by have := hr b e.symm; omega⟩
theorem KpO.setO {bm O X : Nat} {W : World} {p : Addr} (hp : p.block = O ∨ p.block = X) (v : Value) : KpO bm O X W (W.setCell p v) :=
  ⟨by rw [size_set]; exact Nat.le_refl _, fun b _ h2 h3 => Below.heap_setCell _ _ _ _ (by rcases hp with h | h <;> (rw [h]; assumption))⟩
abbrev BkE (n : Nat) := Nat × { k : Nat // k < n }
def bkUp {n : Nat} (f : Nat → BkE n) (k : Nat) : List (BkE n) := (List.range k).map f
theorem bkUp_succ {n : Nat} (f : Nat → BkE n) (k : Nat) : bkUp f (k + 1) = bkUp f k ++ [f k] := by simp [bkUp, List.range_succ]
theorem bkUp_len {n : Nat} (f : Nat → BkE n) (k : Nat) : (bkUp f k).length = k := by simp [bkUp]
section
attribute [local go_sem] Oper.semAt_some
set_option maxRecDepth 100000 in
set_option maxHeartbeats 2000000 in
theorem back1_in {nn : Nat} (F : Fence) (n : Nat) (h8 : F.fn 33) (hro : F.round = none) (hn : 1 ≤ n) (l Bs bm O X b off len cap : Nat) (zs : Nat → BkE nn) (hlen : len ≤ 1000000) (hb : b < bm) (hb1 : b ≠ O) (hb2 : b ≠ X) (hs : Bs < bm) (hs1 : Bs ≠ O) (hs2 : Bs ≠ X) (J Jx : List (BkE nn) → World → Prop)
    (hY : ∀ pre x W, J pre W → pre.length < len → YieldAt F (n - 1) Tryd.prog l #[.int .i64 (x.1 : Int), .int .i64 (x.2.1 : Int)] W fun e W' =>
      (e = .returned (.bool true) ∧ J (pre ++ [x]) W' ∧ KpO bm O X W W') ∨ (e = .returned (.bool false) ∧ Jx (pre ++ [x]) W'))
    (W : World) (hBs : W.cell? ⟨Bs, 0, none⟩ = some (.slice (some ⟨b, off, none⟩) len cap)) (hc : ∀ j, j < len → W.cell? ⟨b, off + j, none⟩ = some (.int .i64 ((zs j).2.1 : Int))) (h0 : J [] W) :
    CallsIn F n Tryd.prog 33 #[.func (.yield l) #[] #[], .pointer (some ⟨Bs, 0, none⟩)] W fun e W' => (∃ v, e = .returned v) ∧
      ((∃ ys, ys = bkUp (fun j => (len - 1 - j, (zs (len - 1 - j)).2)) len ∧ J ys W') ∨ (∃ pre, True ∧ Jx pre W')) := by
  refine callsIn_of_wp Tryd.func33 rfl h8 ?_ hro
  simp only [Tryd.ntmps33, List.size_toArray, List.length_cons, List.length_nil, Nat.reduceAdd, Nat.reduceSub, Array.replicate_succ, Array.replicate_zero, List.push_toArray, List.append_toArray, List.nil_append, List.cons_append]
  gi_wp2
  gi_loopw [3] (fun i wr => ∃ (k : Nat) (z : Int), k ≤ len ∧ i = .int .i64 z ∧ z = (len : Int) - 1 - k ∧ J (bkUp (fun j => (len - 1 - j, (zs (len - 1 - j)).2)) k) wr ∧ KpO bm O X W wr)
    (fun i _ => (intOf i + 1).toNat)
  case atStart => exact ⟨0, _, Nat.zero_le _, rfl, by omega, h0, KpO.refl _ _ _ _⟩
  case round =>
    obtain ⟨k, z, hk, rfl, hz, hJs, hnx⟩ := hrel
    by_cases hlt : k < len
    · obtain ⟨p, hp⟩ : ∃ p : Nat, z = (p : Int) := ⟨len - 1 - k, by omega⟩
      have hpk : p = len - 1 - k := by omega
      have hpl : p < len := by omega
      subst hp
      have hcx : wr.cell? ⟨b, off + p, none⟩ = some (.int .i64 ((zs p).2.1 : Int)) := heap_at (hnx.2 b hb hb1 hb2) (hc p hpl)
      have hbx : wr.cell? ⟨Bs, 0, none⟩ = some (.slice (some ⟨b, off, none⟩) len cap) := heap_at (hnx.2 Bs hs hs1 hs2) hBs
      obtain ⟨fn, tmps, assign, body, hy, hR⟩ := hY _ (p, (zs p).2) wr hJs (by rw [bkUp_len]; exact hlt)
      dsimp only at hy
      have hp0 : (0 : Int) ≤ (p : Int) := by omega
      have hp1 : (p : Int) < (len : Int) := by omega
      have HX : Hid (p = len - 1 - k ∧ KpO bm O X W wr) := ⟨hpk, hnx⟩
      have HZ : Hid ((p : Int) = (len : Int) - 1 - k) := hz
      clear hz hpk hnx
      gi_wp2
      refine hR.mono ?_
      rintro e W3 (⟨rfl, hJ3, hk3⟩ | ⟨rfl, hJx3⟩)
      · gi_wp2
        go_roundw
        case rel => exact ⟨k + 1, _, by omega, rfl, by have := HZ.out; simp at this ⊢; omega, by rw [bkUp_succ, ← HX.out.1]; exact hJ3, HX.out.2.trans hk3⟩
        case measure => first | (simp [intOf]; done) | (simp [intOf]; omega)
      · gi_wp2
        refine bodyPost_ret (results_none rfl _ _ _) rfl ?_
        exact ⟨⟨_, rfl⟩, .inr ⟨_, trivial, hJx3⟩⟩
    · obtain rfl : k = len := by omega
      have e1 : z = -1 := by omega
      subst e1
      clear hz
      gi_wp2
      go_end0
      exact ⟨⟨_, rfl⟩, .inl ⟨_, rfl, hJs⟩⟩
set_option maxHeartbeats 1000000 in
theorem back_in (F : Fence) (n : Nat) (h5 : F.fn 20) (hro : F.round = none) (a : Option Addr) (len cap : Nat) (w : World) :
    CallsIn F n Tryd.prog 20 #[.slice a len cap] w fun e w' => e = .returned (.func (.func 33) #[] #[.pointer (some ⟨w.heap.size, 0, none⟩)]) ∧ w' = w.alloc (.cells #[.slice a len cap] 37) := by
  refine callsIn_of_wp Tryd.func20 rfl h5 ?_ hro
  simp only [Tryd.ntmps20, List.size_toArray, List.length_cons, List.length_nil, Nat.reduceAdd, Nat.reduceSub, Array.replicate_succ, Array.replicate_zero, List.push_toArray, List.append_toArray, List.nil_append, List.cons_append]
  gi_wp2
  go_ret
  exact ⟨rfl, rfl⟩
theorem back_stops {nn : Nat} (F : Fence) (n : Nat) (h8 : F.fn 33) (hro : F.round = none) (hn : 1 ≤ n) (Bs bm O X b off len cap : Nat) (zs : Nat → BkE nn) (hlen : len ≤ 1000000) (hb : b < bm) (hb1 : b ≠ O) (hb2 : b ≠ X) (hs : Bs < bm) (hs1 : Bs ≠ O) (hs2 : Bs ≠ X) (w : World) (hbm : bm ≤ w.heap.size)
    (hc : w.cell? ⟨Bs, 0, none⟩ = some (.slice (some ⟨b, off, none⟩) len cap)) (hI : ∀ j, j < len → w.cell? ⟨b, off + j, none⟩ = some (.int .i64 ((zs j).2.1 : Int))) :
    SeqStopsK F n Tryd.prog 33 #[.pointer (some ⟨Bs, 0, none⟩)] (fun x : BkE nn => #[Value.int .i64 (x.1 : Int), Value.int .i64 (x.2.1 : Int)]) (KpO bm O X) (fun ys => ys = bkUp (fun j => (len - 1 - j, (zs (len - 1 - j)).2)) len) (fun _ => True) len w := fun l J Jx W hW _ _ hY h0 =>
  back1_in F n h8 hro hn l Bs bm O X b off len cap zs hlen hb hb1 hb2 hs hs1 hs2 J Jx hY W ((hW.cell (p := ⟨Bs, 0, none⟩) (Nat.lt_of_lt_of_le hs hbm)).trans hc) (fun j hj => (hW.cell (p := ⟨b, off + j, none⟩) (Nat.lt_of_lt_of_le hb hbm)).trans (hI j hj)) h0
end
end Go.Proofs.YtfjeohnigikmoaaDoor
