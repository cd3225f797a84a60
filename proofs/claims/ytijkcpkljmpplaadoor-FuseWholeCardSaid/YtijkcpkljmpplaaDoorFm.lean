/- Layer 16: a map of one's own, ints to ints; the library's Backward over ints. -/
import Derived.Test.YtijkcpkljmpplaaDoorFu
import Derived.RangeFuncBox
import Derived.RangeFuncWrites
import Derived.RangeFuncNested
import Derived.RangeFuncBound
import Derived.RangeFuncCalls
import Derived.RangeFuncLeaves
import Derived.Shelf.Abstract
import Derived.OwnWalkIn
import Derived.TacticsInMore
import Derived.LoopNIn
import Derived.LoopIn
import Derived.Maps.OwnSet
namespace Go.Proofs.YtijkcpkljmpplaaDoor
open Go.RowKit Go.Bx Go.Od Go.Hp Go.Shelf
set_option linter.unusedVariables false

/-! ### the map -/
theorem zeroI (w : World) : (zeroValue 3).run Tryd.prog w = .ok (.int .i64 0) w := by kernel_rfl
theorem plainElem_int_inv' {H : Type} {P : Program} {e : TypeId} (he : P.underlying e = some (.int .i64)) {v : Value} {z : DataW H × List MemPlace} (h : plainElem P e v = some z) : ∃ x, v = .int .i64 x ∧ z = (.lit (.int .i64 x), []) := by
  unfold plainElem at h
  rw [he] at h
  cases v with
  | int q x =>
    cases q <;> simp at h
    obtain ⟨_, rfl⟩ := h
    exact ⟨_, rfl, rfl⟩
  | _ => simp at h
theorem wfN {k : Nat} (h : k < 9223372036854775807) : (Lit.int .i64 k).wf = true := wfNat h
def MapI (w : World) (b n c : Nat) (m : Nat → Option Nat) : Prop :=
  ∃ (D : DataW Unit) (c' : Nat), c' ≤ c ∧ w.ownsMap Tryd.prog 3 (plainElem Tryd.prog 3) b c' D ∧ Go.Maps.IsMap D ∧ n ≤ 1000000 ∧ (∀ k v, m k = some v → v < n) ∧
    ∀ k : Nat, k < n → D.atKey (.int .i64 k) (.lit (.int .i64 0)) = .lit (.int .i64 ((m k).getD 0 : Nat)) ∧ Go.Maps.has D (.int .i64 k) = (m k).isSome
variable {w w' : World} {b n c : Nat} {m : Nat → Option Nat}
theorem MapI.kept {row : Option Nat} (h : MapI w b n c m) (hg : w.grownBy w' row) (hne : some b ≠ row) : MapI w' b n c m := by
  obtain ⟨D, c', h0, h1, h2, h3, h4⟩ := h
  exact ⟨D, c', h0, h1.kept hg hne, h2, h3, h4⟩
theorem MapI.alloc (h : MapI w b n c m) (o : Obj) : MapI (w.alloc o) b n c m := h.kept (World.grownBy_alloc w o .none) (by simp)
theorem MapI.lt (h : MapI w b n c m) : b < w.heap.size := by
  obtain ⟨D, c', _, h1, _⟩ := h
  exact h1.lt
theorem MapI.mono {c2 : Nat} (h : MapI w b n c m) (hc : c ≤ c2) : MapI w b n c2 m := by
  obtain ⟨D, c', h0, h1⟩ := h
  exact ⟨D, c', Nat.le_trans h0 hc, h1⟩
theorem MapI.congr {m' : Nat → Option Nat} (h : MapI w b n c m) (e : ∀ k, m k = m' k) : MapI w b n c m' := by
  have : m = m' := funext e
  rw [← this]
  exact h
theorem MapI.bound (h : MapI w b n c m) {k v : Nat} (hm : m k = some v) : v < n := by
  obtain ⟨D, c', h0, h1, h2, h3, h4, _⟩ := h
  exact h4 k v hm
theorem MapI.made (w : World) (n : Nat) (hn : n ≤ 1000000) : MapI (w.alloc (.map #[] 0)) w.heap.size n 0 (fun _ => none) :=
  ⟨.map [], 0, Nat.le_refl _, World.ownsMap_made w _ _ _, Go.Maps.isMap_empty, hn, (fun _ _ h => by cases h), fun k _ => ⟨by simp [DataW.atKey], by simp [Go.Maps.has]⟩⟩
theorem MapI.look (h : MapI w b n c m) {k : Nat} (hk : k < n) : (Instr.lookup 43 (.map (some b)) (.int .i64 k) false).run Tryd.prog w = .ok (.int .i64 ((m k).getD 0 : Nat)) w := by
  obtain ⟨D, c', h0, h1, h2, h3, h5, h4⟩ := h
  obtain ⟨v, ps, hrun, hv⟩ := h1.lookup keyInt Tryd.underlying43 (zeroI w) (plainElem_int Tryd.underlying3 (by decide)) (Maps.keyOf_int_mk Tryd.underlying3 (wfN (k := k) (by omega)))
  rw [(h4 k hk).1] at hv
  obtain ⟨x, rfl, hx⟩ := plainElem_int_inv' Tryd.underlying3 hv
  simp only [Prod.mk.injEq, DataW.lit.injEq, Lit.int.injEq, true_and] at hx
  rw [hrun, hx.1]
theorem MapI.look2 (h : MapI w b n c m) {k : Nat} (hk : k < n) : (Instr.lookup 43 (.map (some b)) (.int .i64 k) true).run Tryd.prog w = .ok (.tuple #[.int .i64 ((m k).getD 0 : Nat), .bool (m k).isSome]) w := by
  obtain ⟨D, c', h0, h1, h2, h3, h5, h4⟩ := h
  obtain ⟨v, ps, hrun, hv⟩ := h1.look_ok keyInt Tryd.underlying43 (zeroI w) (plainElem_int Tryd.underlying3 (by decide)) (Maps.keyOf_int_mk Tryd.underlying3 (wfN (k := k) (by omega)))
  rw [(h4 k hk).1] at hv
  obtain ⟨x, rfl, hx⟩ := plainElem_int_inv' Tryd.underlying3 hv
  simp only [Prod.mk.injEq, DataW.lit.injEq, Lit.int.injEq, true_and] at hx
  rw [hrun, hx.1, (h4 k hk).2]
theorem MapI.put (h : MapI w b n c m) {k v : Nat} (hk : k < n) (hv : v < n) (hs : c ≤ 100000) : ∃ w', (Instr.mapUpdate 43 (.map (some b)) (.int .i64 k) (.int .i64 v)).run Tryd.prog w = .ok () w' ∧ MapI w' b n (c + 1) (fun r => if r = k then some v else m r) ∧ w.grownBy w' (some b) := by
  obtain ⟨D, c', h0, h1, h2, h3, h5, h4⟩ := h
  obtain ⟨w', hrun, r1, r2⟩ := h1.update keyInt Tryd.underlying43 (by unfold maxLen; omega) (Maps.keyOf_int_mk Tryd.underlying3 (wfN (k := k) (by omega))) (plainElem_int Tryd.underlying3 (wfN (k := v) (by omega)))
  refine ⟨w', hrun, ⟨_, c' + 1, by omega, r1, h2.put _ _, h3, fun j u hu => ?_, fun j hj => ?_⟩, r2⟩
  · have hu' : (if j = k then some v else m j) = some u := hu
    by_cases e : j = k
    · rw [if_pos e] at hu'; cases hu'; exact hv
    · rw [if_neg e] at hu'; exact h5 j u hu'
  · by_cases e : j = k
    · subst e
      rw [Go.Maps.atKey_put_same h2 (by trivial), Go.Maps.has_put_same h2 (by trivial)]
      simp
    · rw [Go.Maps.atKey_put_other (by simp; omega), (h4 j hj).1, Go.Maps.has_put_other (by simp; omega), (h4 j hj).2]
      simp [e]

/-! ### slices.Backward -/
/-- all below bm lies as it lay, and block Bs -/
def KpB (bm Bs : Nat) (W W' : World) : Prop := Below bm W W' ∧ W'.heap[Bs]? = W.heap[Bs]?
theorem KpB.refl (bm Bs : Nat) (W : World) : KpB bm Bs W W := ⟨Below.refl _ _, rfl⟩
theorem KpB.trans {bm Bs : Nat} {A B C : World} (h : KpB bm Bs A B) (k : KpB bm Bs B C) : KpB bm Bs A C := ⟨h.1.trans k.1, k.2.trans h.2⟩
theorem heap_at {W W' : World} {b : Nat} (h : W'.heap[b]? = W.heap[b]?) {o : Nat} {v : Value} (hv : W.cell? ⟨b, o, none⟩ = some v) : W'.cell? ⟨b, o, none⟩ = some v := by
  simpa [World.cell?, h] using hv
abbrev BkE (n : Nat) := Nat × { k : Nat // k < n }
def bkUp {n : Nat} (f : Nat → BkE n) (k : Nat) : List (BkE n) := (List.range k).map f
theorem bkUp_succ {n : Nat} (f : Nat → BkE n) (k : Nat) : bkUp f (k + 1) = bkUp f k ++ [f k] := by simp [bkUp, List.range_succ]
theorem bkUp_len {n : Nat} (f : Nat → BkE n) (k : Nat) : (bkUp f k).length = k := by simp [bkUp]
section
attribute [local go_sem] Oper.semAt_some
set_option maxRecDepth 100000 in
set_option maxHeartbeats 2000000 in
theorem back1_in {nn : Nat} (F : Fence) (n : Nat) (h8 : F.fn 40) (hro : F.round = none) (hn : 1 ≤ n) (l Bs bm b off len cap : Nat) (zs : Nat → BkE nn) (hlen : len ≤ 1000000) (hb : b < bm) (J Jx : List (BkE nn) → World → Prop)
    (hY : ∀ pre x W, J pre W → pre.length < len → YieldAt F (n - 1) Tryd.prog l #[.int .i64 (x.1 : Int), .int .i64 (x.2.1 : Int)] W fun e W' =>
      (e = .returned (.bool true) ∧ J (pre ++ [x]) W' ∧ KpB bm Bs W W') ∨ (e = .returned (.bool false) ∧ Jx (pre ++ [x]) W'))
    (W : World) (hBs : W.cell? ⟨Bs, 0, none⟩ = some (.slice (some ⟨b, off, none⟩) len cap)) (hc : ∀ j, j < len → W.cell? ⟨b, off + j, none⟩ = some (.int .i64 ((zs j).2.1 : Int))) (h0 : J [] W) :
    CallsIn F n Tryd.prog 40 #[.func (.yield l) #[] #[], .pointer (some ⟨Bs, 0, none⟩)] W fun e W' => (∃ v, e = .returned v) ∧
      ((∃ ys, ys = bkUp (fun j => (len - 1 - j, (zs (len - 1 - j)).2)) len ∧ J ys W') ∨ (∃ pre, True ∧ Jx pre W')) := by
  refine callsIn_of_wp Tryd.func40 rfl h8 ?_ hro
  simp only [Tryd.ntmps40, List.size_toArray, List.length_cons, List.length_nil, Nat.reduceAdd, Nat.reduceSub, Array.replicate_succ, Array.replicate_zero, List.push_toArray, List.append_toArray, List.nil_append, List.cons_append]
  gi_wp2
  gi_loopw [3] (fun i wr => ∃ (k : Nat) (z : Int), k ≤ len ∧ i = .int .i64 z ∧ z = (len : Int) - 1 - k ∧ J (bkUp (fun j => (len - 1 - j, (zs (len - 1 - j)).2)) k) wr ∧ KpB bm Bs W wr)
    (fun i _ => (intOf i + 1).toNat)
  case atStart => exact ⟨0, _, Nat.zero_le _, rfl, by omega, h0, KpB.refl _ _ _⟩
  case round =>
    obtain ⟨k, z, hk, rfl, hz, hJs, hnx⟩ := hrel
    by_cases hlt : k < len
    · obtain ⟨p, hp⟩ : ∃ p : Nat, z = (p : Int) := ⟨len - 1 - k, by omega⟩
      have hpk : p = len - 1 - k := by omega
      have hpl : p < len := by omega
      subst hp
      have hcx : wr.cell? ⟨b, off + p, none⟩ = some (.int .i64 ((zs p).2.1 : Int)) := (hnx.1.cell (p := ⟨b, off + p, none⟩) hb).trans (hc p hpl)
      have hbx : wr.cell? ⟨Bs, 0, none⟩ = some (.slice (some ⟨b, off, none⟩) len cap) := heap_at hnx.2 hBs
      obtain ⟨fn, tmps, assign, body, hy, hR⟩ := hY _ (p, (zs p).2) wr hJs (by rw [bkUp_len]; exact hlt)
      dsimp only at hy
      have hp0 : (0 : Int) ≤ (p : Int) := by omega
      have hp1 : (p : Int) < (len : Int) := by omega
      have HX : Hid (p = len - 1 - k ∧ KpB bm Bs W wr) := ⟨hpk, hnx⟩
      have HZ : Hid ((p : Int) = (len : Int) - 1 - k) := hz
      clear hz hpk hnx
      gi_wp2
      refine hR.mono ?_
      rintro e W3 (⟨rfl, hJ3, hk3⟩ | ⟨rfl, hJx3⟩)
      · gi_wp2
        go_roundw
        case rel => exact ⟨k + 1, _, by omega, rfl, by have := HZ.out; simp at this ⊢; omega, by rw [bkUp_succ, ← HX.out.1]; exact hJ3, HX.out.2.trans hk3⟩
        case measure => first | (simp [intOf]; done) | (simp [intOf]; omega)
      · gi_wp2
        refine bodyPost_ret (results_none rfl _ _ _) rfl ?_
        exact ⟨⟨_, rfl⟩, .inr ⟨_, trivial, hJx3⟩⟩
    · obtain rfl : k = len := by omega
      have e1 : z = -1 := by omega
      subst e1
      clear hz
      gi_wp2
      go_end0
      exact ⟨⟨_, rfl⟩, .inl ⟨_, rfl, hJs⟩⟩
set_option maxHeartbeats 1000000 in
theorem back_in (F : Fence) (n : Nat) (h5 : F.fn 31) (hro : F.round = none) (a : Option Addr) (len cap : Nat) (w : World) :
    CallsIn F n Tryd.prog 31 #[.slice a len cap] w fun e w' => e = .returned (.func (.func 40) #[] #[.pointer (some ⟨w.heap.size, 0, none⟩)]) ∧ w' = w.alloc (.cells #[.slice a len cap] 30) := by
  refine callsIn_of_wp Tryd.func31 rfl h5 ?_ hro
  simp only [Tryd.ntmps31, List.size_toArray, List.length_cons, List.length_nil, Nat.reduceAdd, Nat.reduceSub, Array.replicate_succ, Array.replicate_zero, List.push_toArray, List.append_toArray, List.nil_append, List.cons_append]
  gi_wp2
  go_ret
  exact ⟨rfl, rfl⟩
theorem back_stops {nn : Nat} (F : Fence) (n : Nat) (h8 : F.fn 40) (hro : F.round = none) (hn : 1 ≤ n) (Bs bm b off len cap : Nat) (zs : Nat → BkE nn) (hlen : len ≤ 1000000) (hb : b < bm) (w : World) (hBs : Bs < w.heap.size) (hbm : bm ≤ w.heap.size)
    (hc : w.cell? ⟨Bs, 0, none⟩ = some (.slice (some ⟨b, off, none⟩) len cap)) (hI : ∀ j, j < len → w.cell? ⟨b, off + j, none⟩ = some (.int .i64 ((zs j).2.1 : Int))) :
    SeqStopsK F n Tryd.prog 40 #[.pointer (some ⟨Bs, 0, none⟩)] (fun x : BkE nn => #[Value.int .i64 (x.1 : Int), Value.int .i64 (x.2.1 : Int)]) (KpB bm Bs) (fun ys => ys = bkUp (fun j => (len - 1 - j, (zs (len - 1 - j)).2)) len) (fun _ => True) len w := fun l J Jx W hW _ _ hY h0 =>
  back1_in F n h8 hro hn l Bs bm b off len cap zs hlen hb J Jx hY W ((hW.cell (p := ⟨Bs, 0, none⟩) hBs).trans hc) (fun j hj => (hW.cell (p := ⟨b, off + j, none⟩) (Nat.lt_of_lt_of_le hb hbm)).trans (hI j hj)) h0
end
end Go.Proofs.YtijkcpkljmpplaaDoor
