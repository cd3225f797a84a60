/- Layer 12: the document's Arity, Bounds. Printed by mk_bounds.py. -/
import Derived.Test.YtmhfabekmgcjnaaDoorCl
import Derived.Test.YtmhfabekmgcjnaaDoorGa
namespace Go.Proofs.YtmhfabekmgcjnaaDoor
open Go.RowKit Go.Bx
attribute [local go_sem ↓] Go.wp_at_zero Go.wp_at_succ
set_option linter.unusedVariables false

/-! ### the tables -/
def leastL : List Int := [0, 1, 1, 1, 1, 1, 0, 2, 2, 1, 1, 1, 1]
def mostL : List Int := [0, 1, 1, 1, 1, 1, 0, 2, 2, 8, 1, 1, 1]
def parL : List Int := [0, 2, 2, 2, 2, 20, 8, 1, 1, 0, 4, 8, 4]
/-- the three tables of layer 12 lie in blocks 0, 1, 2 -/
def Tabs (w : World) : Prop := ∀ j : Nat, j < 13 → w.cell? ⟨0, j, none⟩ = some (.int .i64 (leastL.getD j 0)) ∧ w.cell? ⟨1, j, none⟩ = some (.int .i64 (mostL.getD j 0)) ∧ w.cell? ⟨2, j, none⟩ = some (.int .i64 (parL.getD j 0))
theorem Tabs.below {w W : World} (h : Tabs w) (hb : Below w.heap.size w W) : Tabs W := fun j hj =>
  ⟨(hb.cell (lt_of_cell (h j hj).1)).trans (h j hj).1, (hb.cell (lt_of_cell (h j hj).2.1)).trans (h j hj).2.1, (hb.cell (lt_of_cell (h j hj).2.2)).trans (h j hj).2.2⟩
theorem up {n : Nat} {w W : World} {v : Value} {P : Program} {f : FuncId} {args : Array Value} (hb : Below n w W) (h : Calls P f args W (PPost W v)) (hn : n ≤ w.heap.size) : Calls P f args W fun e w' => e = .returned v ∧ Below n w w' :=
  h.mono fun _ _ ⟨he, hb'⟩ => ⟨he, hb.trans (hb'.mono (Nat.le_trans hn hb.size))⟩
def arity (op : Int) : Array Value := if op < 1 ∨ 12 < op then #[.int .i64 0, .int .i64 0, .int .i64 0, .bool false] else #[.int .i64 (leastL.getD op.toNat 0), .int .i64 (mostL.getD op.toNat 0), .int .i64 (parL.getD op.toNat 0), .bool true]
set_option maxHeartbeats 1600000 in
theorem arity_c (op : Int) (w : World) (ht : Tabs w) : Calls Tryd.prog 31 #[.int .i64 op] w (PPost w (.tuple (arity op))) := by
  by_cases h1 : op < 1
  · have HE : Hid (arity op = #[.int .i64 0, .int .i64 0, .int .i64 0, .bool false]) := if_pos (.inl h1)
    rw [HE.out]
    go_enter Tryd.func31, Tryd.ntmps31
    go_wp2_with fail
    refine bodyPost_ret (v := .tuple #[.int .i64 0, .int .i64 0, .int .i64 0, .bool false]) (by simp [results, Tryd.results31, go_sem]) rfl ?_
    exact ⟨rfl, Below.refl _ _⟩
  · by_cases h2 : 12 < op
    · have HE : Hid (arity op = #[.int .i64 0, .int .i64 0, .int .i64 0, .bool false]) := if_pos (.inr h2)
      rw [HE.out]
      go_enter Tryd.func31, Tryd.ntmps31
      go_wp2_with fail
      refine bodyPost_ret (v := .tuple #[.int .i64 0, .int .i64 0, .int .i64 0, .bool false]) (by simp [results, Tryd.results31, go_sem]) rfl ?_
      exact ⟨rfl, Below.refl _ _⟩
    · obtain ⟨j, rfl⟩ : ∃ j : Nat, op = j := ⟨op.toNat, by omega⟩
      have hj : j < 13 := by omega
      have HE : Hid (arity j = #[.int .i64 (leastL.getD j 0), .int .i64 (mostL.getD j 0), .int .i64 (parL.getD j 0), .bool true]) := by
        unfold arity
        rw [if_neg (by omega), Int.toNat_natCast]
        exact rfl
      rw [HE.out]
      obtain ⟨c0, c1, c2⟩ := ht j hj
      generalize leastL.getD j 0 = z0 at *
      generalize mostL.getD j 0 = z1 at *
      generalize parL.getD j 0 = z2 at *
      have hj0 : (0 : Int) ≤ (j : Int) := by omega
      have hj1 : (j : Int) < 13 := by omega
      have k0 := fun s : Kept w.heap.size w => s.at c0
      have k1 := fun s : Kept w.heap.size w => s.at c1
      have k2 := fun s : Kept w.heap.size w => s.at c2
      clear c0 c1 c2 ht
      go_enter Tryd.func31, Tryd.ntmps31
      go_wp2_with fail
      refine wp_region_kept w.heap.size (by kernel_rfl) (by kernel_rfl) ?_
      repeat (go_big_quiet_step (fail))
      refine wpQuiet_nil ?_
      rintro _ ⟨s, rfl⟩
      go_wp2_with fail
      refine bodyPost_ret (v := .tuple #[.int .i64 z0, .int .i64 z1, .int .i64 z2, .bool true]) (by simp [results, Tryd.results31, go_sem]) rfl ?_
      exact ⟨rfl, s.below⟩
/-! ### Bounds -/
def bndB (op : Int) (xs : List Int) : Bool :=
  if op = 1 then nearB xs 0 2 (-1048576) 1048576
  else if op = 2 ∨ op = 3 ∨ op = 4 then nearB xs 0 2 0 255
  else if op = 5 then r7 xs
  else if op = 6 then pixB xs 0 && nearB xs 4 8 (-1048576) 1048576
  else if op = 7 then nearB xs 0 1 0 6
  else if op = 8 then nearB xs 0 1 0 5
  else if op = 10 then nearB xs 0 4 (-1048576) 1048576 && (decide (xs.getD 0 0 < xs.getD 2 0) && (decide (xs.getD 1 0 < xs.getD 3 0) && (decide (xs.getD 2 0 - xs.getD 0 0 ≤ 4096) && decide (xs.getD 3 0 - xs.getD 1 0 ≤ 4096))))
  else if op = 11 then nearB xs 0 2 (-1048576) 1048576 && (nearB xs 2 4 0 255 && pixB xs 4)
  else if op = 12 then nearB xs 0 4 (-1048576) 1048576
  else true
set_option maxHeartbeats 3200000 in
theorem bounds1_c {F : Nat → Prop} (ia : Option Addr) (il ic : Nat) (pv : Value) (xs : List Int) (w : World) (hn : xs.length = 2) (hF : ∀ b, F b → b < w.heap.size) (hl : SlOf RInt 1 F w pv xs) :
    Calls Tryd.prog 33 #[.agg #[.int .i64 1, .slice ia il ic, pv]] w (PPost w (.bool (bndB 1 xs))) := by
  have HL : Hid (∀ W, Below w.heap.size w W → SlOf RInt 1 F W pv xs ∧ ∀ b, F b → b < W.heap.size) := fun W hb => ⟨hl.same RInt.ok (Same.of_below hb hF), fun b hb' => Nat.lt_of_lt_of_le (hF b hb') hb.size⟩
  obtain ⟨a, cap, rfl, hcap, hm, _, hcell⟩ := hl.ints
  unfold maxLen at hm
  have X := Box.new w [.int .i64 1, .slice ia il ic, .slice a xs.length cap] 36
  have B1 : Below w.heap.size w (w.alloc (.cells #[.int .i64 1, .slice ia il ic, .slice a xs.length cap] 36)) := below_alloc _ _
  obtain ⟨q, hq⟩ : ∃ q, q = nearB xs 0 2 (-1048576) 1048576 := ⟨_, rfl⟩
  have H1 : Hid (∀ W, Below w.heap.size w W → Calls Tryd.prog 32 #[.slice a xs.length cap, .int .i64 0, .int .i64 2, .int .i64 (-1048576), .int .i64 1048576] W fun e w' => e = .returned (.bool q) ∧ Below w.heap.size w w') := fun W hb => by
    have h := up hb (near_c (F := F) _ xs 0 2 (-1048576) 1048576 W (by omega) (by omega) (HL.out W hb).1) (Nat.le_refl _)
    rw [← hq] at h
    exact h
  have HE : Hid (bndB 1 xs = q) := by rw [hq]; rfl
  clear hn hl hcell HL hq
  go_enter Tryd.func33, Tryd.ntmps33
  go_wp2_with fail
  have x0 := X.cell 0 rfl
  have x2 := X.cell 2 rfl
  generalize w.alloc (.cells #[.int .i64 1, .slice ia il ic, .slice a xs.length cap] 36) = W1 at *
  clear X
  go_wp2_with (first | (go_at_call 32; with_reducible refine (H1.out _ (by assumption)).mono ?_; rintro e w5 ⟨rfl, b5⟩))
  go_ret
  exact ⟨ret_b HE.out.symm, by assumption⟩
set_option maxHeartbeats 3200000 in
theorem bounds2_c {F : Nat → Prop} (ia : Option Addr) (il ic : Nat) (pv : Value) (xs : List Int) (w : World) (hn : xs.length = 2) (hF : ∀ b, F b → b < w.heap.size) (hl : SlOf RInt 1 F w pv xs) :
    Calls Tryd.prog 33 #[.agg #[.int .i64 2, .slice ia il ic, pv]] w (PPost w (.bool (bndB 2 xs))) := by
  have HL : Hid (∀ W, Below w.heap.size w W → SlOf RInt 1 F W pv xs ∧ ∀ b, F b → b < W.heap.size) := fun W hb => ⟨hl.same RInt.ok (Same.of_below hb hF), fun b hb' => Nat.lt_of_lt_of_le (hF b hb') hb.size⟩
  obtain ⟨a, cap, rfl, hcap, hm, _, hcell⟩ := hl.ints
  unfold maxLen at hm
  have X := Box.new w [.int .i64 2, .slice ia il ic, .slice a xs.length cap] 36
  have B1 : Below w.heap.size w (w.alloc (.cells #[.int .i64 2, .slice ia il ic, .slice a xs.length cap] 36)) := below_alloc _ _
  obtain ⟨q, hq⟩ : ∃ q, q = nearB xs 0 2 0 255 := ⟨_, rfl⟩
  have H1 : Hid (∀ W, Below w.heap.size w W → Calls Tryd.prog 32 #[.slice a xs.length cap, .int .i64 0, .int .i64 2, .int .i64 0, .int .i64 255] W fun e w' => e = .returned (.bool q) ∧ Below w.heap.size w w') := fun W hb => by
    have h := up hb (near_c (F := F) _ xs 0 2 0 255 W (by omega) (by omega) (HL.out W hb).1) (Nat.le_refl _)
    rw [← hq] at h
    exact h
  have HE : Hid (bndB 2 xs = q) := by rw [hq]; rfl
  clear hn hl hcell HL hq
  go_enter Tryd.func33, Tryd.ntmps33
  go_wp2_with fail
  have x0 := X.cell 0 rfl
  have x2 := X.cell 2 rfl
  generalize w.alloc (.cells #[.int .i64 2, .slice ia il ic, .slice a xs.length cap] 36) = W1 at *
  clear X
  go_wp2_with (first | (go_at_call 32; with_reducible refine (H1.out _ (by assumption)).mono ?_; rintro e w5 ⟨rfl, b5⟩))
  go_ret
  exact ⟨ret_b HE.out.symm, by assumption⟩
set_option maxHeartbeats 3200000 in
theorem bounds3_c {F : Nat → Prop} (ia : Option Addr) (il ic : Nat) (pv : Value) (xs : List Int) (w : World) (hn : xs.length = 2) (hF : ∀ b, F b → b < w.heap.size) (hl : SlOf RInt 1 F w pv xs) :
    Calls Tryd.prog 33 #[.agg #[.int .i64 3, .slice ia il ic, pv]] w (PPost w (.bool (bndB 3 xs))) := by
  have HL : Hid (∀ W, Below w.heap.size w W → SlOf RInt 1 F W pv xs ∧ ∀ b, F b → b < W.heap.size) := fun W hb => ⟨hl.same RInt.ok (Same.of_below hb hF), fun b hb' => Nat.lt_of_lt_of_le (hF b hb') hb.size⟩
  obtain ⟨a, cap, rfl, hcap, hm, _, hcell⟩ := hl.ints
  unfold maxLen at hm
  have X := Box.new w [.int .i64 3, .slice ia il ic, .slice a xs.length cap] 36
  have B1 : Below w.heap.size w (w.alloc (.cells #[.int .i64 3, .slice ia il ic, .slice a xs.length cap] 36)) := below_alloc _ _
  obtain ⟨q, hq⟩ : ∃ q, q = nearB xs 0 2 0 255 := ⟨_, rfl⟩
  have H1 : Hid (∀ W, Below w.heap.size w W → Calls Tryd.prog 32 #[.slice a xs.length cap, .int .i64 0, .int .i64 2, .int .i64 0, .int .i64 255] W fun e w' => e = .returned (.bool q) ∧ Below w.heap.size w w') := fun W hb => by
    have h := up hb (near_c (F := F) _ xs 0 2 0 255 W (by omega) (by omega) (HL.out W hb).1) (Nat.le_refl _)
    rw [← hq] at h
    exact h
  have HE : Hid (bndB 3 xs = q) := by rw [hq]; rfl
  clear hn hl hcell HL hq
  go_enter Tryd.func33, Tryd.ntmps33
  go_wp2_with fail
  have x0 := X.cell 0 rfl
  have x2 := X.cell 2 rfl
  generalize w.alloc (.cells #[.int .i64 3, .slice ia il ic, .slice a xs.length cap] 36) = W1 at *
  clear X
  go_wp2_with (first | (go_at_call 32; with_reducible refine (H1.out _ (by assumption)).mono ?_; rintro e w5 ⟨rfl, b5⟩))
  go_ret
  exact ⟨ret_b HE.out.symm, by assumption⟩
set_option maxHeartbeats 3200000 in
theorem bounds4_c {F : Nat → Prop} (ia : Option Addr) (il ic : Nat) (pv : Value) (xs : List Int) (w : World) (hn : xs.length = 2) (hF : ∀ b, F b → b < w.heap.size) (hl : SlOf RInt 1 F w pv xs) :
    Calls Tryd.prog 33 #[.agg #[.int .i64 4, .slice ia il ic, pv]] w (PPost w (.bool (bndB 4 xs))) := by
  have HL : Hid (∀ W, Below w.heap.size w W → SlOf RInt 1 F W pv xs ∧ ∀ b, F b → b < W.heap.size) := fun W hb => ⟨hl.same RInt.ok (Same.of_below hb hF), fun b hb' => Nat.lt_of_lt_of_le (hF b hb') hb.size⟩
  obtain ⟨a, cap, rfl, hcap, hm, _, hcell⟩ := hl.ints
  unfold maxLen at hm
  have X := Box.new w [.int .i64 4, .slice ia il ic, .slice a xs.length cap] 36
  have B1 : Below w.heap.size w (w.alloc (.cells #[.int .i64 4, .slice ia il ic, .slice a xs.length cap] 36)) := below_alloc _ _
  obtain ⟨q, hq⟩ : ∃ q, q = nearB xs 0 2 0 255 := ⟨_, rfl⟩
  have H1 : Hid (∀ W, Below w.heap.size w W → Calls Tryd.prog 32 #[.slice a xs.length cap, .int .i64 0, .int .i64 2, .int .i64 0, .int .i64 255] W fun e w' => e = .returned (.bool q) ∧ Below w.heap.size w w') := fun W hb => by
    have h := up hb (near_c (F := F) _ xs 0 2 0 255 W (by omega) (by omega) (HL.out W hb).1) (Nat.le_refl _)
    rw [← hq] at h
    exact h
  have HE : Hid (bndB 4 xs = q) := by rw [hq]; rfl
  clear hn hl hcell HL hq
  go_enter Tryd.func33, Tryd.ntmps33
  go_wp2_with fail
  have x0 := X.cell 0 rfl
  have x2 := X.cell 2 rfl
  generalize w.alloc (.cells #[.int .i64 4, .slice ia il ic, .slice a xs.length cap] 36) = W1 at *
  clear X
  go_wp2_with (first | (go_at_call 32; with_reducible refine (H1.out _ (by assumption)).mono ?_; rintro e w5 ⟨rfl, b5⟩))
  go_ret
  exact ⟨ret_b HE.out.symm, by assumption⟩
set_option maxHeartbeats 3200000 in
theorem bounds5_c {F : Nat → Prop} (ia : Option Addr) (il ic : Nat) (pv : Value) (xs : List Int) (w : World) (hn : xs.length = 20) (hF : ∀ b, F b → b < w.heap.size) (hl : SlOf RInt 1 F w pv xs) :
    Calls Tryd.prog 33 #[.agg #[.int .i64 5, .slice ia il ic, pv]] w (PPost w (.bool (bndB 5 xs))) := by
  have HL : Hid (∀ W, Below w.heap.size w W → SlOf RInt 1 F W pv xs ∧ ∀ b, F b → b < W.heap.size) := fun W hb => ⟨hl.same RInt.ok (Same.of_below hb hF), fun b hb' => Nat.lt_of_lt_of_le (hF b hb') hb.size⟩
  obtain ⟨a, cap, rfl, hcap, hm, _, hcell⟩ := hl.ints
  unfold maxLen at hm
  have X := Box.new w [.int .i64 5, .slice ia il ic, .slice a xs.length cap] 36
  have B1 : Below w.heap.size w (w.alloc (.cells #[.int .i64 5, .slice ia il ic, .slice a xs.length cap] 36)) := below_alloc _ _
  obtain ⟨q, hq⟩ : ∃ q, q = r7 xs := ⟨_, rfl⟩
  have H1 : Hid (∀ W, Below w.heap.size w W → Calls Tryd.prog 46 #[.slice a xs.length cap] W fun e w' => e = .returned (.bool q) ∧ Below w.heap.size w w') := fun W hb => by
    have h := up hb (right07_c (F := F) _ xs W (HL.out W hb).1) (Nat.le_refl _)
    rw [← hq] at h
    exact h
  have HE : Hid (bndB 5 xs = q) := by rw [hq]; rfl
  clear hn hl hcell HL hq
  go_enter Tryd.func33, Tryd.ntmps33
  go_wp2_with fail
  have x0 := X.cell 0 rfl
  have x2 := X.cell 2 rfl
  generalize w.alloc (.cells #[.int .i64 5, .slice ia il ic, .slice a xs.length cap] 36) = W1 at *
  clear X
  go_wp2_with (first | (go_at_call 46; with_reducible refine (H1.out _ (by assumption)).mono ?_; rintro e w5 ⟨rfl, b5⟩))
  go_ret
  exact ⟨ret_b HE.out.symm, by assumption⟩
set_option maxHeartbeats 3200000 in
theorem bounds7_c {F : Nat → Prop} (ia : Option Addr) (il ic : Nat) (pv : Value) (xs : List Int) (w : World) (hn : xs.length = 1) (hF : ∀ b, F b → b < w.heap.size) (hl : SlOf RInt 1 F w pv xs) :
    Calls Tryd.prog 33 #[.agg #[.int .i64 7, .slice ia il ic, pv]] w (PPost w (.bool (bndB 7 xs))) := by
  have HL : Hid (∀ W, Below w.heap.size w W → SlOf RInt 1 F W pv xs ∧ ∀ b, F b → b < W.heap.size) := fun W hb => ⟨hl.same RInt.ok (Same.of_below hb hF), fun b hb' => Nat.lt_of_lt_of_le (hF b hb') hb.size⟩
  obtain ⟨a, cap, rfl, hcap, hm, _, hcell⟩ := hl.ints
  unfold maxLen at hm
  have X := Box.new w [.int .i64 7, .slice ia il ic, .slice a xs.length cap] 36
  have B1 : Below w.heap.size w (w.alloc (.cells #[.int .i64 7, .slice ia il ic, .slice a xs.length cap] 36)) := below_alloc _ _
  obtain ⟨q, hq⟩ : ∃ q, q = nearB xs 0 1 0 6 := ⟨_, rfl⟩
  have H1 : Hid (∀ W, Below w.heap.size w W → Calls Tryd.prog 32 #[.slice a xs.length cap, .int .i64 0, .int .i64 1, .int .i64 0, .int .i64 6] W fun e w' => e = .returned (.bool q) ∧ Below w.heap.size w w') := fun W hb => by
    have h := up hb (near_c (F := F) _ xs 0 1 0 6 W (by omega) (by omega) (HL.out W hb).1) (Nat.le_refl _)
    rw [← hq] at h
    exact h
  have HE : Hid (bndB 7 xs = q) := by rw [hq]; rfl
  clear hn hl hcell HL hq
  go_enter Tryd.func33, Tryd.ntmps33
  go_wp2_with fail
  have x0 := X.cell 0 rfl
  have x2 := X.cell 2 rfl
  generalize w.alloc (.cells #[.int .i64 7, .slice ia il ic, .slice a xs.length cap] 36) = W1 at *
  clear X
  go_wp2_with (first | (go_at_call 32; with_reducible refine (H1.out _ (by assumption)).mono ?_; rintro e w5 ⟨rfl, b5⟩))
  go_ret
  exact ⟨ret_b HE.out.symm, by assumption⟩
set_option maxHeartbeats 3200000 in
theorem bounds8_c {F : Nat → Prop} (ia : Option Addr) (il ic : Nat) (pv : Value) (xs : List Int) (w : World) (hn : xs.length = 1) (hF : ∀ b, F b → b < w.heap.size) (hl : SlOf RInt 1 F w pv xs) :
    Calls Tryd.prog 33 #[.agg #[.int .i64 8, .slice ia il ic, pv]] w (PPost w (.bool (bndB 8 xs))) := by
  have HL : Hid (∀ W, Below w.heap.size w W → SlOf RInt 1 F W pv xs ∧ ∀ b, F b → b < W.heap.size) := fun W hb => ⟨hl.same RInt.ok (Same.of_below hb hF), fun b hb' => Nat.lt_of_lt_of_le (hF b hb') hb.size⟩
  obtain ⟨a, cap, rfl, hcap, hm, _, hcell⟩ := hl.ints
  unfold maxLen at hm
  have X := Box.new w [.int .i64 8, .slice ia il ic, .slice a xs.length cap] 36
  have B1 : Below w.heap.size w (w.alloc (.cells #[.int .i64 8, .slice ia il ic, .slice a xs.length cap] 36)) := below_alloc _ _
  obtain ⟨q, hq⟩ : ∃ q, q = nearB xs 0 1 0 5 := ⟨_, rfl⟩
  have H1 : Hid (∀ W, Below w.heap.size w W → Calls Tryd.prog 32 #[.slice a xs.length cap, .int .i64 0, .int .i64 1, .int .i64 0, .int .i64 5] W fun e w' => e = .returned (.bool q) ∧ Below w.heap.size w w') := fun W hb => by
    have h := up hb (near_c (F := F) _ xs 0 1 0 5 W (by omega) (by omega) (HL.out W hb).1) (Nat.le_refl _)
    rw [← hq] at h
    exact h
  have HE : Hid (bndB 8 xs = q) := by rw [hq]; rfl
  clear hn hl hcell HL hq
  go_enter Tryd.func33, Tryd.ntmps33
  go_wp2_with fail
  have x0 := X.cell 0 rfl
  have x2 := X.cell 2 rfl
  generalize w.alloc (.cells #[.int .i64 8, .slice ia il ic, .slice a xs.length cap] 36) = W1 at *
  clear X
  go_wp2_with (first | (go_at_call 32; with_reducible refine (H1.out _ (by assumption)).mono ?_; rintro e w5 ⟨rfl, b5⟩))
  go_ret
  exact ⟨ret_b HE.out.symm, by assumption⟩
set_option maxHeartbeats 3200000 in
theorem bounds12_c {F : Nat → Prop} (ia : Option Addr) (il ic : Nat) (pv : Value) (xs : List Int) (w : World) (hn : xs.length = 4) (hF : ∀ b, F b → b < w.heap.size) (hl : SlOf RInt 1 F w pv xs) :
    Calls Tryd.prog 33 #[.agg #[.int .i64 12, .slice ia il ic, pv]] w (PPost w (.bool (bndB 12 xs))) := by
  have HL : Hid (∀ W, Below w.heap.size w W → SlOf RInt 1 F W pv xs ∧ ∀ b, F b → b < W.heap.size) := fun W hb => ⟨hl.same RInt.ok (Same.of_below hb hF), fun b hb' => Nat.lt_of_lt_of_le (hF b hb') hb.size⟩
  obtain ⟨a, cap, rfl, hcap, hm, _, hcell⟩ := hl.ints
  unfold maxLen at hm
  have X := Box.new w [.int .i64 12, .slice ia il ic, .slice a xs.length cap] 36
  have B1 : Below w.heap.size w (w.alloc (.cells #[.int .i64 12, .slice ia il ic, .slice a xs.length cap] 36)) := below_alloc _ _
  obtain ⟨q, hq⟩ : ∃ q, q = nearB xs 0 4 (-1048576) 1048576 := ⟨_, rfl⟩
  have H1 : Hid (∀ W, Below w.heap.size w W → Calls Tryd.prog 32 #[.slice a xs.length cap, .int .i64 0, .int .i64 4, .int .i64 (-1048576), .int .i64 1048576] W fun e w' => e = .returned (.bool q) ∧ Below w.heap.size w w') := fun W hb => by
    have h := up hb (near_c (F := F) _ xs 0 4 (-1048576) 1048576 W (by omega) (by omega) (HL.out W hb).1) (Nat.le_refl _)
    rw [← hq] at h
    exact h
  have HE : Hid (bndB 12 xs = q) := by rw [hq]; rfl
  clear hn hl hcell HL hq
  go_enter Tryd.func33, Tryd.ntmps33
  go_wp2_with fail
  have x0 := X.cell 0 rfl
  have x2 := X.cell 2 rfl
  generalize w.alloc (.cells #[.int .i64 12, .slice ia il ic, .slice a xs.length cap] 36) = W1 at *
  clear X
  go_wp2_with (first | (go_at_call 32; with_reducible refine (H1.out _ (by assumption)).mono ?_; rintro e w5 ⟨rfl, b5⟩))
  go_ret
  exact ⟨ret_b HE.out.symm, by assumption⟩
set_option maxHeartbeats 3200000 in
theorem bounds9_c {F : Nat → Prop} (ia : Option Addr) (il ic : Nat) (pv : Value) (xs : List Int) (w : World) (hn : xs.length = 0) (hF : ∀ b, F b → b < w.heap.size) (hl : SlOf RInt 1 F w pv xs) :
    Calls Tryd.prog 33 #[.agg #[.int .i64 9, .slice ia il ic, pv]] w (PPost w (.bool (bndB 9 xs))) := by
  have HL : Hid (∀ W, Below w.heap.size w W → SlOf RInt 1 F W pv xs ∧ ∀ b, F b → b < W.heap.size) := fun W hb => ⟨hl.same RInt.ok (Same.of_below hb hF), fun b hb' => Nat.lt_of_lt_of_le (hF b hb') hb.size⟩
  obtain ⟨a, cap, rfl, hcap, hm, _, hcell⟩ := hl.ints
  unfold maxLen at hm
  have X := Box.new w [.int .i64 9, .slice ia il ic, .slice a xs.length cap] 36
  have B1 : Below w.heap.size w (w.alloc (.cells #[.int .i64 9, .slice ia il ic, .slice a xs.length cap] 36)) := below_alloc _ _
  have HE : Hid (bndB 9 xs = true) := rfl
  clear hn hl hcell HL
  go_enter Tryd.func33, Tryd.ntmps33
  go_wp2_with fail
  have x0 := X.cell 0 rfl
  have x2 := X.cell 2 rfl
  generalize w.alloc (.cells #[.int .i64 9, .slice ia il ic, .slice a xs.length cap] 36) = W1 at *
  clear X
  go_wp2_with fail
  go_ret
  exact ⟨ret_b HE.out.symm, by assumption⟩
set_option maxHeartbeats 3200000 in
theorem bounds6_c {F : Nat → Prop} (ia : Option Addr) (il ic : Nat) (pv : Value) (xs : List Int) (w : World) (hn : xs.length = 8) (hF : ∀ b, F b → b < w.heap.size) (hl : SlOf RInt 1 F w pv xs) :
    Calls Tryd.prog 33 #[.agg #[.int .i64 6, .slice ia il ic, pv]] w (PPost w (.bool (bndB 6 xs))) := by
  have HL : Hid (∀ W, Below w.heap.size w W → SlOf RInt 1 F W pv xs ∧ ∀ b, F b → b < W.heap.size) := fun W hb => ⟨hl.same RInt.ok (Same.of_below hb hF), fun b hb' => Nat.lt_of_lt_of_le (hF b hb') hb.size⟩
  obtain ⟨a, cap, rfl, hcap, hm, _, hcell⟩ := hl.ints
  unfold maxLen at hm
  have X := Box.new w [.int .i64 6, .slice ia il ic, .slice a xs.length cap] 36
  have B1 : Below w.heap.size w (w.alloc (.cells #[.int .i64 6, .slice ia il ic, .slice a xs.length cap] 36)) := below_alloc _ _
  obtain ⟨q, hq⟩ : ∃ q, q = pixB xs 0 := ⟨_, rfl⟩
  obtain ⟨r, hr⟩ : ∃ q, q = nearB xs 4 8 (-1048576) 1048576 := ⟨_, rfl⟩
  have H1 : Hid (∀ W, Below w.heap.size w W → Calls Tryd.prog 47 #[.slice a xs.length cap, .int .i64 0] W fun e w' => e = .returned (.bool q) ∧ Below w.heap.size w w') := fun W hb => by
    have h := up hb (pixel0_c (F := F) _ xs W (by omega) (HL.out W hb).2 (HL.out W hb).1) (Nat.le_refl _)
    rw [← hq] at h
    exact h
  have H2 : Hid (∀ W, Below w.heap.size w W → Calls Tryd.prog 32 #[.slice a xs.length cap, .int .i64 4, .int .i64 8, .int .i64 (-1048576), .int .i64 1048576] W fun e w' => e = .returned (.bool r) ∧ Below w.heap.size w w') := fun W hb => by
    have h := up hb (near_c (F := F) _ xs 4 8 (-1048576) 1048576 W (by omega) (by omega) (HL.out W hb).1) (Nat.le_refl _)
    rw [← hr] at h
    exact h
  have HE : Hid (bndB 6 xs = (q && r)) := by rw [hq, hr]; rfl
  clear hn hl hcell HL hq hr
  cases q with
  | false =>
    go_enter Tryd.func33, Tryd.ntmps33
    go_wp2_with fail
    have x0 := X.cell 0 rfl
    have x2 := X.cell 2 rfl
    generalize w.alloc (.cells #[.int .i64 6, .slice ia il ic, .slice a xs.length cap] 36) = W1 at *
    clear X
    go_wp2_with (first | (go_at_call 47; with_reducible refine (H1.out _ (by assumption)).mono ?_; rintro e w5 ⟨rfl, b5⟩))
    go_ret
    exact ⟨ret_b HE.out.symm, by assumption⟩
  | true =>
    go_enter Tryd.func33, Tryd.ntmps33
    go_wp2_with fail
    have x0 := X.cell 0 rfl
    have x2 := X.cell 2 rfl
    generalize w.alloc (.cells #[.int .i64 6, .slice ia il ic, .slice a xs.length cap] 36) = W1 at *
    clear X
    go_wp2_with (first | (go_at_call 47; with_reducible refine (H1.out _ (by assumption)).mono ?_; rintro e w5 ⟨rfl, b5⟩) | (go_at_call 32; with_reducible refine (H2.out _ (by assumption)).mono ?_; rintro e w5 ⟨rfl, b5⟩))
    go_ret
    exact ⟨ret_b HE.out.symm, by assumption⟩
set_option maxHeartbeats 3200000 in
theorem bounds11_c {F : Nat → Prop} (ia : Option Addr) (il ic : Nat) (pv : Value) (xs : List Int) (w : World) (hn : xs.length = 8) (hF : ∀ b, F b → b < w.heap.size) (hl : SlOf RInt 1 F w pv xs) :
    Calls Tryd.prog 33 #[.agg #[.int .i64 11, .slice ia il ic, pv]] w (PPost w (.bool (bndB 11 xs))) := by
  have HL : Hid (∀ W, Below w.heap.size w W → SlOf RInt 1 F W pv xs ∧ ∀ b, F b → b < W.heap.size) := fun W hb => ⟨hl.same RInt.ok (Same.of_below hb hF), fun b hb' => Nat.lt_of_lt_of_le (hF b hb') hb.size⟩
  obtain ⟨a, cap, rfl, hcap, hm, _, hcell⟩ := hl.ints
  unfold maxLen at hm
  have X := Box.new w [.int .i64 11, .slice ia il ic, .slice a xs.length cap] 36
  have B1 : Below w.heap.size w (w.alloc (.cells #[.int .i64 11, .slice ia il ic, .slice a xs.length cap] 36)) := below_alloc _ _
  obtain ⟨q, hq⟩ : ∃ q, q = nearB xs 0 2 (-1048576) 1048576 := ⟨_, rfl⟩
  obtain ⟨r, hr⟩ : ∃ q, q = nearB xs 2 4 0 255 := ⟨_, rfl⟩
  obtain ⟨s, hs⟩ : ∃ q, q = pixB xs 4 := ⟨_, rfl⟩
  have H1 : Hid (∀ W, Below w.heap.size w W → Calls Tryd.prog 32 #[.slice a xs.length cap, .int .i64 0, .int .i64 2, .int .i64 (-1048576), .int .i64 1048576] W fun e w' => e = .returned (.bool q) ∧ Below w.heap.size w w') := fun W hb => by
    have h := up hb (near_c (F := F) _ xs 0 2 (-1048576) 1048576 W (by omega) (by omega) (HL.out W hb).1) (Nat.le_refl _)
    rw [← hq] at h
    exact h
  have H2 : Hid (∀ W, Below w.heap.size w W → Calls Tryd.prog 32 #[.slice a xs.length cap, .int .i64 2, .int .i64 4, .int .i64 0, .int .i64 255] W fun e w' => e = .returned (.bool r) ∧ Below w.heap.size w w') := fun W hb => by
    have h := up hb (near_c (F := F) _ xs 2 4 0 255 W (by omega) (by omega) (HL.out W hb).1) (Nat.le_refl _)
    rw [← hr] at h
    exact h
  have H3 : Hid (∀ W, Below w.heap.size w W → Calls Tryd.prog 47 #[.slice a xs.length cap, .int .i64 4] W fun e w' => e = .returned (.bool s) ∧ Below w.heap.size w w') := fun W hb => by
    have h := up hb (pixel4_c (F := F) _ xs W (by omega) (HL.out W hb).2 (HL.out W hb).1) (Nat.le_refl _)
    rw [← hs] at h
    exact h
  have HE : Hid (bndB 11 xs = (q && (r && s))) := by rw [hq, hr, hs]; rfl
  clear hn hl hcell HL hq hr hs
  cases q with
  | false =>
    go_enter Tryd.func33, Tryd.ntmps33
    go_wp2_with fail
    have x0 := X.cell 0 rfl
    have x2 := X.cell 2 rfl
    generalize w.alloc (.cells #[.int .i64 11, .slice ia il ic, .slice a xs.length cap] 36) = W1 at *
    clear X
    go_wp2_with (first | (go_at_call 32; with_reducible refine (H1.out _ (by assumption)).mono ?_; rintro e w5 ⟨rfl, b5⟩))
    go_ret
    exact ⟨ret_b HE.out.symm, by assumption⟩
  | true =>
    cases r with
    | false =>
      go_enter Tryd.func33, Tryd.ntmps33
      go_wp2_with fail
      have x0 := X.cell 0 rfl
      have x2 := X.cell 2 rfl
      generalize w.alloc (.cells #[.int .i64 11, .slice ia il ic, .slice a xs.length cap] 36) = W1 at *
      clear X
      go_wp2_with (first | (go_at_call 32; with_reducible refine (H1.out _ (by assumption)).mono ?_; rintro e w5 ⟨rfl, b5⟩) | (go_at_call 32; with_reducible refine (H2.out _ (by assumption)).mono ?_; rintro e w5 ⟨rfl, b5⟩))
      go_ret
      exact ⟨ret_b HE.out.symm, by assumption⟩
    | true =>
      go_enter Tryd.func33, Tryd.ntmps33
      go_wp2_with fail
      have x0 := X.cell 0 rfl
      have x2 := X.cell 2 rfl
      generalize w.alloc (.cells #[.int .i64 11, .slice ia il ic, .slice a xs.length cap] 36) = W1 at *
      clear X
      go_wp2_with (first | (go_at_call 32; with_reducible refine (H1.out _ (by assumption)).mono ?_; rintro e w5 ⟨rfl, b5⟩) | (go_at_call 32; with_reducible refine (H2.out _ (by assumption)).mono ?_; rintro e w5 ⟨rfl, b5⟩) | (go_at_call 47; with_reducible refine (H3.out _ (by assumption)).mono ?_; rintro e w5 ⟨rfl, b5⟩))
      go_ret
      exact ⟨ret_b HE.out.symm, by assumption⟩
set_option maxHeartbeats 3200000 in
theorem bounds10_c {F : Nat → Prop} (ia : Option Addr) (il ic : Nat) (pv : Value) (xs : List Int) (w : World) (hn : xs.length = 4) (hF : ∀ b, F b → b < w.heap.size) (hl : SlOf RInt 1 F w pv xs) :
    Calls Tryd.prog 33 #[.agg #[.int .i64 10, .slice ia il ic, pv]] w (PPost w (.bool (bndB 10 xs))) := by
  have HL : Hid (∀ W, Below w.heap.size w W → SlOf RInt 1 F W pv xs ∧ ∀ b, F b → b < W.heap.size) := fun W hb => ⟨hl.same RInt.ok (Same.of_below hb hF), fun b hb' => Nat.lt_of_lt_of_le (hF b hb') hb.size⟩
  obtain ⟨a, cap, rfl, hcap, hm, _, hcell⟩ := hl.ints
  unfold maxLen at hm
  have X := Box.new w [.int .i64 10, .slice ia il ic, .slice a xs.length cap] 36
  have B1 : Below w.heap.size w (w.alloc (.cells #[.int .i64 10, .slice ia il ic, .slice a xs.length cap] 36)) := below_alloc _ _
  obtain ⟨b, o, rfl, _, hc⟩ := hcell 0 (by omega)
  obtain ⟨z0, h0⟩ : ∃ z, z = xs.getD 0 0 := ⟨_, rfl⟩
  obtain ⟨z1, h1⟩ : ∃ z, z = xs.getD 1 0 := ⟨_, rfl⟩
  obtain ⟨z2, h2⟩ : ∃ z, z = xs.getD 2 0 := ⟨_, rfl⟩
  obtain ⟨z3, h3⟩ : ∃ z, z = xs.getD 3 0 := ⟨_, rfl⟩
  have c0 : w.cell? ⟨b, o, none⟩ = some (.int .i64 (xs.getD 0 0)) := hc 0 (by omega)
  have c1 := hc 1 (by omega)
  have c2 := hc 2 (by omega)
  have c3 := hc 3 (by omega)
  rw [← h0] at c0
  rw [← h1] at c1
  rw [← h2] at c2
  rw [← h3] at c3
  obtain ⟨q, hq⟩ : ∃ q, q = nearB xs 0 4 (-1048576) 1048576 := ⟨_, rfl⟩
  have H1 : Hid (∀ W, Below w.heap.size w W → Calls Tryd.prog 32 #[.slice (some ⟨b, o, none⟩) xs.length cap, .int .i64 0, .int .i64 4, .int .i64 (-1048576), .int .i64 1048576] W (PPost W (.bool q))) := fun W hb => by
    have h := near_c (F := F) _ xs 0 4 (-1048576) 1048576 W (by omega) (by omega) (HL.out W hb).1
    rw [← hq] at h
    exact h
  have HZ : Hid (q = true → (-1048576 ≤ z0 ∧ z0 ≤ 1048576) ∧ (-1048576 ≤ z1 ∧ z1 ≤ 1048576) ∧ (-1048576 ≤ z2 ∧ z2 ≤ 1048576) ∧ (-1048576 ≤ z3 ∧ z3 ≤ 1048576)) := fun e => by
    rw [e] at hq
    have h := (nearB_iff _ _ _ _ _).1 hq.symm
    rw [h0, h1, h2, h3]
    exact ⟨h 0 (by omega) (by omega), h 1 (by omega) (by omega), h 2 (by omega) (by omega), h 3 (by omega) (by omega)⟩
  have HE : Hid (bndB 10 xs = (q && (decide (z0 < z2) && (decide (z1 < z3) && (decide (z2 - z0 ≤ 4096) && decide (z3 - z1 ≤ 4096)))))) := by rw [hq, h0, h1, h2, h3]; rfl
  have lt := lt_of_cell c0
  have d0 := cell_alloc_lt c0 (.cells #[.int .i64 10, .slice ia il ic, .slice (some ⟨b, o, none⟩) xs.length cap] 36)
  have d1 := cell_alloc_lt c1 (.cells #[.int .i64 10, .slice ia il ic, .slice (some ⟨b, o, none⟩) xs.length cap] 36)
  have d2 := cell_alloc_lt c2 (.cells #[.int .i64 10, .slice ia il ic, .slice (some ⟨b, o, none⟩) xs.length cap] 36)
  have d3 := cell_alloc_lt c3 (.cells #[.int .i64 10, .slice ia il ic, .slice (some ⟨b, o, none⟩) xs.length cap] 36)
  have hf1 : ((0 : Int) < (xs.length : Int)) ∧ ((1 : Int) < (xs.length : Int)) ∧ ((2 : Int) < (xs.length : Int)) ∧ ((3 : Int) < (xs.length : Int)) := ⟨by omega, by omega, by omega, by omega⟩
  obtain ⟨hf2, hf3, hf5, hf6⟩ := hf1
  have hs : w.heap.size ≤ (w.alloc (.cells #[.int .i64 10, .slice ia il ic, .slice (some ⟨b, o, none⟩) xs.length cap] 36)).heap.size := by rw [size_alloc]; omega
  have x0 := X.cell 0 rfl
  have x2 := X.cell 2 rfl
  clear hn hl hcell HL hc h0 h1 h2 h3 c0 c1 c2 c3 hq hF lt X
  cases q with
  | false =>
    have HE : Hid (bndB 10 xs = false) := HE.out
    clear HZ
    go_enter Tryd.func33, Tryd.ntmps33
    go_wp2_with fail
    generalize w.alloc (.cells #[.int .i64 10, .slice ia il ic, .slice (some ⟨b, o, none⟩) xs.length cap] 36) = W1 at *
    have k0 := fun s : Kept W1.heap.size W1 => s.at d0
    have k1 := fun s : Kept W1.heap.size W1 => s.at d1
    have k2 := fun s : Kept W1.heap.size W1 => s.at d2
    have k3 := fun s : Kept W1.heap.size W1 => s.at d3
    refine wp_region_kept W1.heap.size (by kernel_rfl) (by kernel_rfl) ?_
    repeat (go_big_quiet_step (first
      | (go_at_call 32; with_reducible exact Calls.kept _ (Nat.le_refl _) (H1.out _ (B1.trans (Kept.below _ |>.mono hs))))))
    refine wpQuiet_nil ?_
    rintro _ ⟨s, rfl⟩
    go_wp2_with fail
    go_ret
    exact ⟨ret_b HE.out.symm, B1.trans (s.below.mono hs)⟩
  | true =>
    obtain ⟨⟨a0, a1⟩, ⟨b0, b1⟩, ⟨e0, e1⟩, ⟨g0, g1⟩⟩ := HZ.out rfl
    clear HZ
    by_cases p1 : z0 < z2
    · skip
      by_cases p2 : z1 < z3
      · skip
        by_cases p3 : z2 - z0 ≤ 4096
        · skip
          by_cases p4 : z3 - z1 ≤ 4096
          · skip
            have HE : Hid (bndB 10 xs = true) := by rw [HE.out, decide_eq_true p1, decide_eq_true p2, decide_eq_true p3, decide_eq_true p4]; rfl
            go_enter Tryd.func33, Tryd.ntmps33
            go_wp2_with fail
            generalize w.alloc (.cells #[.int .i64 10, .slice ia il ic, .slice (some ⟨b, o, none⟩) xs.length cap] 36) = W1 at *
            have k0 := fun s : Kept W1.heap.size W1 => s.at d0
            have k1 := fun s : Kept W1.heap.size W1 => s.at d1
            have k2 := fun s : Kept W1.heap.size W1 => s.at d2
            have k3 := fun s : Kept W1.heap.size W1 => s.at d3
            refine wp_region_kept W1.heap.size (by kernel_rfl) (by kernel_rfl) ?_
            repeat (go_big_quiet_step (first
              | (go_at_call 32; with_reducible exact Calls.kept _ (Nat.le_refl _) (H1.out _ (B1.trans (Kept.below _ |>.mono hs))))))
            refine wpQuiet_nil ?_
            rintro _ ⟨s, rfl⟩
            go_wp2_with fail
            go_ret
            exact ⟨ret_b HE.out.symm, B1.trans (s.below.mono hs)⟩
          · have hE : bndB 10 xs = false := by rw [HE.out, decide_eq_true p1, decide_eq_true p2, decide_eq_true p3, decide_eq_false p4]; simp
            have HE : Hid (bndB 10 xs = false) := hE
            clear hE
            have hd : decide (z3 - z1 ≤ 4096) = false := decide_eq_false p4
            clear p4
            go_enter Tryd.func33, Tryd.ntmps33
            go_wp2_with fail
            generalize w.alloc (.cells #[.int .i64 10, .slice ia il ic, .slice (some ⟨b, o, none⟩) xs.length cap] 36) = W1 at *
            have k0 := fun s : Kept W1.heap.size W1 => s.at d0
            have k1 := fun s : Kept W1.heap.size W1 => s.at d1
            have k2 := fun s : Kept W1.heap.size W1 => s.at d2
            have k3 := fun s : Kept W1.heap.size W1 => s.at d3
            refine wp_region_kept W1.heap.size (by kernel_rfl) (by kernel_rfl) ?_
            repeat (go_big_quiet_step (first
              | (go_at_call 32; with_reducible exact Calls.kept _ (Nat.le_refl _) (H1.out _ (B1.trans (Kept.below _ |>.mono hs))))))
            refine wpQuiet_nil ?_
            rintro _ ⟨s, rfl⟩
            go_wp2_with fail
            go_ret
            exact ⟨ret_b HE.out.symm, B1.trans (s.below.mono hs)⟩
        · have hE : bndB 10 xs = false := by rw [HE.out, decide_eq_true p1, decide_eq_true p2, decide_eq_false p3]; simp
          have HE : Hid (bndB 10 xs = false) := hE
          clear hE
          have hd : decide (z2 - z0 ≤ 4096) = false := decide_eq_false p3
          clear p3
          go_enter Tryd.func33, Tryd.ntmps33
          go_wp2_with fail
          generalize w.alloc (.cells #[.int .i64 10, .slice ia il ic, .slice (some ⟨b, o, none⟩) xs.length cap] 36) = W1 at *
          have k0 := fun s : Kept W1.heap.size W1 => s.at d0
          have k1 := fun s : Kept W1.heap.size W1 => s.at d1
          have k2 := fun s : Kept W1.heap.size W1 => s.at d2
          have k3 := fun s : Kept W1.heap.size W1 => s.at d3
          refine wp_region_kept W1.heap.size (by kernel_rfl) (by kernel_rfl) ?_
          repeat (go_big_quiet_step (first
            | (go_at_call 32; with_reducible exact Calls.kept _ (Nat.le_refl _) (H1.out _ (B1.trans (Kept.below _ |>.mono hs))))))
          refine wpQuiet_nil ?_
          rintro _ ⟨s, rfl⟩
          go_wp2_with fail
          go_ret
          exact ⟨ret_b HE.out.symm, B1.trans (s.below.mono hs)⟩
      · have hE : bndB 10 xs = false := by rw [HE.out, decide_eq_true p1, decide_eq_false p2]; simp
        have HE : Hid (bndB 10 xs = false) := hE
        clear hE
        have hd : decide (z1 < z3) = false := decide_eq_false p2
        clear p2
        go_enter Tryd.func33, Tryd.ntmps33
        go_wp2_with fail
        generalize w.alloc (.cells #[.int .i64 10, .slice ia il ic, .slice (some ⟨b, o, none⟩) xs.length cap] 36) = W1 at *
        have k0 := fun s : Kept W1.heap.size W1 => s.at d0
        have k1 := fun s : Kept W1.heap.size W1 => s.at d1
        have k2 := fun s : Kept W1.heap.size W1 => s.at d2
        have k3 := fun s : Kept W1.heap.size W1 => s.at d3
        refine wp_region_kept W1.heap.size (by kernel_rfl) (by kernel_rfl) ?_
        repeat (go_big_quiet_step (first
          | (go_at_call 32; with_reducible exact Calls.kept _ (Nat.le_refl _) (H1.out _ (B1.trans (Kept.below _ |>.mono hs))))))
        refine wpQuiet_nil ?_
        rintro _ ⟨s, rfl⟩
        go_wp2_with fail
        go_ret
        exact ⟨ret_b HE.out.symm, B1.trans (s.below.mono hs)⟩
    · have hE : bndB 10 xs = false := by rw [HE.out, decide_eq_false p1]; simp
      have HE : Hid (bndB 10 xs = false) := hE
      clear hE
      have hd : decide (z0 < z2) = false := decide_eq_false p1
      clear p1
      go_enter Tryd.func33, Tryd.ntmps33
      go_wp2_with fail
      generalize w.alloc (.cells #[.int .i64 10, .slice ia il ic, .slice (some ⟨b, o, none⟩) xs.length cap] 36) = W1 at *
      have k0 := fun s : Kept W1.heap.size W1 => s.at d0
      have k1 := fun s : Kept W1.heap.size W1 => s.at d1
      have k2 := fun s : Kept W1.heap.size W1 => s.at d2
      have k3 := fun s : Kept W1.heap.size W1 => s.at d3
      refine wp_region_kept W1.heap.size (by kernel_rfl) (by kernel_rfl) ?_
      repeat (go_big_quiet_step (first
        | (go_at_call 32; with_reducible exact Calls.kept _ (Nat.le_refl _) (H1.out _ (B1.trans (Kept.below _ |>.mono hs))))))
      refine wpQuiet_nil ?_
      rintro _ ⟨s, rfl⟩
      go_wp2_with fail
      go_ret
      exact ⟨ret_b HE.out.symm, B1.trans (s.below.mono hs)⟩
set_option maxHeartbeats 1600000 in
theorem bounds_c {F : Nat → Prop} (op : Int) (ia : Option Addr) (il ic : Nat) (pv : Value) (xs : List Int) (w : World) (h1 : 1 ≤ op) (h2 : op ≤ 12) (hn : (xs.length : Int) = parL.getD op.toNat 0) (hF : ∀ b, F b → b < w.heap.size) (hl : SlOf RInt 1 F w pv xs) :
    Calls Tryd.prog 33 #[.agg #[.int .i64 op, .slice ia il ic, pv]] w (PPost w (.bool (bndB op xs))) := by
  have h : op = 1 ∨ op = 2 ∨ op = 3 ∨ op = 4 ∨ op = 5 ∨ op = 6 ∨ op = 7 ∨ op = 8 ∨ op = 9 ∨ op = 10 ∨ op = 11 ∨ op = 12 := by omega
  rcases h with rfl | rfl | rfl | rfl | rfl | rfl | rfl | rfl | rfl | rfl | rfl | rfl
  · exact bounds1_c ia il ic pv xs w (by have e : (xs.length : Int) = 2 := hn; omega) hF hl
  · exact bounds2_c ia il ic pv xs w (by have e : (xs.length : Int) = 2 := hn; omega) hF hl
  · exact bounds3_c ia il ic pv xs w (by have e : (xs.length : Int) = 2 := hn; omega) hF hl
  · exact bounds4_c ia il ic pv xs w (by have e : (xs.length : Int) = 2 := hn; omega) hF hl
  · exact bounds5_c ia il ic pv xs w (by have e : (xs.length : Int) = 20 := hn; omega) hF hl
  · exact bounds6_c ia il ic pv xs w (by have e : (xs.length : Int) = 8 := hn; omega) hF hl
  · exact bounds7_c ia il ic pv xs w (by have e : (xs.length : Int) = 1 := hn; omega) hF hl
  · exact bounds8_c ia il ic pv xs w (by have e : (xs.length : Int) = 1 := hn; omega) hF hl
  · exact bounds9_c ia il ic pv xs w (by have e : (xs.length : Int) = 0 := hn; omega) hF hl
  · exact bounds10_c ia il ic pv xs w (by have e : (xs.length : Int) = 4 := hn; omega) hF hl
  · exact bounds11_c ia il ic pv xs w (by have e : (xs.length : Int) = 8 := hn; omega) hF hl
  · exact bounds12_c ia il ic pv xs w (by have e : (xs.length : Int) = 4 := hn; omega) hF hl
end Go.Proofs.YtmhfabekmgcjnaaDoor
