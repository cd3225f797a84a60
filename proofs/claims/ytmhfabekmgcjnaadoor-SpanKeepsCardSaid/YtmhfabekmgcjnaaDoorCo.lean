/- Layer 12: the document's One, Check. -/
import Derived.Test.YtmhfabekmgcjnaaDoorCm
import Derived.Test.YtmhfabekmgcjnaaDoorRr
namespace Go.Proofs.YtmhfabekmgcjnaaDoor
open Go.RowKit Go.Bx Go.Od Go.Hp
attribute [local go_sem ↓] Go.wp_at_zero Go.wp_at_succ
set_option linter.unusedVariables false

def oneB (nd : Nd) (count : Nat) : Int :=
  if nd.op < 1 ∨ 12 < nd.op then 1
  else if (nd.ins.length : Int) < leastL.getD nd.op.toNat 0 ∨ mostL.getD nd.op.toNat 0 < (nd.ins.length : Int) ∨ ((nd.p.length : Int) == parL.getD nd.op.toNat 0) = false then 7
  else if nearB nd.ins 0 nd.ins.length (-1) ((count : Int) - 1) = false then 8
  else if bndB nd.op nd.p = false then 3 else 0
set_option maxHeartbeats 3200000 in
theorem one_c {F : Nat → Prop} (op : Int) (iv pv : Value) (ins p : List Int) (count : Nat) (w : World) (hcount : count ≤ 1000) (ht : Tabs w) (hF : ∀ b, F b → b < w.heap.size) (hi : SlOf RInt 1 F w iv ins) (hp : SlOf RInt 1 F w pv p) :
    Calls Tryd.prog 25 #[.agg #[.int .i64 op, iv, pv], .int .i64 count] w (PPost w (.int .i64 (oneB ⟨op, ins, p⟩ count))) := by
  have HL : Hid (∀ W, Below w.heap.size w W → SlOf RInt 1 F W iv ins ∧ SlOf RInt 1 F W pv p ∧ ∀ b, F b → b < W.heap.size) := fun W hb => ⟨hi.same RInt.ok (Same.of_below hb hF), hp.same RInt.ok (Same.of_below hb hF), fun b hb' => Nat.lt_of_lt_of_le (hF b hb') hb.size⟩
  have hil := hi.len_le
  have hpl := hp.len_le
  obtain ⟨ia, ic, rfl, hi1, hi2, _, _⟩ := hi.ints
  obtain ⟨pa, pc, rfl, hp1, hp2, _, _⟩ := hp.ints
  have X := Box.new w [.int .i64 op, .slice ia ins.length ic, .slice pa p.length pc] 36
  have B1 : Below w.heap.size w (w.alloc (.cells #[.int .i64 op, .slice ia ins.length ic, .slice pa p.length pc] 36)) := below_alloc _ _
  obtain ⟨W1, hW1⟩ : ∃ W, W = w.alloc (.cells #[.int .i64 op, .slice ia ins.length ic, .slice pa p.length pc] 36) := ⟨_, rfl⟩
  rw [← hW1] at X B1
  have b11 : Below W1.heap.size W1 W1 := Below.refl _ _
  have HX : Hid (Box W1 w.heap.size [.int .i64 op, .slice ia ins.length ic, .slice pa p.length pc] ∧ Below w.heap.size w W1) := ⟨X, B1⟩
  have HS : Hid (∀ W, Below W1.heap.size W1 W → Below w.heap.size w W) := fun W hb => B1.trans (hb.mono B1.size)
  have HA : Hid (∀ W, Below W1.heap.size W1 W → Calls Tryd.prog 31 #[.int .i64 op] W fun e w' => e = .returned (.tuple (arity op)) ∧ Below W1.heap.size W1 w') := fun W hb => up hb (arity_c op W (ht.below (HS.out W hb))) (Nat.le_refl _)
  have x0 := X.cell 0 rfl
  have x1 := X.cell 1 rfl
  have x2 := X.cell 2 rfl
  clear X B1 hi hp ht
  unfold maxLen at hi2 hp2
  by_cases hop : op < 1 ∨ 12 < op
  · have HE : Hid (oneB ⟨op, ins, p⟩ count = 1) := if_pos hop
    have ha : arity op = #[.int .i64 0, .int .i64 0, .int .i64 0, .bool false] := if_pos hop
    rw [ha] at HA
    clear ha hop HL
    go_enter Tryd.func25, Tryd.ntmps25
    go_wp2_with fail
    rw [← hW1]
    clear hW1
    go_wp2_with (first
      | (go_at_call 31; with_reducible refine (HA.out _ (by assumption)).mono ?_; rintro e w5 ⟨rfl, b5⟩; have y0 := (HX.out.1.call b5).cell 0 rfl; have y1 := (HX.out.1.call b5).cell 1 rfl; have y2 := (HX.out.1.call b5).cell 2 rfl))
    go_ret
    exact ⟨ret_i HE.out.symm, HS.out _ (by assumption)⟩
  have h1 : 1 ≤ op := by omega
  have h2 : op ≤ 12 := by omega
  have ha : arity op = #[.int .i64 (leastL.getD op.toNat 0), .int .i64 (mostL.getD op.toNat 0), .int .i64 (parL.getD op.toNat 0), .bool true] := if_neg hop
  rw [ha] at HA
  have HB : Hid (∀ W, Below W1.heap.size W1 W → (p.length : Int) = parL.getD op.toNat 0 → Calls Tryd.prog 33 #[.agg #[.int .i64 op, .slice ia ins.length ic, .slice pa p.length pc]] W fun e w' => e = .returned (.bool (bndB op p)) ∧ Below W1.heap.size W1 w') := fun W hb hpar =>
    up hb (bounds_c (F := F) op ia ins.length ic _ p W h1 h2 hpar (HL.out W (HS.out W hb)).2.2 (HL.out W (HS.out W hb)).2.1) (Nat.le_refl _)
  have HN : Hid (∀ W, Below W1.heap.size W1 W → Calls Tryd.prog 32 #[.slice ia ins.length ic, .int .i64 0, .int .i64 ins.length, .int .i64 (-1), .int .i64 ((count : Int) - 1)] W fun e w' => e = .returned (.bool (nearB ins 0 ins.length (-1) ((count : Int) - 1))) ∧ Below W1.heap.size W1 w') := fun W hb =>
    up hb (near_c (F := F) _ ins 0 ins.length (-1) ((count : Int) - 1) W (Nat.zero_le _) (Nat.le_refl _) (HL.out W (HS.out W hb)).1) (Nat.le_refl _)
  have e0 : oneB ⟨op, ins, p⟩ count = if (ins.length : Int) < leastL.getD op.toNat 0 ∨ mostL.getD op.toNat 0 < (ins.length : Int) ∨ ((p.length : Int) == parL.getD op.toNat 0) = false then 7
      else if nearB ins 0 ins.length (-1) ((count : Int) - 1) = false then 8 else if bndB op p = false then 3 else 0 := if_neg hop
  have HE0 : Hid (oneB ⟨op, ins, p⟩ count = if (ins.length : Int) < leastL.getD op.toNat 0 ∨ mostL.getD op.toNat 0 < (ins.length : Int) ∨ ((p.length : Int) == parL.getD op.toNat 0) = false then 7
      else if nearB ins 0 ins.length (-1) ((count : Int) - 1) = false then 8 else if bndB op p = false then 3 else 0) := e0
  clear e0 ha hop HL h1 h2
  generalize leastL.getD op.toNat 0 = l at *
  generalize mostL.getD op.toNat 0 = m at *
  generalize parL.getD op.toNat 0 = pp at *
  generalize nearB ins 0 ins.length (-1) ((count : Int) - 1) = q at *
  generalize bndB op p = r at *
  have hc0 : (0 : Int) ≤ (count : Int) := by omega
  by_cases c1 : (ins.length : Int) < l
  · have HE : Hid (oneB ⟨op, ins, p⟩ count = 7) := by have h := HE0.out; rw [if_pos (.inl c1)] at h; exact h
    clear HE0
    go_enter Tryd.func25, Tryd.ntmps25
    go_wp2_with fail
    rw [← hW1]
    clear hW1
    go_wp2_with (first
      | (go_at_call 31; with_reducible refine (HA.out _ (by assumption)).mono ?_; rintro e w5 ⟨rfl, b5⟩; have y0 := (HX.out.1.call b5).cell 0 rfl; have y1 := (HX.out.1.call b5).cell 1 rfl; have y2 := (HX.out.1.call b5).cell 2 rfl))
    go_ret
    exact ⟨ret_i HE.out.symm, HS.out _ (by assumption)⟩
  by_cases c2 : m < (ins.length : Int)
  · have HE : Hid (oneB ⟨op, ins, p⟩ count = 7) := by have h := HE0.out; rw [if_pos (.inr (.inl c2))] at h; exact h
    clear HE0
    go_enter Tryd.func25, Tryd.ntmps25
    go_wp2_with fail
    rw [← hW1]
    clear hW1
    go_wp2_with (first
      | (go_at_call 31; with_reducible refine (HA.out _ (by assumption)).mono ?_; rintro e w5 ⟨rfl, b5⟩; have y0 := (HX.out.1.call b5).cell 0 rfl; have y1 := (HX.out.1.call b5).cell 1 rfl; have y2 := (HX.out.1.call b5).cell 2 rfl))
    go_ret
    exact ⟨ret_i HE.out.symm, HS.out _ (by assumption)⟩
  have c2' : ¬ m < (ins.length : Int) := c2
  cases c3 : ((p.length : Int) == pp) with
  | false =>
    have HE : Hid (oneB ⟨op, ins, p⟩ count = 7) := by have h := HE0.out; rw [if_pos (.inr (.inr c3))] at h; exact h
    have c4 : ((p.length : Int) != pp) = true := by simp [bne, c3]
    clear HE0 c3
    go_enter Tryd.func25, Tryd.ntmps25
    go_wp2_with fail
    rw [← hW1]
    clear hW1
    go_wp2_with (first
      | (go_at_call 31; with_reducible refine (HA.out _ (by assumption)).mono ?_; rintro e w5 ⟨rfl, b5⟩; have y0 := (HX.out.1.call b5).cell 0 rfl; have y1 := (HX.out.1.call b5).cell 1 rfl; have y2 := (HX.out.1.call b5).cell 2 rfl))
    go_ret
    exact ⟨ret_i HE.out.symm, HS.out _ (by assumption)⟩
  | true =>
    have HP : Hid ((p.length : Int) = pp) := eq_of_beq c3
    have HE1 : Hid (oneB ⟨op, ins, p⟩ count = if q = false then 8 else if r = false then 3 else 0) := by
      have h := HE0.out
      rw [if_neg (by rintro (h | h | h); exact c1 h; exact c2 h; rw [c3] at h; cases h)] at h
      exact h
    have c4 : ((p.length : Int) != pp) = false := by simp [bne, c3]
    clear HE0 c3
    cases q with
    | false =>
      have HE : Hid (oneB ⟨op, ins, p⟩ count = 8) := HE1.out
      clear HE1
      go_enter Tryd.func25, Tryd.ntmps25
      go_wp2_with fail
      rw [← hW1]
      clear hW1
      go_wp2_with (first
        | (go_at_call 31; with_reducible refine (HA.out _ (by assumption)).mono ?_; rintro e w5 ⟨rfl, b5⟩; have y0 := (HX.out.1.call b5).cell 0 rfl; have y1 := (HX.out.1.call b5).cell 1 rfl; have y2 := (HX.out.1.call b5).cell 2 rfl)
        | (go_at_call 32; with_reducible refine (HN.out _ (by assumption)).mono ?_; rintro e w6 ⟨rfl, b6⟩; have z0 := (HX.out.1.call b6).cell 0 rfl; have z1 := (HX.out.1.call b6).cell 1 rfl; have z2 := (HX.out.1.call b6).cell 2 rfl))
      go_ret
      exact ⟨ret_i HE.out.symm, HS.out _ (by assumption)⟩
    | true =>
      cases r with
      | false =>
        have HE : Hid (oneB ⟨op, ins, p⟩ count = 3) := HE1.out
        clear HE1
        go_enter Tryd.func25, Tryd.ntmps25
        go_wp2_with fail
        rw [← hW1]
        clear hW1
        go_wp2_with (first
          | (go_at_call 31; with_reducible refine (HA.out _ (by assumption)).mono ?_; rintro e w5 ⟨rfl, b5⟩; have y0 := (HX.out.1.call b5).cell 0 rfl; have y1 := (HX.out.1.call b5).cell 1 rfl; have y2 := (HX.out.1.call b5).cell 2 rfl)
          | (go_at_call 32; with_reducible refine (HN.out _ (by assumption)).mono ?_; rintro e w6 ⟨rfl, b6⟩; have z0 := (HX.out.1.call b6).cell 0 rfl; have z1 := (HX.out.1.call b6).cell 1 rfl; have z2 := (HX.out.1.call b6).cell 2 rfl)
          | (go_at_call 33; with_reducible refine (HB.out _ (by assumption) HP.out).mono ?_; rintro e w7 ⟨rfl, b7⟩))
        go_ret
        exact ⟨ret_i HE.out.symm, HS.out _ (by assumption)⟩
      | true =>
        have HE : Hid (oneB ⟨op, ins, p⟩ count = 0) := HE1.out
        clear HE1
        go_enter Tryd.func25, Tryd.ntmps25
        go_wp2_with fail
        rw [← hW1]
        clear hW1
        go_wp2_with (first
          | (go_at_call 31; with_reducible refine (HA.out _ (by assumption)).mono ?_; rintro e w5 ⟨rfl, b5⟩; have y0 := (HX.out.1.call b5).cell 0 rfl; have y1 := (HX.out.1.call b5).cell 1 rfl; have y2 := (HX.out.1.call b5).cell 2 rfl)
          | (go_at_call 32; with_reducible refine (HN.out _ (by assumption)).mono ?_; rintro e w6 ⟨rfl, b6⟩; have z0 := (HX.out.1.call b6).cell 0 rfl; have z1 := (HX.out.1.call b6).cell 1 rfl; have z2 := (HX.out.1.call b6).cell 2 rfl)
          | (go_at_call 33; with_reducible refine (HB.out _ (by assumption) HP.out).mono ?_; rintro e w7 ⟨rfl, b7⟩))
        go_ret
        exact ⟨ret_i HE.out.symm, HS.out _ (by assumption)⟩
end Go.Proofs.YtmhfabekmgcjnaaDoor
