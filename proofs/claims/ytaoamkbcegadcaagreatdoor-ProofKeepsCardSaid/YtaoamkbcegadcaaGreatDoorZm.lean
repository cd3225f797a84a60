/- Texts joined: XZm. -/
import Derived.Test.YtaoamkbcegadcaaGreatDoorZl
import Derived.Maps.RangeWalk
set_option maxRecDepth 4000
/- Layer 20: rule 6 (peak): a map ranged over. -/
namespace Go.Proofs.YtaoamkbcegadcaaGreatDoor
open Go.RowKit Go.Bx Go.Od Go.Hp
attribute [local go_sem ↓] Go.wp_at_zero Go.wp_at_succ
set_option linter.unusedVariables false

/-! ### a map of one's own whose keys are all known -/
def MapD (w : World) (b nk c : Nat) (D : DataW Unit) (m : Nat → Option Nat) : Prop :=
  ∃ c' : Nat, c' ≤ c ∧ w.ownsMap Tryz.prog 3 (plainElem Tryz.prog 3) b c' D ∧ Go.Maps.IsMap D ∧ nk ≤ 1000000 ∧
    (∀ k : Nat, k < nk → D.atKey (.int .i64 k) (.lit (.int .i64 0)) = .lit (.int .i64 ((m k).getD 0 : Nat)) ∧ Go.Maps.has D (.int .i64 k) = (m k).isSome) ∧ ∀ kl, Go.Maps.has D kl = true → ∃ k : Nat, k < nk ∧ kl = .int .i64 k
variable {w w' : World} {b n c : Nat} {D : DataW Unit} {m : Nat → Option Nat}
theorem MapD.kept {row : Option Nat} (h : MapD w b n c D m) (hg : w.grownBy w' row) (hne : some b ≠ row) : MapD w' b n c D m := by
  obtain ⟨c', h0, h1, h2⟩ := h
  exact ⟨c', h0, h1.kept hg hne, h2⟩
theorem grown_below {w w' : World} (h : Below w.heap.size w w') : w.grownBy w' none := ⟨h.os, h.tape, h.output, h.size, fun k hk _ => h.block k hk⟩
theorem MapD.call (h : MapD w b n c D m) (hb : Below w.heap.size w w') : MapD w' b n c D m := h.kept (grown_below hb) (by simp)
theorem MapD.made (w : World) (n : Nat) (hn : n ≤ 1000000) : MapD (w.alloc (.map #[] 0)) w.heap.size n 0 (.map []) (fun _ => none) :=
  ⟨0, Nat.le_refl _, World.ownsMap_made w _ _ _, Go.Maps.isMap_empty, hn, (fun k _ => ⟨by simp [DataW.atKey], by simp [Go.Maps.has]⟩), fun kl h => by simp [Go.Maps.has] at h⟩
theorem MapD.lt (h : MapD w b n c D m) : b < w.heap.size := by
  obtain ⟨c', _, h1, _⟩ := h
  exact h1.lt
theorem MapD.put (h : MapD w b n c D m) {k v : Nat} (hk : k < n) (hv : v < 1000000) (hs : c ≤ 100000) : ∃ w', (Instr.mapUpdate 54 (.map (some b)) (.int .i64 k) (.int .i64 v)).run Tryz.prog w = .ok () w' ∧ MapD w' b n (c + 1) (D.put (.int .i64 k) (.lit (.int .i64 v))) (fun r => if r = k then some v else m r) ∧ w.grownBy w' (some b) := by
  obtain ⟨c', h0, h1, h2, h3, h4, h5⟩ := h
  obtain ⟨w', hrun, r1, r2⟩ := h1.update keyInt Tryz.underlying54 (by unfold maxLen; omega) (Maps.keyOf_int_mk Tryz.underlying3 (wfN (k := k) (by omega))) (plainElem_int Tryz.underlying3 (wfN (k := v) (by omega)))
  refine ⟨w', hrun, ⟨c' + 1, by omega, r1, h2.put _ _, h3, fun j hj => ?_, fun kl hkl => ?_⟩, r2⟩
  · by_cases e : j = k
    · subst e
      rw [Go.Maps.atKey_put_same h2 (by trivial), Go.Maps.has_put_same h2 (by trivial)]
      simp
    · rw [Go.Maps.atKey_put_other (by simp; omega), (h4 j hj).1, Go.Maps.has_put_other (by simp; omega), (h4 j hj).2]
      simp [e]
  · by_cases e : kl = .int .i64 k
    · exact ⟨k, hk, e⟩
    · rw [Go.Maps.has_put_other e] at hkl
      exact h5 kl hkl
/-- an entry that comes out of the range -/
theorem MapD.entry (h : MapD w b n c D m) {x v : Int} (hl : Go.Maps.has D (.int .i64 x) = true) (hat : ∀ zd, D.atKey (.int .i64 x) zd = .lit (.int .i64 v)) : ∃ k : Nat, k < n ∧ x = k ∧ ∃ i : Nat, m k = some i ∧ v = i := by
  obtain ⟨c', h0, h1, h2, h3, h4, h5⟩ := h
  obtain ⟨k, hk, e⟩ := h5 _ hl
  simp only [Lit.int.injEq, true_and] at e
  subst e
  obtain ⟨e1, e2⟩ := h4 k hk
  rw [hat] at e1
  rw [hl] at e2
  simp only [DataW.lit.injEq, Lit.int.injEq, true_and] at e1
  cases hm : m k with
  | none => rw [hm] at e2; cases e2
  | some i => exact ⟨k, hk, rfl, i, hm ▸ rfl, by rw [e1, hm]; rfl⟩
theorem MapD.has (h : MapD w b n c D m) {k : Nat} (hk : k < n) : Go.Maps.has D (.int .i64 k) = (m k).isSome := by
  obtain ⟨c', h0, h1, h2, h3, h4, h5⟩ := h
  exact (h4 k hk).2
/-! ### sums -/
theorem sum_congr {f g : Nat → Int} {N : Nat} (h : ∀ r, r < N → g r = f r) : sumI ((List.range N).map g) = sumI ((List.range N).map f) := by
  induction N with
  | zero => rfl
  | succ N ih =>
    rw [List.range_succ, List.map_append, List.map_append, sumI_app, sumI_app, ih fun r hr => h r (by omega)]
    simp [sumI, h N (by omega)]
theorem sum_upd {f g : Nat → Int} {x : Nat} : ∀ {N : Nat}, x < N → (∀ r, r < N → r ≠ x → g r = f r) → sumI ((List.range N).map g) = sumI ((List.range N).map f) + (g x - f x)
  | N + 1, hx, h => by
    rw [List.range_succ, List.map_append, List.map_append, sumI_app, sumI_app]
    by_cases e : x = N
    · rw [sum_congr fun r hr => h r (by omega) (by omega), e]
      simp [sumI]; omega
    · rw [sum_upd (N := N) (by omega) fun r hr => h r (by omega)]
      have := h N (by omega) (fun e' => e e'.symm)
      simp [sumI, this]; omega
theorem sum_zero {f : Nat → Int} {N : Nat} (h : ∀ r, r < N → f r = 0) : sumI ((List.range N).map f) = 0 := by
  rw [sum_congr (f := fun _ => 0) h]
  induction N with
  | zero => rfl
  | succ N ih =>
    rw [List.range_succ, List.map_append, sumI_app, ih fun r hr => h r (by omega)]
    simp [sumI]
theorem sum_bd {f : Nat → Int} {X : Int} {N : Nat} (h : ∀ r, r < N → 0 ≤ f r ∧ f r ≤ X) : 0 ≤ sumI ((List.range N).map f) ∧ sumI ((List.range N).map f) ≤ N * X := by
  induction N with
  | zero => simp [sumI]
  | succ N ih =>
    rw [List.range_succ, List.map_append, sumI_app]
    have h1 := ih fun r hr => h r (by omega)
    have h2 := h N (by omega)
    simp only [List.map_cons, List.map_nil, sumI]
    generalize sumI ((List.range N).map f) = S at h1 ⊢
    generalize f N = F at h2 ⊢
    have e : ((N + 1 : Nat) : Int) * X = N * X + X := by rw [Int.natCast_add, Int.add_mul]; simp
    rw [e]
    omega
/-! ### whose a slot is -/
theorem owK_lt {ps : List Ps} {r i : Nat} : ∀ {k : Nat}, owK ps k r = some i → i < k
  | k + 1, h => by
    unfold owK at h
    split at h
    · cases h; omega
    · have := owK_lt h; omega
/-- what slot r counts at pass k -/
def slF (al : Bool) (ps : List Ps) (k r : Nat) : Int := match owK ps (k + 1) r with | some i => cnt al ps k i | none => 0
theorem slF_bd (al : Bool) (ps : List Ps) (k r : Nat) : 0 ≤ slF al ps k r ∧ slF al ps k r ≤ 1099511627776 := by
  unfold slF
  split
  · unfold cnt
    split
    · exact sz_bd _
    · omega
  · omega
/-- what has been counted while some are left -/
def leftS (al : Bool) (ps : List Ps) (N k : Nat) (left : Lit → Bool) : Int := sumI ((List.range N).map fun r : Nat => if left (.int .i64 r) = true then 0 else slF al ps k r)
theorem leftS_bd (al : Bool) (ps : List Ps) {N : Nat} (k : Nat) (left : Lit → Bool) (hN : N ≤ 1000) : 0 ≤ leftS al ps N k left ∧ leftS al ps N k left ≤ 1099511627776000 := by
  have h := sum_bd (N := N) (X := 1099511627776) (f := fun r : Nat => if left (.int .i64 r) = true then 0 else slF al ps k r) fun r _ => by
    have := slF_bd al ps k r
    show 0 ≤ (if left (.int .i64 r) = true then (0 : Int) else slF al ps k r) ∧ (if left (.int .i64 r) = true then (0 : Int) else slF al ps k r) ≤ 1099511627776
    split <;> omega
  unfold leftS
  omega
theorem leftS_end {al : Bool} {ps : List Ps} {N k : Nat} {left : Lit → Bool} (h : ∀ kl, left kl = false) : leftS al ps N k left = useK al ps N k := by
  unfold leftS useK
  refine sum_congr fun r _ => ?_
  rw [h]
  rfl
theorem leftS_start {al : Bool} {ps : List Ps} {N k : Nat} {left : Lit → Bool} (h : ∀ r, r < N → left (.int .i64 r) = (owK ps (k + 1) r).isSome) : leftS al ps N k left = 0 := by
  refine sum_zero fun r hr => ?_
  rw [h r hr]
  unfold slF
  cases owK ps (k + 1) r <;> simp
theorem leftS_step {al : Bool} {ps : List Ps} {N k : Nat} {left : Lit → Bool} {x i : Nat} (hx : x < N) (hl : left (.int .i64 x) = true) (ho : owK ps (k + 1) x = some i) :
    leftS al ps N k (fun z => left z && !z.sameKey (.int .i64 x)) = leftS al ps N k left + cnt al ps k i := by
  unfold leftS
  rw [sum_upd (x := x) (f := fun r : Nat => if left (.int .i64 r) = true then 0 else slF al ps k r) hx fun r _ hne => ?_]
  · have e1 : slF al ps k x = cnt al ps k i := by unfold slF; rw [ho]
    have e2 : (Lit.int .i64 (x : Nat)).sameKey (.int .i64 (x : Nat)) = true := WideAt.sameKey_self (by trivial)
    simp only [hl, e1, e2]
    simp
  · have e3 : (Lit.int .i64 (r : Nat)).sameKey (.int .i64 (x : Nat)) = false := Go.Maps.sameKey_ne (by simp; omega)
    simp only [e3]
    simp
theorem mostK_bd (al : Bool) (ps : List Ps) {N : Nat} (hN : N ≤ 1000) : ∀ k, 0 ≤ mostK al ps N k ∧ mostK al ps N k ≤ 1099511627776000
  | 0 => by unfold mostK; omega
  | k + 1 => by
    have h1 := mostK_bd al ps hN k
    have h2 := leftS_bd al ps k (fun _ => false) hN
    rw [leftS_end fun _ => rfl] at h2
    unfold mostK
    omega
end Go.Proofs.YtaoamkbcegadcaaGreatDoor
