/- Layer 16: which kinds go point by point; a node's only user. -/
import Derived.Test.YtijkcpkljmpplaaDoorGa
namespace Go.Proofs.YtijkcpkljmpplaaDoor
open Go.RowKit Go.Bx Go.Od Go.Hp
attribute [local go_sem ↓] Go.wp_at_zero Go.wp_at_succ
set_option linter.unusedVariables false

def byPt (op : Int) : Bool := decide ((5 ≤ op ∧ op ≤ 9) ∨ op = 12)
set_option maxHeartbeats 1600000 in
theorem bypoint_c (op : Int) (w : World) : Calls Tryd.prog 33 #[.int .i64 op] w fun e w' => e = .returned (.bool (byPt op)) ∧ w' = w := by
  by_cases h : op = 5 ∨ op = 6 ∨ op = 7 ∨ op = 8 ∨ op = 9 ∨ op = 12
  · rcases h with rfl | rfl | rfl | rfl | rfl | rfl
    all_goals
      go_enter Tryd.func33, Tryd.ntmps33
      go_wp2_with fail
      go_ret
      exact ⟨rfl, rfl⟩
  · have e1 : (op == 5) = false := beq_eq_false_iff_ne.2 (by omega)
    have e2 : (op == 6) = false := beq_eq_false_iff_ne.2 (by omega)
    have e3 : (op == 7) = false := beq_eq_false_iff_ne.2 (by omega)
    have e4 : (op == 8) = false := beq_eq_false_iff_ne.2 (by omega)
    have e5 : (op == 9) = false := beq_eq_false_iff_ne.2 (by omega)
    have e6 : (op == 12) = false := beq_eq_false_iff_ne.2 (by omega)
    have HE : Hid (byPt op = false) := decide_eq_false (by omega)
    clear h
    go_enter Tryd.func33, Tryd.ntmps33
    go_wp2_with fail
    go_ret
    exact ⟨ret_b HE.out.symm, rfl⟩
set_option maxHeartbeats 1600000 in
theorem rbypoint_c (op : Int) (w : World) : Calls Tryd.prog 13 #[.int .i64 op] w fun e w' => e = .returned (.bool (byPt op)) ∧ w' = w := by
  by_cases h1 : op = 12
  · subst h1
    go_enter Tryd.func13, Tryd.ntmps13
    go_wp2_with fail
    go_ret
    exact ⟨rfl, rfl⟩
  · have e6 : (op == 12) = false := beq_eq_false_iff_ne.2 h1
    by_cases h2 : 5 ≤ op
    · by_cases h3 : op ≤ 9
      · have HE : Hid (byPt op = true) := decide_eq_true (by omega)
        clear h1
        go_enter Tryd.func13, Tryd.ntmps13
        go_wp2_with fail
        go_ret
        exact ⟨ret_b HE.out.symm, rfl⟩
      · have HE : Hid (byPt op = false) := decide_eq_false (by omega)
        have h3' : decide (op ≤ 9) = false := decide_eq_false h3
        clear h1
        go_enter Tryd.func13, Tryd.ntmps13
        go_wp2_with fail
        go_ret
        exact ⟨ret_b HE.out.symm, rfl⟩
    · have HE : Hid (byPt op = false) := decide_eq_false (by omega)
      have h3' : decide (5 ≤ op) = false := decide_eq_false h2
      clear h1
      go_enter Tryd.func13, Tryd.ntmps13
      go_wp2_with fail
      go_ret
      exact ⟨ret_b HE.out.symm, rfl⟩
/-- the last of a list, and how many -/
def lastN (l : List Nat) : Nat := l.getLastD 0
theorem lastN_snoc (l : List Nat) (x : Nat) : lastN (l ++ [x]) = x := by simp [lastN]
theorem take_filter {l : List Nat} {j x : Nat} (S : Nat → Bool) (h : l[j]? = some x) : (l.take (j + 1)).filter S = if S x then (l.take j).filter S ++ [x] else (l.take j).filter S := by
  rw [take_more h, List.filter_append]
  cases e : S x <;> simp [e]
set_option maxHeartbeats 1600000 in
theorem user_c (B U O k n : Nat) (vs : List Value) (l : List Nat) (S : Nat → Bool) (w : World) (hn : n ≤ 1000) (hk : k < n) (hvs : vs.length = n) (hU : Box w U vs) (ho : OwnP w B (vs.getD k undef) (ofN l)) (hO : Box w O (bc n S)) (hl : ∀ u ∈ l, u < n) (hll : l.length ≤ 1000) :
    Calls Tryd.prog 32 #[.slice (some ⟨U, 0, none⟩) n n, .slice (some ⟨O, 0, none⟩) n n, .int .i64 k] w fun e w' => e = .returned (.tuple #[.int .i64 (lastN (l.filter S)), .bool (((l.filter S).length : Int) == 1)]) ∧ w' = w := by
  obtain ⟨a, c, hv⟩ := own_sl ho
  have u0 := hU.cell k (show vs[k]? = some (.slice a l.length c) by rw [← hv]; simp [hvs, hk])
  have HO : Hid (Box w O (bc n S)) := hO
  have HF : Hid (∀ j, j < l.length → ∃ g, a = some ⟨g, 0, none⟩ ∧ w.cell? ⟨g, j, none⟩ = some (.int .i64 (l.getD j 0)) ∧ l.getD j 0 < n ∧ l[j]? = some (l.getD j 0)) := fun j hj => by
    rw [hv] at ho
    have hg : l[j]? = some (l.getD j 0) := by simp [hj]
    rcases ho.form with ⟨h1, h2⟩ | ⟨g, cap, h1, _, _, _, _, _, _, h3⟩
    · have : l.length = 0 := by rw [← ofN_len, h2]; rfl
      omega
    · simp only [Value.slice.injEq] at h1
      have e := h3 j (by rw [ofN_len]; exact hj)
      refine ⟨g, h1.1, ?_, hl _ (List.mem_of_getElem? hg), hg⟩
      rw [e]
      simp [ofN, hj]
  have hk0 : (0 : Int) ≤ (k : Int) := by omega
  have hk1 : (k : Int) < (n : Int) := by omega
  clear hvs hU ho hO hl hv
  go_enter Tryd.func32, Tryd.ntmps32
  go_wp2_with fail
  go_loop [8, 9, 17] (fun ov nv jv => ∃ (j o m : Nat), j ≤ l.length ∧ jv = .int .i64 j ∧ ov = .int .i64 o ∧ nv = .int .i64 m ∧ m ≤ j ∧ Hid (o = lastN ((l.take j).filter S) ∧ m = ((l.take j).filter S).length)) (fun _ _ jv => l.length - (intOf jv).toNat)
  case atStart => exact ⟨0, 0, 0, Nat.zero_le _, rfl, rfl, rfl, Nat.le_refl _, ⟨rfl, rfl⟩⟩
  case round =>
    obtain ⟨j, o, m, hj, rfl, rfl, rfl, hmj, hom⟩ := hrel
    by_cases hjl : j < l.length
    · obtain ⟨g, rfl, hc, hu, hg⟩ := HF.out j hjl
      obtain ⟨u, hue⟩ : ∃ u, u = l.getD j 0 := ⟨_, rfl⟩
      rw [← hue] at hc hu hg
      have HG : Hid (l[j]? = some u) := hg
      have hb := HO.out.cell u (bc_get S hu)
      obtain ⟨s, hs⟩ : ∃ s, s = S u := ⟨_, rfl⟩
      rw [← hs] at hb
      have HS : Hid (s = S u) := hs
      have hu0 : (0 : Int) ≤ (u : Int) := by omega
      have hu1 : (u : Int) < (n : Int) := by omega
      have hj0 : (0 : Int) ≤ (j : Int) := by omega
      have hj1 : (j : Int) < (l.length : Int) := by omega
      clear hue hs hg
      cases s with
      | false =>
        have HN : Hid (o = lastN ((l.take (j + 1)).filter S) ∧ m = ((l.take (j + 1)).filter S).length) := by
          rw [take_filter S HG.out, ← HS.out]
          exact hom.out
        go_wp2_with fail
        go_round
        case rel => exact ⟨j + 1, o, m, by omega, by go_num, rfl, rfl, by omega, HN⟩
        case measure => simp [intOf]; omega
      | true =>
        have HN : Hid (u = lastN ((l.take (j + 1)).filter S) ∧ m + 1 = ((l.take (j + 1)).filter S).length) := by
          rw [take_filter S HG.out, ← HS.out, if_pos rfl, lastN_snoc, List.length_append, ← hom.out.2]
          exact ⟨rfl, rfl⟩
        go_wp2_with fail
        go_round
        case rel => exact ⟨j + 1, u, m + 1, by omega, by go_num, rfl, by go_num, by omega, HN⟩
        case measure => simp [intOf]; omega
    · have ej : j = l.length := by omega
      obtain ⟨q, hq⟩ : ∃ q, q = ((m : Int) == 1) := ⟨_, rfl⟩
      have HE : Hid (lastN (l.filter S) = o ∧ (((l.filter S).length : Int) == 1) = q) := by
        have h := hom.out
        rw [ej, List.take_length] at h
        exact ⟨h.1.symm, by rw [hq, h.2]⟩
      have hq' : ((m : Int) == 1) = q := hq.symm
      clear hq
      subst ej
      go_wp2_with fail
      go_ret2
      exact ⟨by rw [HE.out.1, HE.out.2]; rfl, rfl⟩
end Go.Proofs.YtijkcpkljmpplaaDoor
