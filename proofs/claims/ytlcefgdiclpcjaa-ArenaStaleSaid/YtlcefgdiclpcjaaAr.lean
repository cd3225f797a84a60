/- Layer 22: the functions that only read arenas: what they answer. -/
import Derived.Test.YtlcefgdiclpcjaaRead
import Derived.Test.YtlcefgdiclpcjaaRows
import Derived.WalkKit
import Derived.WalkSpells
import Derived.WalkLawsBesides
import Derived.Deep.QuietTactic
import Derived.BigQuiet
namespace Go.Proofs.Ytlcefgdiclpcjaa
open Go.RowKit Go.Bx
set_option linter.unusedVariables false

/-! ### plain -/
def cntB (ls : List Bool) : Int := (ls.filter id).length
theorem cntB_snoc (ls : List Bool) (k : Nat) (h : k < ls.length) : cntB (ls.take (k + 1)) = cntB (ls.take k) + if ls.getD k false = true then 1 else 0 := by
  unfold cntB
  rw [List.take_succ_eq_append_getElem h, List.filter_append]
  have e : ls.getD k false = ls[k] := by simp [h]
  rw [e]
  cases hb : ls[k] <;> simp [List.filter_cons]
theorem cntB_bd (ls : List Bool) (k : Nat) : 0 ≤ cntB (ls.take k) ∧ cntB (ls.take k) ≤ k := by
  unfold cntB
  have h1 := List.length_filter_le id (ls.take k)
  have h2 : (ls.take k).length ≤ k := List.length_take_le _ _
  omega
theorem take_all {α : Type} (ls : List α) : ls.take ls.length = ls := List.take_length
/-- the first place that is free; the length: none -/
def freeAt (ls : List Bool) : Nat := (ls.takeWhile id).length
theorem freeAt_le (ls : List Bool) : freeAt ls ≤ ls.length := by unfold freeAt; exact (List.takeWhile_prefix _).length_le
theorem freeAt_of (ls : List Bool) (k : Nat) (hk : k ≤ ls.length) (h : ∀ j, j < k → ls.getD j false = true) (hf : k = ls.length ∨ ls.getD k false = false) : freeAt ls = k := by
  unfold freeAt
  induction ls generalizing k with
  | nil => simp at hk; simp [hk]
  | cons x ls ih =>
    cases k with
    | zero =>
      rcases hf with hf | hf
      · simp at hf
      · simp at hf; simp [hf]
    | succ k =>
      have hx : x = true := by simpa using h 0 (by omega)
      subst hx
      simp only [List.takeWhile_cons, id, if_true, List.length_cons]
      rw [ih k (by simpa using hk) (fun j hj => by simpa using h (j + 1) (by omega)) (by simpa using hf)]
theorem freeAt_lt (ls : List Bool) (h : freeAt ls < ls.length) : ls.getD (freeAt ls) false = false := by
  unfold freeAt at *
  induction ls with
  | nil => simp at h
  | cons x ls ih =>
    cases x
    · simp
    · simp only [List.takeWhile_cons, id, if_true, List.length_cons] at h ⊢
      have := ih (by omega)
      simpa using this
def idxV (ls : List Bool) : Int := if freeAt ls < ls.length then (freeAt ls : Int) else -1
def hasB (gs : List Int) (ls : List Bool) (at_ gen : Int) : Bool := decide (0 ≤ at_) && decide (at_ < gs.length) && ls.getD at_.toNat false && decide (gs.getD at_.toNat 0 = gen)
def rightA (gs : List Int) (ls : List Bool) : Bool := decide (gs.length = ls.length) && decide (1 ≤ gs.length) && decide (gs.length ≤ 1024) && decide (gs.getD 0 0 = 0) && ls.getD 0 false && gs.all (fun x => decide (0 ≤ x))
def calmB (gs : List Int) : Bool := gs.all (fun x => decide (x ≤ 1099511627776))
def MinOf (gs : List Int) (m : Int) : Prop := m ∈ gs ∧ ∀ x ∈ gs, m ≤ x
theorem all_take (p : Int → Bool) (gs : List Int) (k : Nat) (h : k < gs.length) : (gs.take (k + 1)).all p = ((gs.take k).all p && p (gs.getD k 0)) := by
  rw [List.take_succ_eq_append_getElem h, List.all_append]
  simp [h]


/-! ### counts -/
set_option maxHeartbeats 400000 in
theorem count_c {F : Nat → Prop} (gv lv : Value) (ls : List Bool) (w : World) (hl : SlOf RBool 1 F w lv ls) :
    Calls Try.prog 33 #[.agg #[gv, lv]] w (PPost w (.int .i64 (cntB ls))) := by
  obtain ⟨a, cap, rfl, hcap, hm, hcell⟩ := hl.bools
  unfold maxLen at hm
  go_enter Try.func33, Try.ntmps33
  go_wp2_with fail
  go_loop [3, 9] (fun n i => ∃ k : Nat, k ≤ ls.length ∧ i = .int .i64 k ∧ n = .int .i64 (cntB (ls.take k))) (fun _ i => ls.length - (intOf i).toNat)
  case atStart => exact ⟨0, by omega, rfl, by simp [cntB]⟩
  case round =>
    obtain ⟨k, hk, rfl, rfl⟩ := hrel
    have hbd := cntB_bd ls k
    by_cases hlt : k < ls.length
    · obtain ⟨b, o, rfl, hF, hc⟩ := hcell k hlt
      have hck := cell_alloc_lt (hc k hlt) (.cells #[gv, .slice (some ⟨b, o, none⟩) ls.length cap] 46)
      have hs : Hid _ := cntB_snoc ls k hlt
      obtain ⟨x, hx⟩ : ∃ x, x = ls.getD k false := ⟨_, rfl⟩
      rw [← hx] at hck
      have HX : Hid (x = ls.getD k false) := hx
      clear hx hc hcell hl
      cases x
      · go_wp2
        go_round
        case rel => exact ⟨k + 1, by omega, by go_num, by rw [hs.out, ← HX.out]; simp⟩
        case measure => simp [intOf]; omega
      · go_wp2
        go_round
        case rel => exact ⟨k + 1, by omega, by go_num, by rw [hs.out, ← HX.out]; go_num⟩
        case measure => simp [intOf]; omega
    · have : k = ls.length := by omega
      subst this
      clear hcell hl
      go_wp2
      go_ret
      exact ⟨ret_i (by first | rfl | rw [take_all]), (Below.refl _ _).alloc (Nat.le_refl _) _⟩

set_option maxHeartbeats 400000 in
theorem rcount_c {F : Nat → Prop} (gv lv : Value) (ls : List Bool) (w : World) (hl : SlOf RBool 1 F w lv ls) :
    Calls Try.prog 44 #[.agg #[gv, lv]] w (PPost w (.int .i64 (cntB ls))) := by
  obtain ⟨a, cap, rfl, hcap, hm, hcell⟩ := hl.bools
  unfold maxLen at hm
  go_enter Try.func44, Try.ntmps44
  go_wp2_with fail
  go_loop [3, 4] (fun n i => ∃ k : Nat, k ≤ ls.length ∧ i = .int .i64 k ∧ n = .int .i64 (cntB (ls.take k))) (fun _ i => ls.length - (intOf i).toNat)
  case atStart => exact ⟨0, by omega, rfl, by simp [cntB]⟩
  case round =>
    obtain ⟨k, hk, rfl, rfl⟩ := hrel
    have hbd := cntB_bd ls k
    by_cases hlt : k < ls.length
    · obtain ⟨b, o, rfl, hF, hc⟩ := hcell k hlt
      have hck := cell_alloc_lt (hc k hlt) (.cells #[gv, .slice (some ⟨b, o, none⟩) ls.length cap] 46)
      have hs : Hid _ := cntB_snoc ls k hlt
      obtain ⟨x, hx⟩ : ∃ x, x = ls.getD k false := ⟨_, rfl⟩
      rw [← hx] at hck
      have HX : Hid (x = ls.getD k false) := hx
      clear hx hc hcell hl
      cases x
      · go_wp2
        go_round
        case rel => exact ⟨k + 1, by omega, by go_num, by rw [hs.out, ← HX.out]; simp⟩
        case measure => simp [intOf]; omega
      · go_wp2
        go_round
        case rel => exact ⟨k + 1, by omega, by go_num, by rw [hs.out, ← HX.out]; go_num⟩
        case measure => simp [intOf]; omega
    · have : k = ls.length := by omega
      subst this
      clear hcell hl
      go_wp2
      go_ret
      exact ⟨ret_i (by first | rfl | rw [take_all]), (Below.refl _ _).alloc (Nat.le_refl _) _⟩

/-! ### slices.Index, slices.Min -/
set_option maxHeartbeats 400000 in
theorem index_c {F : Nat → Prop} (lv : Value) (ls : List Bool) (w : World) (hl : SlOf RBool 1 F w lv ls) :
    Calls Try.prog 54 #[lv, .bool false] w (SPost w (.int .i64 (idxV ls))) := by
  obtain ⟨a, cap, rfl, hcap, hm, hcell⟩ := hl.bools
  unfold maxLen at hm
  go_enter Try.func54, Try.ntmps54
  go_wp2_with fail
  go_loop [8] (fun i => ∃ k : Nat, k ≤ ls.length ∧ i = .int .i64 k ∧ Hid (∀ j, j < k → ls.getD j false = true)) (fun i => ls.length - (intOf i).toNat)
  case atStart => exact ⟨0, by omega, rfl, fun j hj => by omega⟩
  case round =>
    obtain ⟨k, hk, rfl, hall⟩ := hrel
    by_cases hlt : k < ls.length
    · obtain ⟨b, o, rfl, hF, hc⟩ := hcell k hlt
      have hck := hc k hlt
      obtain ⟨x, hx⟩ : ∃ x, x = ls.getD k false := ⟨_, rfl⟩
      rw [← hx] at hck
      have HX : Hid (x = ls.getD k false) := hx
      clear hx hc hcell hl
      cases x
      · go_wp2
        go_ret
        have e := freeAt_of ls k hk hall (.inr HX.out.symm)
        exact ⟨ret_i (by unfold idxV; rw [e, if_pos hlt]), rfl⟩
      · go_wp2
        go_round
        case rel =>
          refine ⟨k + 1, by omega, by go_num, fun j hj => ?_⟩
          by_cases hjk : j < k
          · exact hall j hjk
          · have : j = k := by omega
            subst this
            exact HX.out.symm
        case measure => simp [intOf]; omega
    · have : k = ls.length := by omega
      subst this
      clear hcell hl
      go_wp2
      go_ret
      have e := freeAt_of ls ls.length (Nat.le_refl _) hall (.inl rfl)
      exact ⟨ret_i (by unfold idxV; rw [e, if_neg (by omega)]), rfl⟩

def MPost (w : World) (gs : List Int) (e : Ending) (w' : World) : Prop := ∃ m, e = .returned (.int .i64 m) ∧ w = w' ∧ MinOf gs m
set_option maxHeartbeats 400000 in
theorem min_c {F : Nat → Prop} (gv : Value) (gs : List Int) (w : World) (hg : SlOf RInt 1 F w gv gs) (hpos : 0 < gs.length) :
    Calls Try.prog 55 #[gv] w (MPost w gs) := by
  obtain ⟨a, cap, rfl, hcap, hm, hin, hcell⟩ := hg.ints
  unfold maxLen at hm
  obtain ⟨b, o, rfl, hF, hc⟩ := hcell 0 hpos
  have hc0 := hc 0 hpos
  simp only [Nat.add_zero] at hc0
  have hp : (0 : Int) < (gs.length : Int) := by omega
  clear hcell
  go_enter Try.func55, Try.ntmps55
  go_wp2_with fail
  go_loop [3, 4] (fun m i => ∃ (k : Nat) (z : Int), 1 ≤ k ∧ k ≤ gs.length ∧ i = .int .i64 k ∧ m = .int .i64 z ∧ Hid (MinOf (gs.take k) z)) (fun _ i => gs.length - (intOf i).toNat)
  case atStart =>
    refine ⟨1, _, by omega, by omega, rfl, rfl, ?_⟩
    match gs, hpos with
    | x :: r, _ => exact ⟨by simp, by simp⟩
  case round =>
    obtain ⟨k, z, hk1, hk, rfl, rfl, hmin⟩ := hrel
    by_cases hlt : k < gs.length
    · have hck := hc k hlt
      obtain ⟨x, hx⟩ : ∃ x, x = gs.getD k 0 := ⟨_, rfl⟩
      rw [← hx] at hck
      have HT : Hid (gs.take (k + 1) = gs.take k ++ [x]) := by
        have e : gs.getD k 0 = gs[k] := by simp [hlt]
        show gs.take (k + 1) = gs.take k ++ [x]
        rw [hx, e, List.take_succ_eq_append_getElem hlt]
      clear hx hc hg hc0
      go_wp2
      go_round
      case rel =>
        refine ⟨k + 1, min z x, by omega, by omega, by go_num, by rw [show (if x < z then x else z) = min z x from by split <;> omega], ?_⟩
        obtain ⟨h1, h2⟩ := hmin.out
        show MinOf (gs.take (k + 1)) (min z x)
        rw [HT.out]
        refine ⟨?_, ?_⟩
        · rw [List.mem_append]
          by_cases hzx : z ≤ x
          · left; rw [show min z x = z from by omega]; exact h1
          · right; rw [show min z x = x from by omega]; simp
        · intro y hy
          rcases List.mem_append.1 hy with hy | hy
          · have := h2 y hy; omega
          · simp at hy; omega
      case measure => simp [intOf]; omega
    · have : k = gs.length := by omega
      subst this
      clear hc hg hc0
      go_wp2
      go_ret
      refine ⟨z, rfl, rfl, ?_⟩
      have := hmin.out
      rw [take_all] at this
      exact this
end Go.Proofs.Ytlcefgdiclpcjaa
