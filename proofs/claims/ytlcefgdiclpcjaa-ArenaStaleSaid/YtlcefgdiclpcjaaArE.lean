/- Layer 22: copies; New; what rows of one's own are. -/
import Derived.Test.YtlcefgdiclpcjaaArD
import Derived.Deep.RegionWith
import Derived.Deep.DrawnRows
import Derived.Deep.AppendLies
import Derived.Laws.OwnMore
import Derived.Deep.Onto
import Derived.Lib.Walk
import Derived.Lib.SliceRun
namespace Go.Proofs.Ytlcefgdiclpcjaa
open Go.RowKit Go.Bx
attribute [local go_sem ↓] Go.wp_at_zero Go.wp_at_succ
set_option linter.unusedVariables false

def OwnI (w : World) (B : Nat) (v : Value) (gs : List Int) : Prop := w.ownsRow B 3 1 v gs.length (gs.map (Value.int .i64))
def OwnB (w : World) (B : Nat) (v : Value) (ls : List Bool) : Prop := w.ownsRow B 4 1 v ls.length (ls.map Value.bool)
theorem OwnI.below {w w' : World} {B : Nat} {v : Value} {gs : List Int} (h : OwnI w B v gs) (hb : Below w.heap.size w w') : OwnI w' B v gs := owns_below h hb (Nat.le_refl _)
theorem OwnB.below {w w' : World} {B : Nat} {v : Value} {gs : List Bool} (h : OwnB w B v gs) (hb : Below w.heap.size w w') : OwnB w' B v gs := owns_below h hb (Nat.le_refl _)
theorem OwnI.alloc {w : World} {B : Nat} {v : Value} {gs : List Int} (h : OwnI w B v gs) (o : Obj) : OwnI (w.alloc o) B v gs := World.ownsRow.alloc h o
theorem OwnB.alloc {w : World} {B : Nat} {v : Value} {gs : List Bool} (h : OwnB w B v gs) (o : Obj) : OwnB (w.alloc o) B v gs := World.ownsRow.alloc h o
theorem OwnI.mono {w : World} {B B' : Nat} {v : Value} {gs : List Int} (h : OwnI w B v gs) (hb : B' ≤ B) : OwnI w B' v gs := World.ownsRow.mono h hb
theorem OwnB.mono {w : World} {B B' : Nat} {v : Value} {gs : List Bool} (h : OwnB w B v gs) (hb : B' ≤ B) : OwnB w B' v gs := World.ownsRow.mono h hb
theorem OwnI.put {w : World} {B : Nat} {v : Value} {gs : List Int} (h : OwnI w B v gs) {p : Addr} (hp : p.block < B) (u : Value) : OwnI (w.setCell p u) B v gs := ownsRow_setCell_below h hp u
theorem OwnB.put {w : World} {B : Nat} {v : Value} {gs : List Bool} (h : OwnB w B v gs) {p : Addr} (hp : p.block < B) (u : Value) : OwnB (w.setCell p u) B v gs := ownsRow_setCell_below h hp u

/-- where a row lies: nil, or at a block of the element's type -/
theorem OwnI.form {w : World} {B : Nat} {v : Value} {gs : List Int} (h : OwnI w B v gs) : (v = .slice none 0 0 ∧ gs = []) ∨ ∃ g cap, v = .slice (some ⟨g, 0, none⟩) gs.length cap ∧ B ≤ g ∧ g < w.heap.size ∧ gs.length ≤ cap ∧ cap ≤ maxLen ∧
    (∃ cur, w.heap[g]? = some (.cells cur 3 (0, 0))) ∧ (∀ j, w.frozen? ⟨g, j, none⟩ = false) ∧ ∀ j, j < gs.length → w.cell? ⟨g, j, none⟩ = some (.int .i64 (gs.getD j 0)) := by
  have h' : w.ownsRow B 3 1 v gs.length (gs.map (Value.int .i64)) := h
  rcases h'.2 with ⟨hv, hn⟩ | ⟨g, cap, cur, hv, hB, hblk, hle, hcap, hsz, htk⟩
  · exact .inl ⟨hv, List.eq_nil_of_length_eq_zero hn⟩
  · subst hv
    refine .inr ⟨g, cap, rfl, hB, (Array.getElem?_eq_some_iff.1 hblk).1, hle, hcap, ⟨cur, hblk⟩, World.ownsRow.frozenAt h', fun j hj => ?_⟩
    rw [World.ownsRow.cellAt h' j (by omega)]
    simp [hj]
theorem OwnB.form {w : World} {B : Nat} {v : Value} {gs : List Bool} (h : OwnB w B v gs) : (v = .slice none 0 0 ∧ gs = []) ∨ ∃ g cap, v = .slice (some ⟨g, 0, none⟩) gs.length cap ∧ B ≤ g ∧ g < w.heap.size ∧ gs.length ≤ cap ∧ cap ≤ maxLen ∧
    (∃ cur, w.heap[g]? = some (.cells cur 4 (0, 0))) ∧ (∀ j, w.frozen? ⟨g, j, none⟩ = false) ∧ ∀ j, j < gs.length → w.cell? ⟨g, j, none⟩ = some (.bool (gs.getD j false)) := by
  have h' : w.ownsRow B 4 1 v gs.length (gs.map Value.bool) := h
  rcases h'.2 with ⟨hv, hn⟩ | ⟨g, cap, cur, hv, hB, hblk, hle, hcap, hsz, htk⟩
  · exact .inl ⟨hv, List.eq_nil_of_length_eq_zero hn⟩
  · subst hv
    refine .inr ⟨g, cap, rfl, hB, (Array.getElem?_eq_some_iff.1 hblk).1, hle, hcap, ⟨cur, hblk⟩, World.ownsRow.frozenAt h', fun j hj => ?_⟩
    rw [World.ownsRow.cellAt h' j (by omega)]
    simp [hj]
/-- a row of one's own reads as a slice -/
theorem OwnI.sl {w : World} {B : Nat} {v : Value} {gs : List Int} (h : OwnI w B v gs) (hin : ∀ x ∈ gs, In64 x) : SlOf RInt 1 (fun b => B ≤ b ∧ b < w.heap.size) w v gs := by
  rcases h.form with ⟨rfl, rfl⟩ | ⟨g, cap, rfl, hB, hlt, hle, hcap, _, _, hc⟩
  · exact ⟨none, 0, rfl, Nat.le_refl _, by decide, .inl rfl⟩
  · refine ⟨_, cap, rfl, hle, hcap, .inr ⟨g, 0, rfl, ⟨hB, hlt⟩, fun i x hi => ?_⟩⟩
    obtain ⟨hil, rfl⟩ := List.getElem?_eq_some_iff.1 hi
    refine ⟨[.int .i64 gs[i]], rfl, fun j u hu => ?_, rfl, hin _ (List.getElem_mem hil)⟩
    cases j with
    | zero =>
      simp at hu; subst hu
      simp only [Nat.mul_one, Nat.zero_add, Nat.add_zero]
      rw [hc i hil]; simp [hil]
    | succ j => simp at hu
theorem OwnB.sl {w : World} {B : Nat} {v : Value} {gs : List Bool} (h : OwnB w B v gs) : SlOf RBool 1 (fun b => B ≤ b ∧ b < w.heap.size) w v gs := by
  rcases h.form with ⟨rfl, rfl⟩ | ⟨g, cap, rfl, hB, hlt, hle, hcap, _, _, hc⟩
  · exact ⟨none, 0, rfl, Nat.le_refl _, by decide, .inl rfl⟩
  · refine ⟨_, cap, rfl, hle, hcap, .inr ⟨g, 0, rfl, ⟨hB, hlt⟩, fun i x hi => ?_⟩⟩
    obtain ⟨hil, rfl⟩ := List.getElem?_eq_some_iff.1 hi
    refine ⟨[.bool gs[i]], rfl, fun j u hu => ?_, rfl⟩
    cases j with
    | zero =>
      simp at hu; subst hu
      simp only [Nat.mul_one, Nat.zero_add, Nat.add_zero]
      rw [hc i hil]; simp [hil]
    | succ j => simp at hu

/-! ### clones -/
theorem infoI : (Try.prog.info? 3).map (fun i => (i.zero, i.size, i.bytes)) = some (some (.int .i64 0), 1, 8) := by kernel_rfl
theorem infoB : (Try.prog.info? 4).map (fun i => (i.zero, i.size, i.bytes)) = some (some (.bool false), 1, 1) := by kernel_rfl
theorem OwnI.isSl {w : World} {B : Nat} {v : Value} {gs : List Int} (h : OwnI w B v gs) : ∃ a cap, v = .slice a gs.length cap := by
  rcases h.form with ⟨rfl, rfl⟩ | ⟨g, cap, rfl, _⟩
  · exact ⟨none, 0, rfl⟩
  · exact ⟨_, cap, rfl⟩
theorem OwnB.isSl {w : World} {B : Nat} {v : Value} {gs : List Bool} (h : OwnB w B v gs) : ∃ a cap, v = .slice a gs.length cap := by
  rcases h.form with ⟨rfl, rfl⟩ | ⟨g, cap, rfl, _⟩
  · exact ⟨none, 0, rfl⟩
  · exact ⟨_, cap, rfl⟩
def IPost (w : World) (gs : List Int) (e : Ending) (w' : World) : Prop := ∃ a cap, e = .returned (.slice a gs.length cap) ∧ OwnI w' w.heap.size (.slice a gs.length cap) gs ∧ Below w.heap.size w w'
def BPost (w : World) (gs : List Bool) (e : Ending) (w' : World) : Prop := ∃ a cap, e = .returned (.slice a gs.length cap) ∧ OwnB w' w.heap.size (.slice a gs.length cap) gs ∧ Below w.heap.size w w'

set_option maxHeartbeats 800000 in
theorem clone_i {F : Nat → Prop} (gv : Value) (gs : List Int) (w : World) (hlen : gs.length ≤ 1100) (hg : SlOf RInt 1 F w gv gs) :
    Calls Try.prog 57 #[gv] w (IPost w gs) := by
  have hg' := hg
  obtain ⟨a, cap, rfl, hcap, hm, hin, hcell⟩ := hg.ints
  unfold maxLen at hm
  cases a with
  | none =>
    have h0 : gs = [] := by
      by_cases h : gs.length = 0
      · exact List.eq_nil_of_length_eq_zero h
      · obtain ⟨b, o, h1, _⟩ := hcell 0 (by omega)
        cases h1
    subst h0
    clear hcell hg hg' hin
    have q : ∀ (w : World) (a : Option Addr) (n c n' c' : Nat), (binOp .eql 41 (.slice a n c) (.slice none n' c')).run Try.prog w = .ok (.bool a.isNone) w := fun w a n c n' c' => Lib.run_eql_slice_nil w _ _ a n c n' c' Try.underlying41
    go_enter Try.func57, Try.ntmps57
    go_wp2_with fail
    go_ret
    exact ⟨_, _, rfl, World.ownsRow_nil _ _ _ _, Below.refl _ _⟩
  | some ad =>
    have hcs : Hid (∀ j u, (gs.map (Value.int .i64))[j]? = some u → w.cell? (ad.add j) = some u) := by
      intro j u hu
      have hj : j < gs.length := by have := (List.getElem?_eq_some_iff.1 hu).1; simpa using this
      obtain ⟨b, o, h1, _, h2⟩ := hcell j hj
      cases h1
      rw [Go.WideShapes.add_plain]
      rw [h2 j hj, ← hu]
      simp [hj]
    obtain ⟨i3, hi3, hz0, hz1, hz2⟩ := info_parts infoI
    have q : ∀ (w : World) (a : Option Addr) (n c n' c' : Nat), (binOp .eql 41 (.slice a n c) (.slice none n' c')).run Try.prog w = .ok (.bool a.isNone) w := fun w a n c n' c' => Lib.run_eql_slice_nil w _ _ a n c n' c' Try.underlying41
    clear hcell hg hg' hin
    go_enter Try.func57, Try.ntmps57
    go_wp2_with (at_builtin; refine wpList_append_own _ rfl _ _ 41 rfl w.heap.size 3 i3 (.int .i64 0) 1 8 Try.underlying41 hi3 hz0 hz1 hz2 rfl (by decide) _ _ _ rfl (World.ownsRow_made w #[] 0 (Nat.le_refl _) (Nat.zero_le _) (by simp)) ad gs.length cap (gs.map (Value.int .i64)) rfl ?qc1 ?qc2 ?qc3 ?qc4 ?qc5 ?qc6 ?_)
    case qc1 => simp
    case qc2 => exact fun j u hj => cell_alloc_lt (hcs.out j u hj) _
    case qc3 => intro u hu; obtain ⟨x, _, rfl⟩ := List.mem_map.1 hu; rfl
    case qc4 => unfold maxLen; omega
    case qc5 => omega
    case qc6 => simp
    intro v' w1 hown hgrow hnil
    go_wp2
    have hown2 : OwnI w1 w.heap.size v' gs := by
      show World.ownsRow _ _ _ _ _ _ _
      simpa using hown
    obtain ⟨a', cap', rfl⟩ := hown2.isSl
    go_ret
    refine ⟨a', cap', rfl, hown2, ?_⟩
    · exact ((Below.refl _ w).alloc (Nat.le_refl _) _).grown hgrow (by simp) (by intro k hk; simp [Value.ownBlock] at hk; omega)

set_option maxHeartbeats 800000 in
theorem clone_b {F : Nat → Prop} (gv : Value) (gs : List Bool) (w : World) (hlen : gs.length ≤ 1100) (hg : SlOf RBool 1 F w gv gs) :
    Calls Try.prog 58 #[gv] w (BPost w gs) := by
  have hg' := hg
  obtain ⟨a, cap, rfl, hcap, hm, hcell⟩ := hg.bools
  unfold maxLen at hm
  cases a with
  | none =>
    have h0 : gs = [] := by
      by_cases h : gs.length = 0
      · exact List.eq_nil_of_length_eq_zero h
      · obtain ⟨b, o, h1, _⟩ := hcell 0 (by omega)
        cases h1
    subst h0
    clear hcell hg hg'
    have q : ∀ (w : World) (a : Option Addr) (n c n' c' : Nat), (binOp .eql 44 (.slice a n c) (.slice none n' c')).run Try.prog w = .ok (.bool a.isNone) w := fun w a n c n' c' => Lib.run_eql_slice_nil w _ _ a n c n' c' Try.underlying44
    go_enter Try.func58, Try.ntmps58
    go_wp2_with fail
    go_ret
    exact ⟨_, _, rfl, World.ownsRow_nil _ _ _ _, Below.refl _ _⟩
  | some ad =>
    have hcs : Hid (∀ j u, (gs.map Value.bool)[j]? = some u → w.cell? (ad.add j) = some u) := by
      intro j u hu
      have hj : j < gs.length := by have := (List.getElem?_eq_some_iff.1 hu).1; simpa using this
      obtain ⟨b, o, h1, _, h2⟩ := hcell j hj
      cases h1
      rw [Go.WideShapes.add_plain]
      rw [h2 j hj, ← hu]
      simp [hj]
    obtain ⟨i3, hi3, hz0, hz1, hz2⟩ := info_parts infoB
    have q : ∀ (w : World) (a : Option Addr) (n c n' c' : Nat), (binOp .eql 44 (.slice a n c) (.slice none n' c')).run Try.prog w = .ok (.bool a.isNone) w := fun w a n c n' c' => Lib.run_eql_slice_nil w _ _ a n c n' c' Try.underlying44
    clear hcell hg hg'
    go_enter Try.func58, Try.ntmps58
    go_wp2_with (at_builtin; refine wpList_append_own _ rfl _ _ 44 rfl w.heap.size 4 i3 (.bool false) 1 1 Try.underlying44 hi3 hz0 hz1 hz2 rfl (by decide) _ _ _ rfl (World.ownsRow_made w #[] 0 (Nat.le_refl _) (Nat.zero_le _) (by simp)) ad gs.length cap (gs.map Value.bool) rfl ?qc1 ?qc2 ?qc3 ?qc4 ?qc5 ?qc6 ?_)
    case qc1 => simp
    case qc2 => exact fun j u hj => cell_alloc_lt (hcs.out j u hj) _
    case qc3 => intro u hu; obtain ⟨x, _, rfl⟩ := List.mem_map.1 hu; rfl
    case qc4 => unfold maxLen; omega
    case qc5 => omega
    case qc6 => simp
    intro v' w1 hown hgrow hnil
    go_wp2
    have hown2 : OwnB w1 w.heap.size v' gs := by
      show World.ownsRow _ _ _ _ _ _ _
      simpa using hown
    obtain ⟨a', cap', rfl⟩ := hown2.isSl
    go_ret
    refine ⟨a', cap', rfl, hown2, ?_⟩
    · exact ((Below.refl _ w).alloc (Nat.le_refl _) _).grown hgrow (by simp) (by intro k hk; simp [Value.ownBlock] at hk; omega)
end Go.Proofs.Ytlcefgdiclpcjaa
