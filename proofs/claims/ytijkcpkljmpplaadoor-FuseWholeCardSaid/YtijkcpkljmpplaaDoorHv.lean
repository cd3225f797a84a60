/- Layer 11: container/heap's Pop. -/
import Derived.Test.YtijkcpkljmpplaaDoorHd
namespace Go.Proofs.YtijkcpkljmpplaaDoor
open Go.RowKit Go.Bx Go.Hp
attribute [local go_sem ↓] Go.wp_at_zero Go.wp_at_succ
set_option linter.unusedVariables false

theorem OwnP.less {w : World} {B g c N n : Nat} {hs : List Int} (hN : hs.length = N) (hn : n ≤ N) (h : OwnP w B (.slice (some ⟨g, 0, none⟩) N c) hs) : OwnP w B (.slice (some ⟨g, 0, none⟩) n c) (hs.take n) := by
  have hl : (hs.take n).length = n := by rw [List.length_take]; omega
  unfold OwnP at h ⊢
  rw [hl]
  refine ⟨by simp; omega, ?_⟩
  rcases h.2 with ⟨h', _⟩ | ⟨g', cap, cur, hv, hB, hblk, hle, hcap, hsz, htk⟩
  · cases h'
  · simp only [Value.slice.injEq, Option.some.injEq, Addr.mk.injEq, and_true] at hv
    obtain ⟨rfl, _, rfl⟩ := hv
    refine .inr ⟨g, c, cur, rfl, hB, hblk, by omega, hcap, hsz, ?_⟩
    rw [List.map_take, ← htk, List.take_take]
    congr 1
    omega
/-- what the method Pop leaves -/
def PoPost (w : World) (nb B g c n : Nat) (v : Value) (hs : List Int) (e : Ending) (w' : World) : Prop := e = .returned (.iface 3 (.int .i64 (hs.getD n 0))) ∧ HpIs w' nb B (.slice (some ⟨g, 0, none⟩) n c) (hs.take n) ∧ HFr nb v w w'
set_option maxHeartbeats 1600000 in
theorem ppop_c (nb B g c N n : Nat) (hs : List Int) (w : World) (hl : hs.length = N) (hN : N = n + 1) (hm : N ≤ 1000) (hh : HpIs w nb B (.slice (some ⟨g, 0, none⟩) N c) hs) :
    Calls Tryd.prog 61 #[.pointer (some ⟨nb, 0, none⟩)] w (PoPost w nb B g c n (.slice (some ⟨g, 0, none⟩) N c) hs) := by
  have bx : Box w nb [.slice (some ⟨g, 0, none⟩) N c] := ⟨_, hh.2.1⟩
  have c0 := bx.cell 0 rfl
  have f0 := bx.frozen 0
  have c1 := HpIs.at hh (j := n) (by omega)
  have hcap : N ≤ c := by
    rcases hh.1.form with ⟨h, _⟩ | ⟨g', cap, h, _, _, h2, _⟩
    · cases h
    · cases h; omega
  have HH : Hid (PoPost w nb B g c n (.slice (some ⟨g, 0, none⟩) N c) hs (.returned (.iface 3 (.int .i64 (hs.getD n 0)))) (w.setCell ⟨nb, 0, none⟩ (.slice (some ⟨g, 0, none⟩) n c))) := by
    have hg := (World.ownsRow.lt hh.1 g rfl).1
    refine ⟨rfl, ⟨own_set_ne (hh.1.less hl (by omega)) (by exact hh.2.2) _, ?_, hh.2.2⟩, ⟨rfl, rfl, rfl, by rw [size_set]; exact Nat.le_refl _, fun k hk hkn hko => Below.heap_setCell _ _ _ _ hkn⟩⟩
    simp [World.setCell, Array.getElem?_modify, hh.2.1]
  generalize hs.getD n 0 = x at *
  have e1 : (N : Int) - 1 = (n : Int) := by omega
  have hn0 : (0 : Int) ≤ (n : Int) := by omega
  have hn1 : (n : Int) < (N : Int) := by omega
  have hn2 : (n : Int) ≤ (c : Int) := by omega
  have hN' : Hid (N = n + 1) := hN
  clear bx hh hl hN hcap
  go_enter Tryd.func61, Tryd.ntmps61
  go_wp2_with fail
  go_ret
  exact HH.out
end Go.Proofs.YtijkcpkljmpplaaDoor
