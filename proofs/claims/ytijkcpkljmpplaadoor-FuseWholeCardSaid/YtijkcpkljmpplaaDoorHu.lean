/- Layer 11: container/heap's Push. -/
import Derived.Test.YtijkcpkljmpplaaDoorHq
namespace Go.Proofs.YtijkcpkljmpplaaDoor
open Go.RowKit Go.Bx Go.Hp
attribute [local go_sem ↓] Go.wp_at_zero Go.wp_at_succ
set_option linter.unusedVariables false

/-- what heap.Push leaves -/
def HhPost (w : World) (nb B : Nat) (v : Value) (xs : List Int) (x : Int) (e : Ending) (w' : World) : Prop := e = .returned (.tuple #[]) ∧ ∃ a c hs, IsHeap hs ∧ hs.Perm (xs ++ [x]) ∧ HpIs w' nb B (.slice a hs.length c) hs ∧ HFr nb v w w' ∧ (∀ k, (Value.slice a hs.length c).ownBlock = some k → v.ownBlock = some k ∨ w.heap.size ≤ k)
set_option maxHeartbeats 1600000 in
theorem hpush_c (nb B n c : Nat) (a : Option Addr) (xs : List Int) (x : Int) (w : World) (hn : xs.length = n) (hm : n < 1000) (hh : HpIs w nb B (.slice a n c) xs) (hB : B ≤ w.heap.size) (hp : IsHeap xs) :
    Calls Tryd.prog 26 #[.iface 49 (.pointer (some ⟨nb, 0, none⟩)), .iface 3 (.int .i64 x)] w (HhPost w nb B (.slice a n c) xs x) := by
  have hmp := method_ptr 194 nb "Push" _ w m_push
  have HH : Hid (HpIs w nb B (.slice a n c) xs) := hh
  clear hh
  go_enter Tryd.func26, Tryd.ntmps26
  go_wp2_with fail
  refine (push_c nb B n c a xs x w hn (by omega) HH.out hB).mono ?_; rintro e w2 ⟨rfl, a2, c2, hh2, hf2, hk2⟩
  have hnl : (xs ++ [x]).length = n + 1 := by simp [hn]
  have hup := up_start hp x
  rw [hn] at hup
  obtain ⟨g2, rfl⟩ : ∃ g2, a2 = some ⟨g2, 0, none⟩ := by
    rcases hh2.1.form with ⟨h, h'⟩ | ⟨g', cap, h, _⟩
    · simp at h'
    · cases h; exact ⟨_, rfl⟩
  rw [hnl] at hh2 hk2
  have bx2 : Box w2 nb [.slice (some ⟨g2, 0, none⟩) (n + 1) c2] := ⟨_, hh2.2.1⟩
  have c0 := bx2.cell 0 rfl
  have hml := method_val 194 nb (.slice (some ⟨g2, 0, none⟩) (n + 1) c2) "Len" _ w2 m_len c0
  have H2 : Hid (HpIs w2 nb B (.slice (some ⟨g2, 0, none⟩) (n + 1) c2) (xs ++ [x]) ∧ HFr nb (.slice a n c) w w2 ∧ (∀ k, (Value.slice (some ⟨g2, 0, none⟩) (n + 1) c2).ownBlock = some k → (Value.slice a n c).ownBlock = some k ∨ w.heap.size ≤ k) ∧ UpInv (xs ++ [x]) n) := ⟨hh2, hf2, hk2, hup⟩
  clear hh2 hf2 hk2 hup bx2 hmp
  go_wp2_with fail
  refine (len_c (some ⟨g2, 0, none⟩) (n + 1) c2 w2).mono ?_; rintro e w3 ⟨rfl, hb3⟩
  have hh3 := H2.out.1.below hb3
  have e1 : ((n + 1 : Nat) : Int) - 1 = (n : Int) := by omega
  clear c0 hml
  go_wp2_with fail
  have hnl' : (xs ++ [x]).length = n + 1 := by simp [hn]
  refine (up_c nb B g2 c2 (n + 1) (xs ++ [x]) n w3 hnl' (by omega) hh3 H2.out.2.2.2).mono ?_; rintro e w4 ⟨rfl, hs, q1, q2, q3, q4⟩
  have hl4 : hs.length = n + 1 := q2.length_eq.trans hnl'
  have HE : Hid (HhPost w nb B (.slice a n c) xs x (.returned (.tuple #[])) w4) := ⟨rfl, some ⟨g2, 0, none⟩, c2, hs, q1, q2, by rw [hl4]; exact q3, (H2.out.2.1.trans (HFr.below hb3) H2.out.2.2.1).trans q4 H2.out.2.2.1, by rw [hl4]; exact H2.out.2.2.1⟩
  clear q1 q2 q3 q4 hl4 hb3 hh3
  go_wp2_with fail
  go_end0
  exact HE.out
end Go.Proofs.YtijkcpkljmpplaaDoor
