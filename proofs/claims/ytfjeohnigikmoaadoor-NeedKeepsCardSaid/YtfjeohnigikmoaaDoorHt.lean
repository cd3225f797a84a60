/- Layer 11: which function a method of the heap is, called on the interface value. -/
import Derived.Test.YtfjeohnigikmoaaDoorHp
namespace Go.Proofs.YtfjeohnigikmoaaDoor
open Go.RowKit Go.Bx Go.Hp
attribute [local go_sem ↓] Go.wp_at_zero Go.wp_at_succ
theorem meth_parts {P : Program} {t : TypeId} {name : String} {f : FuncId} {b : Bool} (h : ((P.info? t).bind fun i => i.methods.find? (·.name == name)).map (fun m => (m.path.size, m.func)) = some (0, some (f, b))) :
    ∃ i m, P.info? t = some i ∧ i.methods.find? (·.name == name) = some m ∧ m.path = #[] ∧ m.func = some (f, b) := by
  cases hi : P.info? t with
  | none => rw [hi] at h; cases h
  | some i =>
    rw [hi] at h
    simp only [Option.bind_some] at h
    cases hm : i.methods.find? (·.name == name) with
    | none => rw [hm] at h; cases h
    | some m =>
      rw [hm] at h
      simp only [Option.map_some, Option.some.injEq, Prod.mk.injEq] at h
      exact ⟨i, m, rfl, hm, Array.eq_empty_of_size_eq_zero h.1, h.2⟩
theorem m_less : ((Tryd.prog.info? 60).bind fun i => i.methods.find? (·.name == "Less")).map (fun m => (m.path.size, m.func)) = some (0, some (71, false)) := by kernel_rfl
theorem m_len : ((Tryd.prog.info? 60).bind fun i => i.methods.find? (·.name == "Len")).map (fun m => (m.path.size, m.func)) = some (0, some (37, false)) := by kernel_rfl
theorem m_swap : ((Tryd.prog.info? 60).bind fun i => i.methods.find? (·.name == "Swap")).map (fun m => (m.path.size, m.func)) = some (0, some (74, false)) := by kernel_rfl
theorem m_push : ((Tryd.prog.info? 60).bind fun i => i.methods.find? (·.name == "Push")).map (fun m => (m.path.size, m.func)) = some (0, some (73, true)) := by kernel_rfl
theorem m_pop : ((Tryd.prog.info? 60).bind fun i => i.methods.find? (·.name == "Pop")).map (fun m => (m.path.size, m.func)) = some (0, some (72, true)) := by kernel_rfl
theorem nil_chk (a : Addr) (s m : String) (w : World) : (Builtin.ssaWrapNilChk_ #[60] 60 #[.pointer (some a), strVal s, strVal m]).run Tryd.prog w = .ok (.pointer (some a)) w := rfl
theorem load_places (nb : Nat) (v : Value) (w : World) (h : w.cell? ⟨nb, 0, none⟩ = some v) : (loadVar 61 ⟨nb, 0, none⟩).run Tryd.prog w = .ok v w := by
  simp [loadVar, h, go_sem]
/-- a method of the value, called on the pointer -/
theorem method_val (fuel nb : Nat) (v : Value) (name : String) (f : FuncId) (w : World) (hm : ((Tryd.prog.info? 60).bind fun i => i.methods.find? (·.name == name)).map (fun m => (m.path.size, m.func)) = some (0, some (f, false))) (h : w.cell? ⟨nb, 0, none⟩ = some v) :
    (method (fuel + 1) 60 (.pointer (some ⟨nb, 0, none⟩)) name).run Tryd.prog w = .ok (f, v) w := by
  obtain ⟨i, m, hi, hm, h1, h2⟩ := meth_parts hm
  have hl := load_places nb v w h
  have hn := fun s m => nil_chk ⟨nb, 0, none⟩ s m w
  unfold method
  simp [typeInfo, hi, hm, h1, h2, follow, receiverAt, Place.get, run_underlying Tryd.underlying60, hl, hn, asAddr]
/-- a method of the pointer -/
theorem method_ptr (fuel nb : Nat) (name : String) (f : FuncId) (w : World) (hm : ((Tryd.prog.info? 60).bind fun i => i.methods.find? (·.name == name)).map (fun m => (m.path.size, m.func)) = some (0, some (f, true))) :
    (method (fuel + 1) 60 (.pointer (some ⟨nb, 0, none⟩)) name).run Tryd.prog w = .ok (f, .pointer (some ⟨nb, 0, none⟩)) w := by
  obtain ⟨i, m, hi, hm, h1, h2⟩ := meth_parts hm
  unfold method
  simp [typeInfo, hi, hm, h1, h2, follow, receiverAt, Place.get, run_underlying Tryd.underlying60]
end Go.Proofs.YtfjeohnigikmoaaDoor
/- Layer 11: container/heap's up. -/
namespace Go.Proofs.YtfjeohnigikmoaaDoor
open Go.RowKit Go.Bx Go.Hp
attribute [local go_sem ↓] Go.wp_at_zero Go.wp_at_succ
set_option linter.unusedVariables false

/-- what up and down leave: a heap of the same numbers -/
def UpPost (w : World) (nb B : Nat) (v : Value) (xs : List Int) (e : Ending) (w' : World) : Prop := e = .returned (.tuple #[]) ∧ ∃ hs, IsHeap hs ∧ hs.Perm xs ∧ HpIs w' nb B v hs ∧ HFr nb v w w'
theorem HFr.refl (nb : Nat) (v : Value) (w : World) : HFr nb v w w := ⟨rfl, rfl, rfl, Nat.le_refl _, fun _ _ _ _ => rfl⟩
set_option maxHeartbeats 1600000 in
theorem up_c (nb B g c n : Nat) (xs : List Int) (j : Nat) (w : World) (hn : xs.length = n) (hm : n ≤ 1000) (hh : HpIs w nb B (.slice (some ⟨g, 0, none⟩) n c) xs) (hu : UpInv xs j) :
    Calls Tryd.prog 47 #[.iface 60 (.pointer (some ⟨nb, 0, none⟩)), .int .i64 j] w (UpPost w nb B (.slice (some ⟨g, 0, none⟩) n c) xs) := by
  go_enter Tryd.func47, Tryd.ntmps47
  go_wp2_with fail
  go_loopw [1] (fun jv wr => ∃ (j : Nat) (hs : List Int), jv = .int .i64 j ∧ UpInv hs j ∧ hs.Perm xs ∧ HpIs wr nb B (.slice (some ⟨g, 0, none⟩) n c) hs ∧ HFr nb (.slice (some ⟨g, 0, none⟩) n c) w wr) (fun jv _ => (intOf jv).toNat)
  case atStart => exact ⟨j, xs, rfl, hu, List.Perm.refl _, hh, HFr.refl _ _ _⟩
  case round =>
    obtain ⟨j, hs, rfl, hu, hp, hh, hf⟩ := hrel
    have hjl := hu.1
    have hln : hs.length = n := hp.length_eq.trans hn
    have bx : Box wr nb [.slice (some ⟨g, 0, none⟩) n c] := ⟨_, hh.2.1⟩
    have c0 := bx.cell 0 rfl
    obtain ⟨hc, hfz⟩ : (∀ k, k < hs.length → wr.cell? ⟨g, k, none⟩ = some (.int .i64 (hs.getD k 0))) ∧ ∀ k, wr.frozen? ⟨g, k, none⟩ = false := by
      rcases hh.1.form with ⟨h, _⟩ | ⟨g', cap, h, _, _, _, _, _, h2, h3⟩
      · cases h
      · cases h; exact ⟨h3, h2⟩
    by_cases h0 : j = 0
    · subst h0
      have HE : Hid (UpPost w nb B (.slice (some ⟨g, 0, none⟩) n c) xs (.returned (.tuple #[])) wr) := ⟨rfl, hs, up_exit hu (.inl rfl), hp, hh, hf⟩
      clear hu hp hh hf hc hfz
      go_wp2_with fail
      go_end0
      exact HE.out
    · have hpl : par j < j := by unfold par; omega
      have hpj : ((j : Int) - 1) / 2 = ((par j : Nat) : Int) := by unfold par; omega
      have hd : (((par j : Nat) : Int) == (j : Int)) = false := by simp; omega
      have hml := method_val (100 + 108) nb (.slice (some ⟨g, 0, none⟩) n c) "Less" _ wr m_less c0
      have HU : Hid (UpInv hs j ∧ hs.Perm xs ∧ HpIs wr nb B (.slice (some ⟨g, 0, none⟩) n c) hs ∧ HFr nb (.slice (some ⟨g, 0, none⟩) n c) w wr) := ⟨hu, hp, hh, hf⟩
      have h1 := hc j hjl
      have h2 := hc (par j) (by omega)
      clear hu hp hh hf hc
      go_wp2_with fail
      refine (less_c g c n _ _ j (par j) wr (by omega) (by omega) hm h1 h2).mono ?_; rintro e w2 ⟨rfl, hb2⟩
      obtain ⟨lt, hlt⟩ : ∃ lt, lt = decide (hs.getD j 0 < hs.getD (par j) 0) := ⟨_, rfl⟩
      have HL : Hid (lt = decide (hs.getD j 0 < hs.getD (par j) 0)) := hlt
      rw [← hlt]
      clear hlt
      have hh2 := HU.out.2.2.1.below hb2
      have bx2 : Box w2 nb [.slice (some ⟨g, 0, none⟩) n c] := ⟨_, hh2.2.1⟩
      have c2 := bx2.cell 0 rfl
      have hv : ∀ k, (Value.slice (some ⟨g, 0, none⟩) n c).ownBlock = some k → (Value.slice (some ⟨g, 0, none⟩) n c).ownBlock = some k ∨ w.heap.size ≤ k := fun k h => .inl h
      have hf2 := HU.out.2.2.2.trans (HFr.below hb2) hv
      cases lt
      · have HE : Hid (UpPost w nb B (.slice (some ⟨g, 0, none⟩) n c) xs (.returned (.tuple #[])) w2) := ⟨rfl, hs, up_exit HU.out.1 (.inr (by have := of_decide_eq_false HL.out.symm; omega)), HU.out.2.1, hh2, hf2⟩
        clear hh2 hf2 hb2 h1 h2 hml bx2 hv
        go_wp2_with fail
        go_end0
        exact HE.out
      · have hms := method_val (100 + 108) nb (.slice (some ⟨g, 0, none⟩) n c) "Swap" _ w2 m_swap c2
        have e1 := (hb2.cell (lt_of_cell h1)).trans h1
        have e2 := (hb2.cell (lt_of_cell h2)).trans h2
        have hfz2 : ∀ k, w2.frozen? ⟨g, k, none⟩ = false := by
          rcases hh2.1.form with ⟨h, _⟩ | ⟨g', cap, h, _, _, _, _, _, h2, h3⟩
          · cases h
          · cases h; exact h2
        have H2 : Hid (HpIs w2 nb B (.slice (some ⟨g, 0, none⟩) n c) hs ∧ HFr nb (.slice (some ⟨g, 0, none⟩) n c) w w2) := ⟨hh2, hf2⟩
        clear hh2 hf2 hb2 h1 h2 hml bx2 c0 hfz
        go_wp2_with fail
        refine (swap_c g c n _ _ (par j) j w2 (by omega) (by omega) hm e2 e1 hfz2 (by omega)).mono ?_; rintro e w3 ⟨rfl, k, rfl⟩
        have K1 := HpIs.sw hln H2.out.1 (par j) j k
        have K2 := H2.out.2.trans (HFr.sw (par j) j (.int .i64 (hs.getD j 0)) (.int .i64 (hs.getD (par j) 0)) k) hv
        have K3 := up_step HU.out.1 (by omega) (of_decide_eq_true HL.out.symm)
        have K4 := (sw_perm hs (par j) j (by omega) hjl).trans HU.out.2.1
        have HK : Hid (HpIs _ _ _ _ _ ∧ HFr _ _ _ _ ∧ UpInv _ _ ∧ List.Perm _ _) := ⟨K1, K2, K3, K4⟩
        clear K1 K2 K3 K4 hms e1 e2 hfz2 c2
        go_wp2_with fail
        go_roundw
        case rel => exact ⟨par j, Hp.sw hs (par j) j, by first | rfl | (rw [hpj]), HK.out.2.2.1, HK.out.2.2.2, HK.out.1, HK.out.2.1⟩
        case measure => simp [intOf]; omega
end Go.Proofs.YtfjeohnigikmoaaDoor
/- Layer 11: container/heap's Push. -/
namespace Go.Proofs.YtfjeohnigikmoaaDoor
open Go.RowKit Go.Bx Go.Hp
attribute [local go_sem ↓] Go.wp_at_zero Go.wp_at_succ
set_option linter.unusedVariables false

/-- what heap.Push leaves -/
def HhPost (w : World) (nb B : Nat) (v : Value) (xs : List Int) (x : Int) (e : Ending) (w' : World) : Prop := e = .returned (.tuple #[]) ∧ ∃ a c hs, IsHeap hs ∧ hs.Perm (xs ++ [x]) ∧ HpIs w' nb B (.slice a hs.length c) hs ∧ HFr nb v w w' ∧ (∀ k, (Value.slice a hs.length c).ownBlock = some k → v.ownBlock = some k ∨ w.heap.size ≤ k)
set_option maxHeartbeats 1600000 in
theorem hpush_c (nb B n c : Nat) (a : Option Addr) (xs : List Int) (x : Int) (w : World) (hn : xs.length = n) (hm : n < 1000) (hh : HpIs w nb B (.slice a n c) xs) (hB : B ≤ w.heap.size) (hp : IsHeap xs) :
    Calls Tryd.prog 35 #[.iface 60 (.pointer (some ⟨nb, 0, none⟩)), .iface 3 (.int .i64 x)] w (HhPost w nb B (.slice a n c) xs x) := by
  have hmp := method_ptr (100 + 108) nb "Push" _ w m_push
  have HH : Hid (HpIs w nb B (.slice a n c) xs) := hh
  clear hh
  go_enter Tryd.func35, Tryd.ntmps35
  go_wp2_with fail
  refine (push_c nb B n c a xs x w hn (by omega) HH.out hB).mono ?_; rintro e w2 ⟨rfl, a2, c2, hh2, hf2, hk2⟩
  have hnl : (xs ++ [x]).length = n + 1 := by simp [hn]
  have hup := up_start hp x
  rw [hn] at hup
  obtain ⟨g2, rfl⟩ : ∃ g2, a2 = some ⟨g2, 0, none⟩ := by
    rcases hh2.1.form with ⟨h, h'⟩ | ⟨g', cap, h, _⟩
    · simp at h'
    · cases h; exact ⟨_, rfl⟩
  rw [hnl] at hh2 hk2
  have bx2 : Box w2 nb [.slice (some ⟨g2, 0, none⟩) (n + 1) c2] := ⟨_, hh2.2.1⟩
  have c0 := bx2.cell 0 rfl
  have hml := method_val (100 + 108) nb (.slice (some ⟨g2, 0, none⟩) (n + 1) c2) "Len" _ w2 m_len c0
  have H2 : Hid (HpIs w2 nb B (.slice (some ⟨g2, 0, none⟩) (n + 1) c2) (xs ++ [x]) ∧ HFr nb (.slice a n c) w w2 ∧ (∀ k, (Value.slice (some ⟨g2, 0, none⟩) (n + 1) c2).ownBlock = some k → (Value.slice a n c).ownBlock = some k ∨ w.heap.size ≤ k) ∧ UpInv (xs ++ [x]) n) := ⟨hh2, hf2, hk2, hup⟩
  clear hh2 hf2 hk2 hup bx2 hmp
  go_wp2_with fail
  refine (len_c (some ⟨g2, 0, none⟩) (n + 1) c2 w2).mono ?_; rintro e w3 ⟨rfl, hb3⟩
  have hh3 := H2.out.1.below hb3
  have e1 : ((n + 1 : Nat) : Int) - 1 = (n : Int) := by omega
  clear c0 hml
  go_wp2_with fail
  have hnl' : (xs ++ [x]).length = n + 1 := by simp [hn]
  refine (up_c nb B g2 c2 (n + 1) (xs ++ [x]) n w3 hnl' (by omega) hh3 H2.out.2.2.2).mono ?_; rintro e w4 ⟨rfl, hs, q1, q2, q3, q4⟩
  have hl4 : hs.length = n + 1 := q2.length_eq.trans hnl'
  have HE : Hid (HhPost w nb B (.slice a n c) xs x (.returned (.tuple #[])) w4) := ⟨rfl, some ⟨g2, 0, none⟩, c2, hs, q1, q2, by rw [hl4]; exact q3, (H2.out.2.1.trans (HFr.below hb3) H2.out.2.2.1).trans q4 H2.out.2.2.1, by rw [hl4]; exact H2.out.2.2.1⟩
  clear q1 q2 q3 q4 hl4 hb3 hh3
  go_wp2_with fail
  go_end0
  exact HE.out
end Go.Proofs.YtfjeohnigikmoaaDoor
