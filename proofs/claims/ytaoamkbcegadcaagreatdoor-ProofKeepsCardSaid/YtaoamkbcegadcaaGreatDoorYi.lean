/- Texts joined: XYi. -/
import Derived.Test.YtaoamkbcegadcaaGreatDoorYh
set_option maxRecDepth 4000
/- Layer 19: used, release. (Printed by mk_yi.py.) -/
namespace Go.Proofs.YtaoamkbcegadcaaGreatDoor
open Go.RowKit Go.Bx Go.Od Go.Hp
attribute [local go_sem ↓] Go.wp_at_zero Go.wp_at_succ
set_option linter.unusedVariables false

section
variable {w0 : World} {M : Nat} {nv pv sv : Value} {out : Int} {c : Cf} {pl : List (Value × Value × Ps)} {src : Rc} {sn pk : Int} {sl : List (Int × Int)} {W W' : World}
theorem row_keep2 {B s n : Nat} {e : TypeId} {v : Value} {xs : List Value} (p : Addr) (h : W.ownsRow B e s v n xs) (hne : v.ownBlock ≠ some p.block) (u : Value) : (W.setCell p u).ownsRow B e s v n xs := by
  refine ⟨h.1, ?_⟩
  rcases h.2 with hn | ⟨g', cap, cur, rfl, hB, hb, rest⟩
  · exact .inl hn
  · refine .inr ⟨g', cap, cur, rfl, hB, ?_, rest⟩
    rw [Below.heap_setCell _ _ _ _ fun e => hne (by rw [← e]; rfl)]
    exact hb
/-- a slot's owner is stored -/
theorem MS.setSlot {g n cp : Nat} (h : MS w0 M nv out c pl pv src sn pk sl (.slice (some ⟨g, 0, none⟩) n cp) W) {i : Nat} (hi : i < sl.length) (v : Int) : MS w0 M nv out c pl pv src sn pk (sl.set i ((sl.getD i (0, 0)).1, v)) (.slice (some ⟨g, 0, none⟩) n cp) (W.setCell ⟨g, i * 2 + 1, none⟩ (.int .i64 v)) := by
  have hn : n = sl.length := by
    rcases h.sr.2 with ⟨h1, _⟩ | ⟨g', cap, cur, h1, _⟩
    · cases h1
    · cases h1; rfl
  subst hn
  have hM : M ≠ g := fun e => own_apartM h.sr h.hm (by decide) (by rw [e]; rfl)
  have k1 : ∀ {B s n : Nat} {e : TypeId} {v' : Value} {xs : List Value}, W.ownsRow B e s v' n xs → e ≠ 73 → (W.setCell ⟨g, i * 2 + 1, none⟩ (.int .i64 v)).ownsRow B e s v' n xs := fun hr ht => row_keep2 ⟨g, i * 2 + 1, none⟩ hr (fun e => rows_apart hr h.sr ht e rfl) _
  have hg : sl[i]? = some (sl.getD i (0, 0)) := by simp [hi]
  refine ⟨?_, h.hM, k1 h.pr (by decide), fun x hx => ⟨k1 (h.pi x hx).1 (by decide), k1 (h.pi x hx).2 (by decide)⟩, ?_, h.below.setCell (World.ownsRow.lt h.sr g rfl).1 _⟩
  · rw [Below.heap_setCell _ _ _ _ hM]
    exact h.hm
  · rw [List.length_set, ← scs_set sl i _ v hg]
    exact row_put h.sr _ _ (by omega)
/-- a pass's slot is stored -/
theorem MS.setPass {g n cp : Nat} (h : MS w0 M nv out c pl (.slice (some ⟨g, 0, none⟩) n cp) src sn pk sl sv W) {i : Nat} {x : Value × Value × Ps} (hi : pl[i]? = some x) (v : Int) : MS w0 M nv out c (pl.set i (x.1, x.2.1, { x.2.2 with slot := v })) (.slice (some ⟨g, 0, none⟩) n cp) src sn pk sl sv (W.setCell ⟨g, i * 8 + 6, none⟩ (.int .i64 v)) := by
  have hil : i < pl.length := (List.getElem?_eq_some_iff.1 hi).1
  have hn : n = pl.length := by
    rcases h.pr.2 with ⟨h1, _⟩ | ⟨g', cap, cur, h1, _⟩
    · cases h1
    · cases h1; rfl
  subst hn
  have hM : M ≠ g := fun e => own_apartM h.pr h.hm (by decide) (by rw [e]; rfl)
  have k1 : ∀ {B s n : Nat} {e : TypeId} {v' : Value} {xs : List Value}, W.ownsRow B e s v' n xs → e ≠ 37 → (W.setCell ⟨g, i * 8 + 6, none⟩ (.int .i64 v)).ownsRow B e s v' n xs := fun hr ht => row_keep2 ⟨g, i * 8 + 6, none⟩ hr (fun e => rows_apart hr h.pr ht e rfl) _
  refine ⟨?_, h.hM, ?_, fun y hy => ?_, k1 h.sr (by decide), h.below.setCell (World.ownsRow.lt h.pr g rfl).1 _⟩
  · rw [Below.heap_setCell _ _ _ _ hM]
    exact h.hm
  · rw [List.length_set, ← pcs_set pl i x 6 (.int .i64 v) (x.1, x.2.1, { x.2.2 with slot := v }) hi (by omega) rfl]
    exact row_put h.pr _ _ (by omega)
  · have : OwnP W w0.heap.size y.1 (ofN y.2.2.nodes) ∧ OwnP W w0.heap.size y.2.1 y.2.2.reads := by
      rcases List.mem_or_eq_of_mem_set hy with h2 | rfl
      · exact h.pi y h2
      · exact h.pi x (List.mem_of_getElem? hi)
    exact ⟨k1 this.1 (by decide), k1 this.2 (by decide)⟩
theorem psl_set (pl : List (Value × Value × Ps)) (i : Nat) (x : Value × Value × Ps) : psl (pl.set i x) = (psl pl).set i x.2.2 := by simp [psl, List.map_set]
end
theorem usedS_take (sl : List (Int × Int)) {j : Nat} (hj : j < sl.length) : usedS (sl.take (j + 1)) = usedS (sl.take j) + (if 0 ≤ (sl.getD j (0, 0)).2 then (sl.getD j (0, 0)).1 else 0) := by
  have e : sl.take (j + 1) = sl.take j ++ [sl.getD j (0, 0)] := by
    rw [List.take_add_one]
    simp [hj]
  rw [e, usedS_app]
  simp [usedS]
theorem usedS_bd : ∀ (l : List (Int × Int)), (∀ s ∈ l, 0 ≤ s.1 ∧ s.1 ≤ 1099511627776) → 0 ≤ usedS l ∧ usedS l ≤ l.length * 1099511627776
  | [], _ => by simp [usedS]
  | s :: l, h => by
    have ih := usedS_bd l fun x hx => h x (List.mem_cons_of_mem _ hx)
    have h0 := h s (List.mem_cons_self ..)
    unfold usedS
    rw [List.length_cons]
    have : ((l.length + 1 : Nat) : Int) * 1099511627776 = l.length * 1099511627776 + 1099511627776 := by
      rw [Int.natCast_add, Int.add_mul]; rfl
    rw [this]
    split <;> omega
set_option maxHeartbeats 3200000 in
theorem used_c {w0 : World} {M : Nat} {nv pv sv : Value} {out : Int} {c : Cf} {pl : List (Value × Value × Ps)} {src : Rc} {sn pk : Int} {sl : List (Int × Int)} (w : World) (hm : MS w0 M nv out c pl pv src sn pk sl sv w) (hl : sl.length ≤ 100) (hsz : ∀ s ∈ sl, 0 ≤ s.1 ∧ s.1 ≤ 1099511627776) :
    Calls Tryz.prog 33 #[.pointer (some ⟨M, 0, none⟩)] w (PPost w (.int .i64 (usedS sl))) := by
  have c14 := hm.box.cell 14 rfl
  obtain ⟨a, cap, rfl, hcell⟩ := scs_cell hm.sr
  obtain ⟨n, hn⟩ : ∃ n, n = sl.length := ⟨_, rfl⟩
  have HC : Hid (∀ W, Below w.heap.size w W → ∀ j, j < n → ∃ g, a = some ⟨g, 0, none⟩ ∧ W.cell? ⟨g, j * 2, none⟩ = some (.int .i64 (sl.getD j (0, 0)).1) ∧ W.cell? ⟨g, j * 2 + 1, none⟩ = some (.int .i64 (sl.getD j (0, 0)).2)) := fun W hb j hj => by
    obtain ⟨g, h1, h2, h3, h4, h5, _⟩ := hcell j (hn ▸ hj)
    exact ⟨g, h1, (hb.cell h3).trans h4, (hb.cell h3).trans h5⟩
  have HN : Hid (n = sl.length ∧ (∀ j, j < n → usedS (sl.take (j + 1)) = usedS (sl.take j) + (if 0 ≤ (sl.getD j (0, 0)).2 then (sl.getD j (0, 0)).1 else 0)) ∧ (∀ j, j ≤ n → 0 ≤ usedS (sl.take j) ∧ usedS (sl.take j) ≤ 109951162777600) ∧ (∀ j, j < n → 0 ≤ (sl.getD j (0, 0)).1 ∧ (sl.getD j (0, 0)).1 ≤ 1099511627776)) := by
    have : n = sl.length ∧ (∀ j, j < n → usedS (sl.take (j + 1)) = usedS (sl.take j) + (if 0 ≤ (sl.getD j (0, 0)).2 then (sl.getD j (0, 0)).1 else 0)) ∧ (∀ j, j ≤ n → 0 ≤ usedS (sl.take j) ∧ usedS (sl.take j) ≤ 109951162777600) ∧ (∀ j, j < n → 0 ≤ (sl.getD j (0, 0)).1 ∧ (sl.getD j (0, 0)).1 ≤ 1099511627776) := by
      refine ⟨hn, fun j hj => usedS_take sl (hn ▸ hj), fun j hj => ?_, fun j hj => hsz _ (getD_mem _ (hn ▸ hj))⟩
      have := usedS_bd (sl.take j) fun s hs => hsz s (List.mem_of_mem_take hs)
      have h2 : (sl.take j).length ≤ 100 := by rw [List.length_take]; omega
      omega
    exact this
  rw [← hn] at c14
  have hn1 : n ≤ 100 := by omega
  obtain ⟨U, hU⟩ : ∃ U, U = usedS sl := ⟨_, rfl⟩
  have HU : Hid (usedS (sl.take n) = U) := by
    have : usedS (sl.take n) = U := by rw [hn, List.take_length, hU]
    exact this
  rw [← hU]
  clear hm hcell hn hl hsz hU
  go_enter Tryz.func33, Tryz.ntmps33
  go_wp2_with fail
  go_loopw [3, 11] (fun uv jv wr => ∃ (j : Nat) (u : Int), j ≤ n ∧ jv = .int .i64 j ∧ uv = .int .i64 u ∧ Hid (u = usedS (sl.take j)) ∧ Below w.heap.size w wr) (fun _ jv _ => n - (intOf jv).toNat)
  case atStart => exact ⟨0, 0, by omega, rfl, rfl, (show (0 : Int) = usedS (sl.take 0) by simp [usedS]), Below.refl _ _⟩
  case round =>
    obtain ⟨j, u, hj, rfl, rfl, hu, hb⟩ := hrel
    have HB : Hid (Below w.heap.size w wr) := hb
    by_cases h1 : j < n
    · obtain ⟨g, rfl, hc0, hc1⟩ := HC.out wr hb j h1
      obtain ⟨z, hz⟩ : ∃ z, z = sl.getD j (0, 0) := ⟨_, rfl⟩
      have hst := HN.out.2.1 j h1
      have hbd := HN.out.2.2.1 j (by omega)
      have hbe := HN.out.2.2.2 j h1
      rw [← hu.out, ← hz] at hst
      rw [← hu.out] at hbd
      rw [← hz] at hbe hc0 hc1
      obtain ⟨z1, z2⟩ := z
      dsimp only at hc0 hc1 hbe hst
      have HST : Hid (usedS (sl.take (j + 1)) = u + if 0 ≤ z2 then z1 else 0) := hst
      have hj0 : (0 : Int) ≤ (j : Int) := by omega
      have hj1 : (j : Int) < (n : Int) := by omega
      clear hz hb hst hu
      by_cases h2 : 0 ≤ z2
      · have hd : decide (z2 ≥ 0) = true := decide_eq_true h2
        have HE : Hid (usedS (sl.take (j + 1)) = u + z1) := by
          have : usedS (sl.take (j + 1)) = u + z1 := by rw [HST.out, if_pos h2]
          exact this
        clear HST
        go_wp2_with fail
        go_roundw
        case rel => exact ⟨j + 1, u + z1, by omega, by go_num, rfl, HE.out.symm, HB.out.trans ((below_new wr _).mono HB.out.size)⟩
        case measure => simp [intOf]; omega
      · have hd : decide (z2 ≥ 0) = false := decide_eq_false h2
        have HE : Hid (usedS (sl.take (j + 1)) = u) := by
          have : usedS (sl.take (j + 1)) = u := by rw [HST.out, if_neg h2, Int.add_zero]
          exact this
        clear HST
        go_wp2_with fail
        go_roundw
        case rel => exact ⟨j + 1, u, by omega, by go_num, rfl, HE.out.symm, HB.out.trans ((below_new wr _).mono HB.out.size)⟩
        case measure => simp [intOf]; omega
    · have ej : j = n := by omega
      subst ej
      clear hb
      go_wp2_with fail
      go_ret
      exact ⟨by rw [← HU.out, ← hu.out]; rfl, HB.out⟩
end Go.Proofs.YtaoamkbcegadcaaGreatDoor
