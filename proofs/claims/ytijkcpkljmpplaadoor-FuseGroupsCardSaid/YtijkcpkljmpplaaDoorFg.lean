/- The walk of 'FuseGroups'. -/
import Derived.Test.YtijkcpkljmpplaaDoorAw
namespace Go.Proofs.YtijkcpkljmpplaaDoor
open Go.RowKit Go.Bx Go.Od Go.Hp
attribute [local go_sem ↓] Go.wp_at_zero Go.wp_at_succ
set_option linter.unusedVariables false

theorem grp_at {nds : List Nd} {out : Int} {on : Bool} {r : Nat} (hr : r < (grp nds out on).length) : ∃ l, l ∈ ord (insOf nds) ∧ (grp nds out on).getD r [] = (ord (insOf nds)).filter (pR nds out on l) ∧ 0 < ((grp nds out on).getD r []).length := by
  have h : (grp nds out on).getD r [] ∈ grp nds out on := by
    have : (grp nds out on)[r]? = some ((grp nds out on).getD r []) := by simp [hr]
    exact List.mem_of_getElem? this
  obtain ⟨g, hg⟩ : ∃ g, g = (grp nds out on).getD r [] := ⟨_, rfl⟩
  rw [← hg] at h ⊢
  unfold grp gsP at h
  rw [List.take_length, List.mem_filter] at h
  obtain ⟨h1, h2⟩ := h
  obtain ⟨l, hl, e⟩ := List.mem_map.1 h1
  exact ⟨l, hl, e.symm, by simpa using h2⟩
theorem grp_lt {nds : List Nd} {out : Int} {on : Bool} {r k : Nat} (hr : r < (grp nds out on).length) (hk : k ∈ (grp nds out on).getD r []) : k < nds.length := by
  obtain ⟨l, _, e, _⟩ := grp_at hr
  rw [e] at hk
  exact ord_lt (List.mem_filter.1 hk).1
theorem grp_len {nds : List Nd} {out : Int} {on : Bool} : (grp nds out on).length ≤ nds.length := by
  have h1 := gsP_len (pR nds out on) (ord (insOf nds)) (ord (insOf nds)).length
  have h2 := ord_len (insOf nds)
  rw [insOf_len] at h2
  unfold grp
  omega
theorem GU.grow {B C : Nat} {G : List (List Nat)} {ov : Value} {vs : List Value} {W W' : World} (h : GU B G ov vs W) (hb : Below W.heap.size W W') : GU B G ov vs W' := h.call hb
set_option maxRecDepth 4000 in
set_option maxHeartbeats 3200000 in
theorem fuseGroups_walk (nv : Value) (nds : List Nd) (out : Int) (on : Bool) (w : World) (ht : Tabs w) (hg : Gr w.heap.size w nv nds) :
    Calls Tryd.prog 3 #[.agg #[nv, .int .i64 out], .bool on] w (TPost w) := by
  have HG : Hid (Gr w.heap.size w nv nds ∧ Tabs w) := ⟨hg, ht⟩
  obtain ⟨ga, gc, rfl⟩ := hg.isSl
  clear hg ht
  go_enter Tryd.func3, Tryd.ntmps3
  go_wp2_with fail
  have X := Box.new w [.slice ga nds.length gc, .int .i64 out] 24
  have hb1 := below_alloc w (.cells #[.slice ga nds.length gc, .int .i64 out] 24)
  obtain ⟨W1, hW1⟩ : ∃ W, W = w.alloc (.cells #[.slice ga nds.length gc, .int .i64 out] 24) := ⟨_, rfl⟩
  rw [← hW1] at X hb1 ⊢
  clear hW1
  refine (awake16_c W1).mono ?_; rintro e w2 ⟨rfl, hb2⟩
  have H2 : Hid (Box w2 w.heap.size [.slice ga nds.length gc, .int .i64 out] ∧ Below w.heap.size w w2) := ⟨X.call hb2, hb1.trans (hb2.mono hb1.size)⟩
  clear X hb1 hb2
  have g0 := H2.out.1.cell 0 rfl
  have g1 := H2.out.1.cell 1 rfl
  go_wp2_with fail
  refine (right16_c w.heap.size _ nds out w2 (HG.out.2.below H2.out.2) (HG.out.1.below H2.out.2 (Nat.le_refl _)) H2.out.2.size).mono ?_; rintro e w3 ⟨rfl, hb3⟩
  have H3 : Hid (Box w3 w.heap.size [.slice ga nds.length gc, .int .i64 out] ∧ Below w.heap.size w w3) := ⟨H2.out.1.call hb3, H2.out.2.trans (hb3.mono H2.out.2.size)⟩
  clear g0 g1 hb3 H2
  obtain ⟨r, hr⟩ : ∃ r, r = rightB nds out := ⟨_, rfl⟩
  rw [← hr]
  cases r with
  | false =>
    go_wp2_with fail
    refine (awake16_c w3).mono ?_; rintro e w4 ⟨rfl, hb4⟩
    have HE : Hid (Below w.heap.size w w4) := H3.out.2.trans (hb4.mono H3.out.2.size)
    go_wp2_with fail
    go_ret
    exact ⟨rfl, HE.out⟩
  | true =>
    have hgood := good_of hr.symm
    have HGD : Hid (Good nds out) := hgood
    have g0 := H3.out.1.cell 0 rfl
    have g1 := H3.out.1.cell 1 rfl
    clear hr hgood
    go_wp2_with fail
    refine (fgroups_c w.heap.size _ nds out on w3 HGD.out (HG.out.1.below H3.out.2 (Nat.le_refl _)) H3.out.2.size).mono ?_; rintro e w4 ⟨a4, c4, vs4, rfl, hu4, hb4⟩
    have H4 : Hid (Box w4 w.heap.size [.slice ga nds.length gc, .int .i64 out] ∧ Below w.heap.size w w4 ∧ GU w3.heap.size (grp nds out on) (.slice a4 (grp nds out on).length c4) vs4 w4) := ⟨H3.out.1.call hb4, H3.out.2.trans (hb4.mono H3.out.2.size), hu4⟩
    clear g0 g1 hb4 hu4 H3
    have g0 := H4.out.1.cell 0 rfl
    have g1 := H4.out.1.cell 1 rfl
    go_wp2_with fail
    refine (dgroups_c w.heap.size _ nds out on w4 HGD.out (HG.out.1.below H4.out.2.1 (Nat.le_refl _)) H4.out.2.1.size).mono ?_; rintro e w5 ⟨a5, c5, vs5, rfl, hu5, hb5⟩
    have H5 : Hid (Below w.heap.size w w5 ∧ GU w3.heap.size (grp nds out on) (.slice a4 (grp nds out on).length c4) vs4 w5 ∧ GU w4.heap.size (grp nds out on) (.slice a5 (grp nds out on).length c5) vs5 w5) := ⟨H4.out.2.1.trans (hb5.mono H4.out.2.1.size), H4.out.2.2.call hb5, hu5⟩
    have hgl : (grp nds out on).length ≤ 100 := Nat.le_trans grp_len HGD.out.few
    have HLT : Hid (∀ r, r < (grp nds out on).length → ∀ k ∈ (grp nds out on).getD r [], k < 1000) := fun r hr k hk => by have := grp_lt hr hk; have := HGD.out.few; omega
    clear g0 g1 hb5 hu5 H4
    generalize grp nds out on = G at *
    go_wp2_with fail
    go_loopw [7] (fun iv wr => ∃ i : Nat, i ≤ G.length ∧ iv = .int .i64 i ∧ Below w5.heap.size w5 wr) (fun iv _ => G.length - (intOf iv).toNat)
    case atStart => exact ⟨0, Nat.zero_le _, rfl, Below.refl _ _⟩
    case round =>
      obtain ⟨i, hi, rfl, hb⟩ := hrel
      have HB : Hid (Below w5.heap.size w5 wr) := hb
      by_cases hil : i < G.length
      · obtain ⟨o4, x4, y4, e4, c1, ow4⟩ := (H5.out.2.1.call hb).at rfl hil
        obtain ⟨o5, x5, y5, e5, c2, ow5⟩ := (H5.out.2.2.call hb).at rfl hil
        subst e4
        subst e5
        have k1 := fun s : Kept wr.heap.size wr => s.at c1
        have k2 := fun s : Kept wr.heap.size wr => s.at c2
        obtain ⟨L, hL⟩ : ∃ L, L = G.getD i [] := ⟨_, rfl⟩
        rw [← hL] at k1 k2 ow4 ow5
        have HA : Hid (∀ s : Kept wr.heap.size wr, Calls Tryd.prog 11 #[.slice x4 L.length y4, .slice x5 L.length y5] s.w (PPost s.w (.bool true))) := fun s => by
          have hlt : ∀ k ∈ L, k < 1000 := by rw [hL]; exact HLT.out i hil
          have h := equal_c _ _ (ofN L) (ofN L) s.w (own_sl_int (ow4.below s.below) hlt) (own_sl_int (ow5.below s.below) hlt)
          rw [decide_eq_true rfl] at h
          exact h
        have hi0 : (0 : Int) ≤ (i : Int) := by omega
        have hi1 : (i : Int) < (G.length : Int) := by omega
        clear c1 c2 ow4 ow5 hb hL
        go_wp2_with fail
        refine wp_region_kept wr.heap.size (by kernel_rfl) (by kernel_rfl) ?_
        repeat (go_big_quiet_step (first | (go_at_call 11; with_reducible exact Calls.kept _ (Nat.le_refl _) (HA.out _))))
        refine wpQuiet_nil ?_
        rintro _ ⟨s, rfl⟩
        have HE : Hid (Below w5.heap.size w5 s.w) := HB.out.trans (s.below.mono HB.out.size)
        clear k1 k2 HA
        go_wp2_with fail
        go_roundw
        case rel => exact ⟨i + 1, by omega, by go_num, HE.out⟩
        case measure => simp [intOf]; omega
      · have ei : i = G.length := by omega
        subst ei
        have HE : Hid (Below w.heap.size w wr) := H5.out.1.trans (hb.mono H5.out.1.size)
        clear hb
        go_wp2_with fail
        go_ret
        exact ⟨rfl, HE.out⟩
end Go.Proofs.YtijkcpkljmpplaaDoor
