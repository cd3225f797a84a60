/- The walk of 'SpanLast'. (Printed by mk_span.py.) -/
import Derived.Test.YtmhfabekmgcjnaaDoorTc
namespace Go.Proofs.YtmhfabekmgcjnaaDoor
open Go.RowKit Go.Bx Go.Od Go.Hp Go.Sort
attribute [local go_sem ↓] Go.wp_at_zero Go.wp_at_succ
set_option linter.unusedVariables false

set_option maxRecDepth 4000 in
set_option maxHeartbeats 6400000 in
theorem spanLast_walk (nv : Value) (nds : List Nd) (out : Int) (on : Bool) (w : World) (ht : Tabs w) (hg : Gr w.heap.size w nv nds) :
    Calls Tryd.prog 5 #[.agg #[nv, .int .i64 out], .bool on] w (TPost w) := by
  obtain ⟨ga, gc, rfl⟩ := hg.isSl
  have hgl := hg.len_le
  have X := Box.new w [.slice ga nds.length gc, .int .i64 out] 24
  have hb1 := below_alloc w (.cells #[.slice ga nds.length gc, .int .i64 out] 24)
  have HG : Hid (Gr w.heap.size w (.slice ga nds.length gc) nds ∧ Tabs w) := ⟨hg, ht⟩
  clear hg ht
  go_enter Tryd.func5, Tryd.ntmps5
  go_wp2_with fail
  obtain ⟨W1, hW1⟩ : ∃ W, W = w.alloc (.cells #[.slice ga nds.length gc, .int .i64 out] 24) := ⟨_, rfl⟩
  rw [← hW1] at X hb1 ⊢
  clear hW1
  refine (awake17_c W1).mono ?_; rintro e w1 ⟨rfl, hb2⟩
  have H1 : Hid (Box w1 w.heap.size [.slice ga nds.length gc, .int .i64 out] ∧ Below w.heap.size w w1) := ⟨X.call hb2, hb1.trans (hb2.mono hb1.size)⟩
  clear X hb1 hb2
  have g0 := H1.out.1.cell 0 rfl
  have g1 := H1.out.1.cell 1 rfl
  go_wp2_with fail
  refine (right17_c w.heap.size _ nds out w1 (HG.out.2.below H1.out.2) (HG.out.1.below H1.out.2 (Nat.le_refl _)) H1.out.2.size).mono ?_; rintro e w2 ⟨rfl, hb3⟩
  have H2 : Hid (Box w2 w.heap.size [.slice ga nds.length gc, .int .i64 out] ∧ Below w.heap.size w w2) := ⟨H1.out.1.call hb3, H1.out.2.trans (hb3.mono H1.out.2.size)⟩
  clear g0 g1 hb3 H1
  have g0 := H2.out.1.cell 0 rfl
  have g1 := H2.out.1.cell 1 rfl
  obtain ⟨r, hr⟩ : ∃ r, r = rightB nds out := ⟨_, rfl⟩
  rw [← hr]
  cases r with
  | false =>
    clear hr
    go_wp2_with fail
    refine (awake17_c w2).mono ?_; rintro e w4 ⟨rfl, hb4⟩
    have HE : Hid (Below w.heap.size w w4) := H2.out.2.trans (hb4.mono H2.out.2.size)
    clear g0 g1 hb4
    go_wp2_with fail
    go_ret
    exact ⟨rfl, HE.out⟩
  | true =>
  have HGD : Hid (SGood nds out) := sgood_of hr.symm
  clear hr
  go_wp2_with fail
  refine (dgroups_c w.heap.size _ nds out on w2 HGD.out.toGood (HG.out.1.below H2.out.2 (Nat.le_refl _)) H2.out.2.size).mono ?_; rintro e w3 ⟨la, lc, lvs, rfl, hu3, hb3⟩
  have hnn := gL_len (nds := nds) (out := out) (on := on)
  have hnl : (grp nds out on).length ≤ 100 := grp_le HGD.out.toGood
  have hll : LL w3.heap.size w3 (.slice la (gL nds out on).length lc) (gL nds out on) := by
    rw [hnn]
    exact hu3.gi.ll fun g hg x hx => by
      obtain ⟨l, hl, rfl⟩ := List.mem_map.1 hg
      obtain ⟨a, ha, rfl⟩ := List.mem_map.1 hx
      obtain ⟨i, hi, rfl⟩ := List.mem_iff_getElem.1 hl
      have e : (grp nds out on)[i] = (grp nds out on).getD i [] := by simp [hi]
      rw [e] at ha
      have h1 := HGD.out.toGood.w_lt hi ha
      have h2 := HGD.out.few
      unfold In64
      omega
  have H3 : Hid (Box w3 w.heap.size [.slice ga nds.length gc, .int .i64 out] ∧ Below w.heap.size w w3 ∧ LL w3.heap.size w3 (.slice la (gL nds out on).length lc) (gL nds out on) ∧ Gr w3.heap.size w3 (.slice ga nds.length gc) nds) := ⟨H2.out.1.call hb3, H2.out.2.trans (hb3.mono H2.out.2.size), hll, (HG.out.1.below (H2.out.2.trans (hb3.mono H2.out.2.size)) (Nat.le_refl _)).mono (H2.out.2.trans (hb3.mono H2.out.2.size)).size⟩
  rw [← hnn] at hnl ⊢
  have HNN : Hid ((gL nds out on).length = (grp nds out on).length) := hnn
  have HOK : Hid (GrpOk nds (gL nds out on)) := HGD.out.ok
  clear g0 g1 hu3 hb3 hll H2 hnn
  have g0 := H3.out.1.cell 0 rfl
  have g1 := H3.out.1.cell 1 rfl
  go_wp2_with fail
  refine (until_c w3.heap.size _ _ nds out (gL nds out on) w3 HOK.out H3.out.2.2.2 H3.out.2.2.1 (Nat.le_refl _)).mono ?_; rintro e w4 ⟨U, hU, rfl, hbU, hb4⟩
  obtain ⟨n, hn⟩ : ∃ n, n = (gL nds out on).length := ⟨_, rfl⟩
  obtain ⟨u, hu⟩ : ∃ u, u = uN nds out on := ⟨_, rfl⟩
  have hue : unA ((gL nds out on).map (rdS nds)) (gL nds out on) out = u := hu.symm
  rw [hue] at hbU ⊢
  have hul : ((List.range (gL nds out on).length).map u).length = (gL nds out on).length := by simp
  rw [hul]
  have HFX : Hid (∀ W, Below w4.heap.size w4 W → Box W w.heap.size [.slice ga nds.length gc, .int .i64 out] ∧ LL w3.heap.size W (.slice la n lc) (gL nds out on) ∧ Box W U (((List.range n).map u).map (Value.int .i64)) ∧ Below w.heap.size w W) := fun W hb => by
    have h34 := hb4.trans (hb.mono hb4.size)
    rw [hn]
    exact ⟨H3.out.1.call h34, H3.out.2.2.1.below h34, hbU.call hb, H3.out.2.1.trans (h34.mono H3.out.2.1.size)⟩
  have HL : Hid (n = (gL nds out on).length ∧ u = uN nds out on ∧ n = (grp nds out on).length) := ⟨hn, hu, by rw [hn]; exact HNN.out⟩
  obtain ⟨r, hrn, hone⟩ := HGD.out.the_one (on := on)
  have HONE : Hid (r < n ∧ ∀ i, i < n → (lstI ((gL nds out on).getD i []) = out ↔ i = r)) := by rw [HL.out.2.2]; exact ⟨hrn, hone⟩
  rw [← hn] at hnl ⊢
  clear g0 g1 hU hbU hb4 hn hu hue hul hrn hone H3
  go_wp2_with fail
  go_loopw [7, 8] (fun nv iv wr => ∃ i : Nat, i ≤ n ∧ iv = .int .i64 i ∧ nv = .int .i64 (if r < i then 1 else 0) ∧ Below w4.heap.size w4 wr) (fun _ iv _ => n - (intOf iv).toNat)
  case atStart => exact ⟨0, Nat.zero_le _, rfl, rfl, Below.refl _ _⟩
  case round =>
    obtain ⟨i, hi, rfl, rfl, hb⟩ := hrel
    have HB : Hid (Below w4.heap.size w4 wr) := hb
    by_cases hin : i < n
    · have hF := HFX.out wr hb
      obtain ⟨b, o, c, x, y, hlv, hbB, c0, hsg⟩ := hF.2.1.at (i := i) (by rw [← HL.out.1]; exact hin)
      rw [← HL.out.1] at hlv
      simp only [Value.slice.injEq, true_and] at hlv
      obtain ⟨rfl, rfl⟩ := hlv
      obtain ⟨g, hg⟩ : ∃ g, g = (gL nds out on).getD i [] := ⟨_, rfl⟩
      have hgo := HOK.out.at (i := i) (by rw [← HL.out.1]; exact hin)
      rw [← hg] at c0 hsg hgo
      obtain ⟨m, hm⟩ : ∃ m, g.length = m + 1 := ⟨g.length - 1, by omega⟩
      have hm100 : m ≤ 100 := by omega
      rw [hm] at c0 hsg
      obtain ⟨gb, go, rfl, c1⟩ := sl_lastS hsg hm
      obtain ⟨z, hz⟩ : ∃ z, z = lstI g := ⟨_, rfl⟩
      rw [← hz] at c1
      have u0 := hF.2.2.1.cell i (show (((List.range n).map u).map (Value.int .i64))[i]? = some (.int .i64 (u i)) by simp [hin])
      obtain ⟨ui, hui⟩ : ∃ ui, ui = u i := ⟨_, rfl⟩
      rw [← hui] at u0
      have g1 := hF.1.cell 1 rfl
      have hUE : ui = n ↔ z = out := by
        rw [hui, HL.out.2.1, hz, hg, ← HGD.out.uN_end (on := on) (i := i) (by rw [← HL.out.2.2]; exact hin), HL.out.2.2]
      have hZR : z = out ↔ i = r := by rw [hz, hg]; exact HONE.out.2 i hin
      have hi0 : (0 : Int) ≤ (i : Int) := by omega
      have hi1 : (i : Int) < (n : Int) := by omega
      clear hsg hg hgo hm hz hb hF hui hbB
      by_cases hq : ui = n
      · have hzo := hUE.1 hq
        have hir := hZR.1 hzo
        subst hir
        have hq' : (ui == (n : Int)) = true := by simp [hq]
        have hz' : (z != out) = false := by simp [hzo]
        have k0 := fun s : Kept wr.heap.size wr => s.at c0
        have k1 := fun s : Kept wr.heap.size wr => s.at c1
        have k2 := fun s : Kept wr.heap.size wr => s.at g1
        have hif : (if i < i then (1 : Int) else 0) = 0 := by simp
        have hif2 : (if i < i + 1 then (1 : Int) else 0) = 1 := by simp
        rw [hif]
        clear hq hzo hUE hZR
        go_wp2_with fail
        clear c0 c1 g1 u0
        refine wp_region_kept wr.heap.size (by kernel_rfl) (by kernel_rfl) ?_
        repeat (go_big_quiet_step (fail))
        refine wpQuiet_nil ?_
        rintro _ ⟨s, rfl⟩
        have HE : Hid (Below w4.heap.size w4 s.w) := HB.out.trans (s.below.mono HB.out.size)
        clear k0 k1 k2
        go_wp2_with fail
        go_roundw
        case rel => exact ⟨i + 1, by omega, by go_num, by rw [hif2], HE.out⟩
        case measure => simp [intOf]; omega
      · have hq' : (ui == (n : Int)) = false := beq_eq_false_iff_ne.2 hq
        have hir : ¬ i = r := fun e => hq (hUE.2 (hZR.2 e))
        have hif : (if r < i + 1 then (1 : Int) else 0) = (if r < i then (1 : Int) else 0) := by
          have : (r < i + 1) = (r < i) := by apply propext; omega
          simp only [this]
        generalize (if r < i then (1 : Int) else 0) = cn at *
        clear hq hUE hZR hir c0 c1 g1
        go_wp2_with fail
        go_roundw
        case rel => exact ⟨i + 1, by omega, by go_num, by rw [hif], HB.out⟩
        case measure => simp [intOf]; omega
    · have ei : i = n := by omega
      subst ei
      have hif : (if r < i then (1 : Int) else 0) = 1 := by rw [if_pos HONE.out.1]
      rw [hif]
      have HE : Hid (Below w.heap.size w wr) := (HFX.out wr hb).2.2.2
      clear hb hif
      go_wp2_with fail
      go_ret
      exact ⟨rfl, HE.out⟩
/-! ### the law -/
section
open Go.ChangeShapes Go.WideShapes Go.ChangeAt
variable {H : Type} {enc : TypeId × Value → H} {W : World} {base : Nat}
theorem spanLast.spanLast_law (W : World) (ht : Tabs W) {v0 v1 : Value} {d0 d1 : DataW H} {p0 p1 : List MemPlace}
    (h0 : DataW.Trod enc Tryd.prog W 0 (fun _ => true) true 24 v0 d0 p0) (h1 : DataW.Trod enc Tryd.prog W 0 (fun _ => true) true 4 v1 d1 p1)
    (k0 : Value.okWide Tryd.prog W .any base 24 v0) (k1 : Value.okWide Tryd.prog W .any base 4 v1) :
    Calls Tryd.prog 5 #[v0, v1] W (TPost W) := by
  obtain ⟨nv, out, nds, rfl, hg, hout⟩ := graph_arg h0 k0
  obtain ⟨b, rfl⟩ := okWide_bool Tryd.underlying4 k1
  exact spanLast_walk nv nds out b W ht hg
end
end Go.Proofs.YtmhfabekmgcjnaaDoor
