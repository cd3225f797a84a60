/- The walk of 'SpanKeeps'. (Printed by mk_span.py.) -/
import Derived.Test.YtmhfabekmgcjnaaDoorTc
namespace Go.Proofs.YtmhfabekmgcjnaaDoor
open Go.RowKit Go.Bx Go.Od Go.Hp Go.Sort
attribute [local go_sem ↓] Go.wp_at_zero Go.wp_at_succ
set_option linter.unusedVariables false

/-- a number of a row of one's own is there, and may be written -/
theorem row_spot {w : World} {B : Nat} {a : Option Addr} {n c : Nat} {xs : List Int} (h : OwnP w B (.slice a n c) xs) {j : Nat} (hj : j < xs.length) : ∃ g, a = some ⟨g, 0, none⟩ ∧ B ≤ g ∧ w.cell? ⟨g, j, none⟩ = some (.int .i64 (xs.getD j 0)) ∧ w.frozen? ⟨g, j, none⟩ = false := by
  rcases h.form with ⟨_, h'⟩ | ⟨g, cap, h1, hB, _, _, _, _, hf, hc⟩
  · rw [h'] at hj; simp at hj
  · simp only [Value.slice.injEq] at h1
    obtain ⟨rfl, _, _⟩ := h1
    exact ⟨g, rfl, hB, hc j hj, hf j⟩
/-- groups while they are written over -/
def GZ (B : Nat) (G : List (List Int)) (ov : Value) (vs : List Value) (W : World) : Prop :=
  W.ownsRow B 31 1 ov G.length vs ∧ ∀ r, r < G.length → ∃ xs : List Int, xs.length = (G.getD r []).length ∧ OwnP W B (vs.getD r undef) xs
theorem GI.gz {B : Nat} {G : List (List Int)} {ov : Value} {vs : List Value} {W : World} (h : GI B G ov vs W) : GZ B G ov vs W := ⟨h.own, fun r hr => ⟨_, rfl, h.inner r hr⟩⟩
theorem row_set_ne {w : World} {B s n : Nat} {e : TypeId} {v : Value} {xs : List Value} (h : w.ownsRow B e s v n xs) {p : Addr} (hp : v.ownBlock ≠ some p.block) (u : Value) : (w.setCell p u).ownsRow B e s v n xs := by
  refine ⟨h.1, ?_⟩
  rcases h.2 with hn | ⟨g, cap, cur, rfl, hB, hb, rest⟩
  · exact .inl hn
  · refine .inr ⟨g, cap, cur, rfl, hB, ?_, rest⟩
    rw [Below.heap_setCell _ _ _ _ fun e => hp (by rw [← e]; rfl)]
    exact hb
theorem GZ.row {B : Nat} {G : List (List Int)} {a : Option Addr} {n c : Nat} {vs : List Value} {W : World} (h : GZ B G (.slice a n c) vs W) (hn : n = G.length) {r : Nat} (hr : r < n) : ∃ g x y, a = some ⟨g, 0, none⟩ ∧ W.cell? ⟨g, r, none⟩ = some (.slice x (G.getD r []).length y) ∧ vs.getD r undef = .slice x (G.getD r []).length y ∧ ∃ xs : List Int, xs.length = (G.getD r []).length ∧ OwnP W B (.slice x (G.getD r []).length y) xs := by
  subst hn
  obtain ⟨xs, hx, ho⟩ := h.2 r hr
  obtain ⟨x, y, hv⟩ := own_slv ho
  rw [hx] at hv
  rcases h.1.2 with ⟨_, h0⟩ | ⟨g, cap, cur, he, _⟩
  · omega
  · cases he
    refine ⟨g, x, y, rfl, ?_, hv, xs, hx, hv ▸ ho⟩
    have h2 := World.ownsRow.cellAt h.1 r (by omega)
    rw [h2, ← hv]
    have := h.1.1
    have hlr : r < vs.length := by omega
    simp [hlr]
theorem GZ.store {B : Nat} {G : List (List Int)} {ov : Value} {vs : List Value} {W : World} (h : GZ B G ov vs W) {i g k n c : Nat} {xs : List Int} (hi : OwnP W B (.slice (some ⟨g, 0, none⟩) n c) xs) (x : Int) : GZ B G ov vs (W.setCell ⟨g, k, none⟩ (.int .i64 x)) := by
  refine ⟨row_set_ne h.1 (p := ⟨g, k, none⟩) (rows_apart hi h.1 (by decide) rfl) _, fun r hr => ?_⟩
  obtain ⟨ys, hy, ho⟩ := h.2 r hr
  by_cases e : (vs.getD r undef).ownBlock = some g
  · obtain ⟨a, c', hv⟩ := own_slv ho
    rw [hv] at ho e ⊢
    rcases ho.form with ⟨ha, _⟩ | ⟨g', cap, ha, _⟩
    · rw [ha] at e; cases e
    · rw [ha] at e ho ⊢
      simp [Value.ownBlock] at e
      subst e
      exact ⟨ys.set k x, by rw [List.length_set]; exact hy, OwnP.stored rfl ho k x⟩
  · exact ⟨ys, hy, row_set_ne ho (p := ⟨g, k, none⟩) e _⟩
set_option maxRecDepth 4000 in
set_option maxHeartbeats 6400000 in
theorem spanKeeps_walk (nv : Value) (nds : List Nd) (out : Int) (w : World) (ht : Tabs w) (hg : Gr w.heap.size w nv nds) :
    Calls Tryd.prog 6 #[.agg #[nv, .int .i64 out]] w (TPost w) := by
  obtain ⟨ga, gc, rfl⟩ := hg.isSl
  have hgl := hg.len_le
  have X := Box.new w [.slice ga nds.length gc, .int .i64 out] 24
  have hb1 := below_alloc w (.cells #[.slice ga nds.length gc, .int .i64 out] 24)
  have HG : Hid (Gr w.heap.size w (.slice ga nds.length gc) nds ∧ Tabs w) := ⟨hg, ht⟩
  clear hg ht
  go_enter Tryd.func6, Tryd.ntmps6
  go_wp2_with fail
  obtain ⟨W1, hW1⟩ : ∃ W, W = w.alloc (.cells #[.slice ga nds.length gc, .int .i64 out] 24) := ⟨_, rfl⟩
  rw [← hW1] at X hb1 ⊢
  clear hW1
  refine (awake17_c W1).mono ?_; rintro e w1 ⟨rfl, hb2⟩
  have H1 : Hid (Box w1 w.heap.size [.slice ga nds.length gc, .int .i64 out] ∧ Below w.heap.size w w1) := ⟨X.call hb2, hb1.trans (hb2.mono hb1.size)⟩
  clear X hb1 hb2
  have g0 := H1.out.1.cell 0 rfl
  have g1 := H1.out.1.cell 1 rfl
  go_wp2_with fail
  refine (right17_c w.heap.size _ nds out w1 (HG.out.2.below H1.out.2) (HG.out.1.below H1.out.2 (Nat.le_refl _)) H1.out.2.size).mono ?_; rintro e w2 ⟨rfl, hb3⟩
  have H2 : Hid (Box w2 w.heap.size [.slice ga nds.length gc, .int .i64 out] ∧ Below w.heap.size w w2) := ⟨H1.out.1.call hb3, H1.out.2.trans (hb3.mono H1.out.2.size)⟩
  clear g0 g1 hb3 H1
  have g0 := H2.out.1.cell 0 rfl
  have g1 := H2.out.1.cell 1 rfl
  obtain ⟨r, hr⟩ : ∃ r, r = rightB nds out := ⟨_, rfl⟩
  rw [← hr]
  cases r with
  | false =>
    clear hr
    go_wp2_with fail
    refine (awake17_c w2).mono ?_; rintro e w4 ⟨rfl, hb4⟩
    have HE : Hid (Below w.heap.size w w4) := H2.out.2.trans (hb4.mono H2.out.2.size)
    clear g0 g1 hb4
    go_wp2_with fail
    go_ret
    exact ⟨rfl, HE.out⟩
  | true =>
  have HGD : Hid (SGood nds out) := sgood_of hr.symm
  have HCHK : Hid (chkB nds out = 0) := by
    have hr' := hr.symm
    unfold rightB at hr'
    rw [Bool.and_eq_true] at hr'
    have : chkB nds out = 0 := eq_of_beq hr'.2
    exact this
  clear hr
  go_wp2_with fail
  refine (dgroups_c w.heap.size _ nds out true w2 HGD.out.toGood (HG.out.1.below H2.out.2 (Nat.le_refl _)) H2.out.2.size).mono ?_; rintro e w3 ⟨la, lc, lvs, rfl, hu3, hb3⟩
  have hnn := gL_len (nds := nds) (out := out) (on := true)
  have hnl : (grp nds out true).length ≤ 100 := grp_le HGD.out.toGood
  have hll : LL w3.heap.size w3 (.slice la (gL nds out true).length lc) (gL nds out true) := by
    rw [hnn]
    exact hu3.gi.ll fun g hg x hx => by
      obtain ⟨l, hl, rfl⟩ := List.mem_map.1 hg
      obtain ⟨a, ha, rfl⟩ := List.mem_map.1 hx
      obtain ⟨i, hi, rfl⟩ := List.mem_iff_getElem.1 hl
      have e : (grp nds out true)[i] = (grp nds out true).getD i [] := by simp [hi]
      rw [e] at ha
      have h1 := HGD.out.toGood.w_lt hi ha
      have h2 := HGD.out.few
      unfold In64
      omega
  have H3 : Hid (Box w3 w.heap.size [.slice ga nds.length gc, .int .i64 out] ∧ Below w.heap.size w w3 ∧ LL w3.heap.size w3 (.slice la (gL nds out true).length lc) (gL nds out true) ∧ Gr w3.heap.size w3 (.slice ga nds.length gc) nds) := ⟨H2.out.1.call hb3, H2.out.2.trans (hb3.mono H2.out.2.size), hll, (HG.out.1.below (H2.out.2.trans (hb3.mono H2.out.2.size)) (Nat.le_refl _)).mono (H2.out.2.trans (hb3.mono H2.out.2.size)).size⟩
  rw [← hnn] at hnl ⊢
  have HNN : Hid ((gL nds out true).length = (grp nds out true).length) := hnn
  have HOK : Hid (GrpOk nds (gL nds out true)) := HGD.out.ok
  clear g0 g1 hu3 hb3 hll H2 hnn
  have g0 := H3.out.1.cell 0 rfl
  have g1 := H3.out.1.cell 1 rfl
  go_wp2_with fail
  refine (readsG_c w3.heap.size _ _ nds out (gL nds out true) w3 HOK.out H3.out.2.2.2 H3.out.2.2.1 (Nat.le_refl _)).mono ?_; rintro e w4 ⟨ra, rc, rvs, rfl, hR, hb4⟩
  obtain ⟨R, hRe⟩ : ∃ R, R = (gL nds out true).map (rdS nds) := ⟨_, rfl⟩
  have hRl : ∀ g ∈ R, g.length ≤ 101 := fun g hg => by
    rw [hRe] at hg
    obtain ⟨g', _, rfl⟩ := List.mem_map.1 hg
    rw [← rfR_eq (fun k _ x hx => HGD.out.rng _ x hx)]
    have := rfR_len nds g' (nds.length + 1)
    have := HGD.out.few
    omega
  have hRn : R.length = (gL nds out true).length := by rw [hRe]; simp
  rw [← hRe] at hR ⊢
  obtain ⟨n, hn⟩ : ∃ n, n = (gL nds out true).length := ⟨_, rfl⟩
  obtain ⟨m8, hm8⟩ : ∃ m, m = R.length := ⟨_, rfl⟩
  have hm8l : m8 ≤ 100 := by omega
  have HM8 : Hid (m8 = R.length ∧ ∀ i, i < m8 → (R.getD i []).length ≤ 101) := ⟨hm8, fun i hi => hRl _ (List.mem_of_getElem? (show R[i]? = some (R.getD i []) by simp [show i < R.length by omega]))⟩
  rw [← hm8] at hR ⊢
  have H4 : Hid (Below w3.heap.size w3 w4 ∧ GZ w3.heap.size R (.slice ra m8 rc) rvs w4) := ⟨hb4, hR.gz⟩
  have HFX : Hid (∀ W, Below w3.heap.size w3 W → Box W w.heap.size [.slice ga nds.length gc, .int .i64 out] ∧ LL w3.heap.size W (.slice la n lc) (gL nds out true) ∧ Below w.heap.size w W ∧ Gr w.heap.size W (.slice ga nds.length gc) nds ∧ w.heap.size ≤ W.heap.size) := fun W hb => by
    have hbw := H3.out.2.1.trans (hb.mono H3.out.2.1.size)
    rw [hn]
    exact ⟨H3.out.1.call hb, H3.out.2.2.1.below hb, hbw, HG.out.1.below hbw (Nat.le_refl _), hbw.size⟩
  have HL : Hid (n = (gL nds out true).length ∧ n = (grp nds out true).length) := ⟨hn, by rw [hn]; exact HNN.out⟩
  rw [← hn] at hnl ⊢
  clear g0 g1 hR hb4 hRe hRl hRn hn hm8 H3
  go_wp2_with fail
  go_loopw [5] (fun iv W => ∃ i : Nat, i ≤ m8 ∧ iv = .int .i64 i ∧ Below w3.heap.size w3 W ∧ GZ w3.heap.size R (.slice ra m8 rc) rvs W) (fun iv _ => m8 - (intOf iv).toNat)
  case atStart => exact ⟨0, Nat.zero_le _, rfl, H4.out⟩
  case round =>
    obtain ⟨i, hi3, rfl, hbi, hz⟩ := hrel
    clear H4
    by_cases hil3 : i < m8
    · obtain ⟨L, hL⟩ : ∃ L, L = (R.getD i []).length := ⟨_, rfl⟩
      have HLL : Hid (L = (R.getD i []).length) := hL
      have hL100 : L ≤ 101 := by rw [hL]; exact HM8.out.2 i hil3
      have hi0 : (0 : Int) ≤ (i : Int) := by omega
      have hi1 : (i : Int) < (m8 : Int) := by omega
      have H7 : Hid (Below w3.heap.size w3 wr ∧ GZ w3.heap.size R (.slice ra m8 rc) rvs wr) := ⟨hbi, hz⟩
      clear hbi hz hL
      go_wp2_with fail
      go_loopw [6] (fun kv W => ∃ k : Nat, k ≤ L ∧ kv = .int .i64 k ∧ Below w3.heap.size w3 W ∧ GZ w3.heap.size R (.slice ra m8 rc) rvs W) (fun kv _ => L - (intOf kv).toNat)
      case atStart => exact ⟨0, Nat.zero_le _, rfl, H7.out⟩
      case round =>
        obtain ⟨k, hk, rfl, hbi, hz⟩ := hrel
        clear H7
        obtain ⟨o3, x3, y3, rfl, c0, _, xs, hxl, ho⟩ := hz.row HM8.out.1 hil3
        rw [← HLL.out] at c0 hxl ho
        by_cases hkl : k < L
        · obtain ⟨g, rfl, hgB, c1, f1⟩ := row_spot ho (j := k) (by omega)
          have HE : Hid (Below w3.heap.size w3 (wr.setCell ⟨g, k, none⟩ (.int .i64 (-7))) ∧ GZ w3.heap.size R (.slice (some ⟨o3, 0, none⟩) m8 rc) rvs (wr.setCell ⟨g, k, none⟩ (.int .i64 (-7)))) := ⟨hbi.setCell hgB _, hz.store (i := 0) ho (-7)⟩
          clear hbi hz ho hxl
          go_wp2_with fail
          go_roundw
          case rel => exact ⟨k + 1, by omega, by go_num, HE.out⟩
          case measure => simp [intOf]; omega
        · have HE : Hid (Below w3.heap.size w3 wr ∧ GZ w3.heap.size R (.slice (some ⟨o3, 0, none⟩) m8 rc) rvs wr) := ⟨hbi, hz⟩
          have ekl : k = L := by omega
          clear hbi hz ho hxl
          go_wp2_with fail
          go_roundw
          case rel => exact ⟨i + 1, by omega, by go_num, HE.out⟩
          case measure => simp [intOf]; omega
    · have ei : i = m8 := by omega
      subst ei
      rename World => w5
      have HB5 : Hid (Below w3.heap.size w3 w5) := hbi
      have g0 := (HFX.out w5 hbi).1.cell 0 rfl
      have g1 := (HFX.out w5 hbi).1.cell 1 rfl
      clear hbi hz
      go_wp2_with fail
      refine (dgroups_c w.heap.size _ nds out true w5 HGD.out.toGood (HFX.out w5 HB5.out).2.2.2.1 (HFX.out w5 HB5.out).2.2.2.2).mono ?_; rintro e w6 ⟨pa, pc, pvs, rfl, hu6, hb6⟩
      have hll6 : LL w6.heap.size w6 (.slice pa n pc) (gL nds out true) := by
        rw [HL.out.2, ← HNN.out]
        rw [← HNN.out] at hu6
        exact hu6.gi.ll fun g hg x hx => by
          obtain ⟨l, hl, rfl⟩ := List.mem_map.1 hg
          obtain ⟨a, ha, rfl⟩ := List.mem_map.1 hx
          obtain ⟨i, hi, rfl⟩ := List.mem_iff_getElem.1 hl
          have e : (grp nds out true)[i] = (grp nds out true).getD i [] := by simp [hi]
          rw [e] at ha
          have h1 := HGD.out.toGood.w_lt hi ha
          have h2 := HGD.out.few
          unfold In64
          omega
      have HFY : Hid (∀ W, Below w6.heap.size w6 W → Below w3.heap.size w3 W ∧ LL w6.heap.size W (.slice pa n pc) (gL nds out true)) := fun W hb => ⟨(HB5.out.trans (hb6.mono HB5.out.size)).trans (hb.mono (Nat.le_trans HB5.out.size hb6.size)), hll6.below hb⟩
      have H36 : Hid (w3.heap.size ≤ w6.heap.size) := Nat.le_trans HB5.out.size hb6.size
      rw [← HL.out.2]
      clear g0 g1 hu6 hb6 hll6
      go_wp2_with fail
      go_loopw [8] (fun iv wr => ∃ i : Nat, i ≤ n ∧ iv = .int .i64 i ∧ Below w6.heap.size w6 wr) (fun iv _ => n - (intOf iv).toNat)
      case atStart => exact ⟨0, Nat.zero_le _, rfl, Below.refl _ _⟩
      case round =>
        obtain ⟨j, hj, rfl, hb⟩ := hrel
        have HB : Hid (Below w6.heap.size w6 wr) := hb
        by_cases hjn : j < n
        · have hF := HFY.out wr hb
          obtain ⟨b, o, c, x, y, hlv, hbB, c0, s0⟩ := (HFX.out wr hF.1).2.1.at (i := j) (by rw [← HL.out.1]; exact hjn)
          rw [← HL.out.1] at hlv
          simp only [Value.slice.injEq, true_and] at hlv
          obtain ⟨rfl, rfl⟩ := hlv
          obtain ⟨b2, o2, c2, x2, y2, hlv, hbB2, c02, s02⟩ := hF.2.at (i := j) (by rw [← HL.out.1]; exact hjn)
          rw [← HL.out.1] at hlv
          simp only [Value.slice.injEq, true_and] at hlv
          obtain ⟨rfl, rfl⟩ := hlv
          obtain ⟨q, hq⟩ : ∃ q, q = ((gL nds out true).getD j []).length := ⟨_, rfl⟩
          rw [← hq] at c0 s0 c02 s02
          have HA : Hid (∀ s : Kept wr.heap.size wr, Calls Tryd.prog 12 #[.slice x q y, .slice x2 q y2] s.w (PPost s.w (.bool true))) := fun s => by
            have := equal_c _ _ _ _ s.w (sl_below s0 (s.below.mono (Nat.le_trans H36.out hb.size))) (sl_below s02 (s.below.mono hb.size))
            rw [decide_eq_true rfl] at this
            exact this
          have k0 := fun s : Kept wr.heap.size wr => s.at c0
          have k1 := fun s : Kept wr.heap.size wr => s.at c02
          have hi0 : (0 : Int) ≤ (j : Int) := by omega
          have hi1 : (j : Int) < (n : Int) := by omega
          clear s0 s02 hF hq hbB hbB2 hb
          go_wp2_with fail
          clear c0 c02
          refine wp_region_kept wr.heap.size (by kernel_rfl) (by kernel_rfl) ?_
          repeat (go_big_quiet_step (first | (go_at_call 12; with_reducible exact Calls.kept _ (Nat.le_refl _) (HA.out _))))
          refine wpQuiet_nil ?_
          rintro _ ⟨s, rfl⟩
          have HE : Hid (Below w6.heap.size w6 s.w) := HB.out.trans (s.below.mono HB.out.size)
          clear k0 k1 HA
          go_wp2_with fail
          go_roundw
          case rel => exact ⟨j + 1, by omega, by go_num, HE.out⟩
          case measure => simp [intOf]; omega
        · have ej : j = n := by omega
          subst ej
          have hF := HFX.out wr (HFY.out wr hb).1
          have g0 := hF.1.cell 0 rfl
          have g1 := hF.1.cell 1 rfl
          have hck := check_c w.heap.size _ nds out wr (by have := HGD.out.few; omega) HGD.out.short (HG.out.2.below hF.2.2.1) hF.2.2.2.1 hF.2.2.2.2
          rw [HCHK.out] at hck
          have HBW : Hid (Below w.heap.size w wr) := hF.2.2.1
          clear hF hb
          go_wp2_with fail
          refine hck.mono ?_; rintro e w9 ⟨rfl, hb9⟩
          have HE : Hid (Below w.heap.size w w9) := HBW.out.trans (hb9.mono HBW.out.size)
          clear g0 g1 hck hb9
          go_wp2_with fail
          go_ret
          exact ⟨rfl, HE.out⟩
/-! ### the law -/
section
open Go.ChangeShapes Go.WideShapes Go.ChangeAt
variable {H : Type} {enc : TypeId × Value → H} {W : World} {base : Nat}
theorem spanKeeps.spanKeeps_law (W : World) (ht : Tabs W) {v0 : Value} {d0 : DataW H} {p0 : List MemPlace}
    (h0 : DataW.Trod enc Tryd.prog W 0 (fun _ => true) true 24 v0 d0 p0) (k0 : Value.okWide Tryd.prog W .any base 24 v0) :
    Calls Tryd.prog 6 #[v0] W (TPost W) := by
  obtain ⟨nv, out, nds, rfl, hg, hout⟩ := graph_arg h0 k0
  exact spanKeeps_walk nv nds out W ht hg
end
end Go.Proofs.YtmhfabekmgcjnaaDoor
