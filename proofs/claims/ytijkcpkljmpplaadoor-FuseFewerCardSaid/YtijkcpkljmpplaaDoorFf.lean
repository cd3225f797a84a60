/- The walk of 'FuseFewer'. -/
import Derived.Test.YtijkcpkljmpplaaDoorAw
import Derived.Test.YtijkcpkljmpplaaDoorPm
namespace Go.Proofs.YtijkcpkljmpplaaDoor
open Go.RowKit Go.Bx Go.Od Go.Hp
attribute [local go_sem ↓] Go.wp_at_zero Go.wp_at_succ
set_option linter.unusedVariables false

/-- a row's last cell -/
theorem own_last {W : World} {B : Nat} {a : Option Addr} {c m : Nat} {l : List Nat} (h : OwnP W B (.slice a (m + 1) c) (ofN l)) (hl : l.length = m + 1) : ∃ g, a = some ⟨g, 0, none⟩ ∧ W.cell? ⟨g, m, none⟩ = some (.int .i64 (lastN l : Nat)) := by
  rcases h.form with ⟨h', h2⟩ | ⟨g, cap, h1, _, _, _, _, _, _, h5⟩
  · cases h'
  · rw [ofN_len] at h1 h5
    rw [hl] at h1
    cases h1
    refine ⟨g, rfl, ?_⟩
    rw [h5 m (by omega)]
    have e : l[m]? = some (lastN l) := by
      unfold lastN
      rw [List.getLastD_eq_getLast?, List.getLast?_eq_getElem?, hl]
      have : l[m]? = some l[m] := List.getElem?_eq_getElem (by omega)
      simp [this]
    unfold ofN
    simp [e]
theorem grp_pos {nds : List Nd} {out : Int} {on : Bool} {r : Nat} (hr : r < (grp nds out on).length) : 0 < ((grp nds out on).getD r []).length := by
  have h : (grp nds out on).getD r [] ∈ grp nds out on := by
    have : (grp nds out on)[r]? = some ((grp nds out on).getD r []) := by simp [hr]
    exact List.mem_of_getElem? this
  exact (grp_mem.1 h).1
theorem grp_lenN {nds : List Nd} {out : Int} {on : Bool} : (grp nds out on).length ≤ nds.length := by
  have h1 := gsP_len (pR nds out on) (ord (insOf nds)) (ord (insOf nds)).length
  have h2 := ord_len (insOf nds)
  rw [insOf_len] at h2
  unfold grp
  omega
set_option maxRecDepth 4000 in
set_option maxHeartbeats 3200000 in
theorem fuseFewer_walk (nv : Value) (nds : List Nd) (out : Int) (w : World) (ht : Tabs w) (hg : Gr w.heap.size w nv nds) :
    Calls Tryd.prog 5 #[.agg #[nv, .int .i64 out]] w (TPost w) := by
  have HG : Hid (Gr w.heap.size w nv nds ∧ Tabs w) := ⟨hg, ht⟩
  obtain ⟨ga, gc, rfl⟩ := hg.isSl
  clear hg ht
  go_enter Tryd.func5, Tryd.ntmps5
  go_wp2_with fail
  have X := Box.new w [.slice ga nds.length gc, .int .i64 out] 24
  have hb1 := below_alloc w (.cells #[.slice ga nds.length gc, .int .i64 out] 24)
  obtain ⟨W1, hW1⟩ : ∃ W, W = w.alloc (.cells #[.slice ga nds.length gc, .int .i64 out] 24) := ⟨_, rfl⟩
  rw [← hW1] at X hb1 ⊢
  clear hW1
  refine (awake16_c W1).mono ?_; rintro e w2 ⟨rfl, hb2⟩
  have H2 : Hid (Box w2 w.heap.size [.slice ga nds.length gc, .int .i64 out] ∧ Below w.heap.size w w2) := ⟨X.call hb2, hb1.trans (hb2.mono hb1.size)⟩
  clear X hb1 hb2
  have g0 := H2.out.1.cell 0 rfl
  have g1 := H2.out.1.cell 1 rfl
  go_wp2_with fail
  refine (right16_c w.heap.size _ nds out w2 (HG.out.2.below H2.out.2) (HG.out.1.below H2.out.2 (Nat.le_refl _)) H2.out.2.size).mono ?_; rintro e w3 ⟨rfl, hb3⟩
  have H3 : Hid (Box w3 w.heap.size [.slice ga nds.length gc, .int .i64 out] ∧ Below w.heap.size w w3) := ⟨H2.out.1.call hb3, H2.out.2.trans (hb3.mono H2.out.2.size)⟩
  clear g0 g1 hb3 H2
  obtain ⟨r, hr⟩ : ∃ r, r = rightB nds out := ⟨_, rfl⟩
  rw [← hr]
  cases r with
  | false =>
    go_wp2_with fail
    refine (awake16_c w3).mono ?_; rintro e w4 ⟨rfl, hb4⟩
    have HE : Hid (Below w.heap.size w w4) := H3.out.2.trans (hb4.mono H3.out.2.size)
    go_wp2_with fail
    go_ret
    exact ⟨rfl, HE.out⟩
  | true =>
    have hgood := good_of hr.symm
    have HGD : Hid (Good nds out) := hgood
    have g0 := H3.out.1.cell 0 rfl
    have g1 := H3.out.1.cell 1 rfl
    clear hr hgood
    go_wp2_with fail
    refine (fgroups_c w.heap.size _ nds out true w3 HGD.out (HG.out.1.below H3.out.2 (Nat.le_refl _)) H3.out.2.size).mono ?_; rintro e w4 ⟨a4, c4, vs4, rfl, hu4, hb4⟩
    have H4 : Hid (Box w4 w.heap.size [.slice ga nds.length gc, .int .i64 out] ∧ Below w.heap.size w w4 ∧ GU w3.heap.size (grp nds out true) (.slice a4 (grp nds out true).length c4) vs4 w4) := ⟨H3.out.1.call hb4, H3.out.2.trans (hb4.mono H3.out.2.size), hu4⟩
    clear g0 g1 hb4 hu4 H3
    have g0 := H4.out.1.cell 0 rfl
    have g1 := H4.out.1.cell 1 rfl
    go_wp2_with fail
    refine (fgroups_c w.heap.size _ nds out false w4 HGD.out (HG.out.1.below H4.out.2.1 (Nat.le_refl _)) H4.out.2.1.size).mono ?_; rintro e w5 ⟨a5, c5, vs5, rfl, hu5, hb5⟩
    have H5 : Hid (Below w.heap.size w w5 ∧ GU w3.heap.size (grp nds out true) (.slice a4 (grp nds out true).length c4) vs4 w5 ∧ Box w5 w.heap.size [.slice ga nds.length gc, .int .i64 out]) := ⟨H4.out.2.1.trans (hb5.mono H4.out.2.1.size), H4.out.2.2.call hb5, H4.out.1.call hb5⟩
    have hgl : (grp nds out true).length ≤ 100 := Nat.le_trans grp_lenN HGD.out.few
    have hgl2 : (grp nds out false).length ≤ 100 := Nat.le_trans grp_lenN HGD.out.few
    have hfew := HGD.out.fewer
    have hposn : 0 < (grp nds out true).length := by
      obtain ⟨r, hr, _⟩ := HGD.out.has_out (on := true)
      omega
    have HLT : Hid ((∀ r, r < (grp nds out true).length → 0 < ((grp nds out true).getD r []).length ∧ ((grp nds out true).getD r []).length ≤ 100) ∧ ∃ r, r < (grp nds out true).length ∧ ((lastN ((grp nds out true).getD r []) : Nat) : Int) = out) := by
      refine ⟨fun r hr => ⟨grp_pos hr, ?_⟩, HGD.out.has_out⟩
      have h : (grp nds out true).getD r [] ∈ grp nds out true := by
        have : (grp nds out true)[r]? = some ((grp nds out true).getD r []) := by simp [hr]
        exact List.mem_of_getElem? this
      obtain ⟨_, l, _, e⟩ := grp_mem.1 h
      rw [← e]
      refine Nat.le_trans (List.length_filter_le _ _) ?_
      have h2 := ord_len (insOf nds)
      rw [insOf_len] at h2
      have := HGD.out.few
      omega
    clear g0 g1 hb5 hu5 H4
    generalize grp nds out true = G at *
    obtain ⟨n2, hn2⟩ : ∃ n, n = (grp nds out false).length := ⟨_, rfl⟩
    rw [← hn2] at hgl2 hfew ⊢
    clear hn2
    have hd1 : decide ((n2 : Int) < (G.length : Int)) = false := decide_eq_false (by omega)
    have hd2 : ((G.length : Int) == 0) = false := beq_eq_false_iff_ne.2 (by omega)
    have hne : ¬ n2 < G.length := by omega
    go_wp2_with fail
    clear hd1 hd2 hne
    go_loopw [5, 6] (fun bv iv wr => ∃ (i : Nat) (b : Bool), i ≤ G.length ∧ iv = .int .i64 i ∧ bv = .bool b ∧ Hid (b = true ↔ ∃ q, q < i ∧ ((lastN (G.getD q []) : Nat) : Int) = out) ∧ Below w5.heap.size w5 wr) (fun _ iv _ => G.length - (intOf iv).toNat)
    case atStart => exact ⟨0, false, Nat.zero_le _, rfl, rfl, ⟨fun h => (by cases h), fun ⟨q, hq, _⟩ => by omega⟩, Below.refl _ _⟩
    case round =>
      obtain ⟨i, b, hi, rfl, rfl, hb', hb⟩ := hrel
      have HB : Hid (Below w5.heap.size w5 wr) := hb
      by_cases hil : i < G.length
      · cases b with
        | true =>
          have HT : Hid (∃ q, q < i + 1 ∧ ((lastN (G.getD q []) : Nat) : Int) = out) := by
            obtain ⟨q, hq, e⟩ := hb'.out.1 rfl
            exact ⟨q, by omega, e⟩
          clear hb hb'
          go_wp2_with fail
          refine wp_region_kept wr.heap.size (by kernel_rfl) (by kernel_rfl) ?_
          repeat (go_big_quiet_step (fail))
          refine wpQuiet_nil ?_
          rintro _ ⟨s, rfl⟩
          have HE : Hid (Below w5.heap.size w5 s.w) := HB.out.trans (s.below.mono HB.out.size)
          go_wp2_with fail
          go_roundw
          case rel => exact ⟨i + 1, true, by omega, by go_num, rfl, ⟨fun _ => HT.out, fun _ => rfl⟩, HE.out⟩
          case measure => simp [intOf]; omega
        | false =>
          obtain ⟨o4, x4, y4, e4, c1, ow4⟩ := (H5.out.2.1.call hb).at rfl hil
          subst e4
          obtain ⟨hp1, hp2⟩ := HLT.out.1 i hil
          obtain ⟨L, hL⟩ : ∃ L, L = G.getD i [] := ⟨_, rfl⟩
          rw [← hL] at c1 ow4 hp1 hp2
          obtain ⟨m, hm⟩ : ∃ m, L.length = m + 1 := ⟨L.length - 1, by omega⟩
          rw [hm] at c1 ow4 hp2
          obtain ⟨o6, rfl, c2⟩ := own_last ow4 hm
          obtain ⟨z, hz⟩ : ∃ z, z = lastN L := ⟨_, rfl⟩
          rw [← hz] at c2
          obtain ⟨q, hq⟩ : ∃ q, ((z : Int) == out) = q := ⟨_, rfl⟩
          have HT : Hid (q = true ↔ ∃ q, q < i + 1 ∧ ((lastN (G.getD q []) : Nat) : Int) = out) := by
            have hno : ¬ ∃ q, q < i ∧ ((lastN (G.getD q []) : Nat) : Int) = out := fun h => by have := hb'.out.2 h; cases this
            rw [← hq, beq_iff_eq, hz, hL]
            constructor
            · intro h; exact ⟨i, by omega, h⟩
            · rintro ⟨r, hr, h⟩
              by_cases e : r = i
              · rw [← e]; exact h
              · exact absurd ⟨r, by omega, h⟩ hno
          have g0 := (H5.out.2.2.call hb).cell 1 rfl
          have k1 := fun s : Kept wr.heap.size wr => s.at c1
          have k2 := fun s : Kept wr.heap.size wr => s.at c2
          have k3 := fun s : Kept wr.heap.size wr => s.at g0
          have hi0 : (0 : Int) ≤ (i : Int) := by omega
          have hi1 : (i : Int) < (G.length : Int) := by omega
          clear c1 c2 ow4 hb hL hm hp1 hz hb' g0
          go_wp2_with fail
          refine wp_region_kept wr.heap.size (by kernel_rfl) (by kernel_rfl) ?_
          repeat (go_big_quiet_step (fail))
          refine wpQuiet_nil ?_
          rintro _ ⟨s, rfl⟩
          have HE : Hid (Below w5.heap.size w5 s.w) := HB.out.trans (s.below.mono HB.out.size)
          clear k1 k2 k3
          go_wp2_with fail
          go_roundw
          case rel => exact ⟨i + 1, q, by omega, by go_num, rfl, HT, HE.out⟩
          case measure => simp [intOf]; omega
      · have ei : i = G.length := by omega
        subst ei
        have hbt : b = true := hb'.out.2 HLT.out.2
        subst hbt
        have HE : Hid (Below w.heap.size w wr) := H5.out.1.trans (hb.mono H5.out.1.size)
        clear hb hb'
        go_wp2_with fail
        go_ret
        exact ⟨rfl, HE.out⟩
section
open Go.ChangeShapes Go.WideShapes Go.ChangeAt
variable {H : Type} {enc : TypeId × Value → H} {W : World} {base : Nat}
theorem fuseFewer.fuseFewer_law (W : World) (ht : Tabs W) {v0 : Value} {d0 : DataW H} {p0 : List MemPlace}
    (h0 : DataW.Trod enc Tryd.prog W 0 (fun _ => true) true 24 v0 d0 p0) (k0 : Value.okWide Tryd.prog W .any base 24 v0) :
    Calls Tryd.prog 5 #[v0] W (TPost W) := by
  obtain ⟨nv, out, nds, rfl, hg, hout⟩ := graph_arg h0 k0
  exact fuseFewer_walk nv nds out W ht hg
end
end Go.Proofs.YtijkcpkljmpplaaDoor
