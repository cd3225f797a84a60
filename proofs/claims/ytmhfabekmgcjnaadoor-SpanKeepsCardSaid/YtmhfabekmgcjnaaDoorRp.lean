/- Layer 16: the document's Groups. -/
import Derived.Test.YtmhfabekmgcjnaaDoorLd
namespace Go.Proofs.YtmhfabekmgcjnaaDoor
open Go.RowKit Go.Bx Go.Od Go.Hp
attribute [local go_sem ↓] Go.wp_at_zero Go.wp_at_succ
set_option linter.unusedVariables false

/-- the groups of the first i, by what lies in one's group -/
def gsP (p : Nat → Nat → Bool) (all : List Nat) (i : Nat) : List (List Nat) := ((all.take i).map fun l => all.filter (p l)).filter fun g => decide (0 < g.length)
theorem gsP_some {p : Nat → Nat → Bool} {all : List Nat} {j k : Nat} (hj : all[j]? = some k) (h : 0 < (all.filter (p k)).length) : gsP p all (j + 1) = gsP p all j ++ [all.filter (p k)] := by
  unfold gsP
  rw [take_next hj, List.map_append, List.filter_append]
  simp only [List.map_cons, List.map_nil]
  rw [List.filter_cons_of_pos (by simpa using h)]
  rfl
theorem gsP_none {p : Nat → Nat → Bool} {all : List Nat} {j k : Nat} (hj : all[j]? = some k) (h : (all.filter (p k)).length = 0) : gsP p all (j + 1) = gsP p all j := by
  unfold gsP
  rw [take_next hj, List.map_append, List.filter_append]
  simp only [List.map_cons, List.map_nil]
  rw [List.filter_cons_of_neg (by rw [h]; simp)]
  simp
theorem gsP_len (p : Nat → Nat → Bool) (all : List Nat) (j : Nat) : (gsP p all j).length ≤ all.length := by
  unfold gsP
  refine Nat.le_trans (List.length_filter_le _ _) ?_
  simp
  omega
theorem tf_step {p : Nat → Bool} {all : List Nat} {j k : Nat} (hj : all[j]? = some k) : (all.take (j + 1)).filter p = if p k = true then (all.take j).filter p ++ [k] else (all.take j).filter p := by
  rw [take_next hj, List.filter_append]
  by_cases h : p k = true
  · rw [if_pos h, List.filter_cons_of_pos h]
    rfl
  · rw [if_neg h, List.filter_cons_of_neg h]
    simp
noncomputable def pR (nds : List Nd) (out : Int) (on : Bool) (l k : Nat) : Bool := ned (insOf nds) out k && ((ldr (jO nds out on) nds.length k : Int) == (l : Int))
/-- between two rounds -/
def RO (w3 : World) (G : List (List Nat)) (ov : Value) (wr : World) : Prop := ∃ vs, GU w3.heap.size G ov vs wr ∧ Below w3.heap.size w3 wr
/-- within a round -/
def RI (w3 : World) (G : List (List Nat)) (ov lv : Value) (l : List Nat) (X : Nat) (wr : World) : Prop :=
  ∃ vs, GU w3.heap.size G ov vs wr ∧ Below w3.heap.size w3 wr ∧ OwnP wr X lv (ofN l) ∧ X ≤ wr.heap.size ∧ w3.heap.size ≤ X ∧ (∀ r, r < G.length → ∀ k, (vs.getD r undef).ownBlock = some k → k < X) ∧ ∀ k, ov.ownBlock = some k → k < X
section
variable {w3 wr w8 : World} {G : List (List Nat)} {ov lv : Value} {l : List Nat} {X : Nat}
theorem RO.isSl (h : RO w3 G ov wr) : ∃ a c, ov = .slice a G.length c := by
  obtain ⟨vs, h3, _⟩ := h
  exact row_sl h3.own
theorem RI.isSl (h : RI w3 G ov lv l X wr) : ∃ a c, lv = .slice a l.length c := by
  obtain ⟨vs, _, _, h3, _⟩ := h
  exact own_sl h3
theorem RO.start (h : RO w3 G ov wr) : RI w3 G ov (.slice none 0 0) [] wr.heap.size wr := by
  obtain ⟨vs, h1, h2⟩ := h
  exact ⟨vs, h1, h2, own_nil _ _, Nat.le_refl _, h2.size, (fun r hr k hk => (row_ge (h1.inner r hr) k hk).2), fun k hk => (World.ownsRow.lt h1.own k hk).2⟩
theorem RI.call (h : RI w3 G ov lv l X wr) (hb : Below wr.heap.size wr w8) : RI w3 G ov lv l X w8 := by
  obtain ⟨vs, h1, h2, h3, h4, h5⟩ := h
  exact ⟨vs, h1.call hb, h2.trans (hb.mono h2.size), h3.below hb, Nat.le_trans h4 hb.size, h5⟩
theorem RI.own (h : RI w3 G ov lv l X wr) : OwnP wr X lv (ofN l) ∧ X ≤ wr.heap.size := by
  obtain ⟨vs, h1, h2, h3, h4, h5⟩ := h
  exact ⟨h3, h4⟩
theorem RI.bel (h : RI w3 G ov lv l X wr) : Below w3.heap.size w3 wr := by
  obtain ⟨vs, h1, h2, h3, h4, h5⟩ := h
  exact h2
theorem RI.app {k g8 c8 : Nat} {o : Obj} (h : RI w3 G ov lv l X wr) (hown : w8.ownsRow X 3 1 (.slice (some ⟨g8, 0, none⟩) (l.length + 1) c8) (l.length + 1) ((ofN l).map (Value.int .i64) ++ [.int .i64 k])) (hg : (wr.alloc o).grownBy w8 lv.ownBlock) :
    RI w3 G ov (.slice (some ⟨g8, 0, none⟩) (l.length + 1) c8) (l ++ [k]) X w8 := by
  obtain ⟨vs, h1, h2, h3, h4, h5, h6, h7⟩ := h
  have hge := row_ge h3
  have hg' : wr.grownBy w8 lv.ownBlock := (World.grownBy_alloc _ _ _).trans hg
  refine ⟨vs, h1.away h6 h7 hg' fun k hk => (hge k hk).1, h2.grown hg' h2.size fun k hk => Nat.le_trans h5 (hge k hk).1, ?_, Nat.le_trans h4 hg'.size, h5, h6, h7⟩
  unfold OwnP
  rw [ofN_app, List.map_append, List.length_append, ofN_len]
  exact hown
theorem RI.skip (h : RI w3 G ov lv l X wr) : RO w3 G ov wr := by
  obtain ⟨vs, h1, h2, _⟩ := h
  exact ⟨vs, h1, h2⟩
theorem RI.row (h : RI w3 G ov lv l X wr) : ∃ vs, wr.ownsRow w3.heap.size 31 1 ov G.length vs ∧ w3.heap.size ≤ wr.heap.size ∧ ∀ (o : Obj) (w8 : World) (g8 c8 : Nat), (wr.alloc o).grownBy w8 ov.ownBlock →
    w8.ownsRow w3.heap.size 31 1 (.slice (some ⟨g8, 0, none⟩) (G.length + 1) c8) (G.length + 1) (vs ++ [lv]) → RO w3 (G ++ [l]) (.slice (some ⟨g8, 0, none⟩) (G.length + 1) c8) w8 := by
  obtain ⟨vs, h1, h2, h3, h4, h5, h6, h7⟩ := h
  exact ⟨vs, h1.own, h2.size, fun o w8 g8 c8 hg hown => ⟨_, h1.push (OwnP.mono h3 h5) hown hg, h2.grown ((World.grownBy_alloc _ _ _).trans hg) h2.size fun k hk => (World.ownsRow.lt h1.own k hk).1⟩⟩
end
set_option maxRecDepth 4000 in
set_option maxHeartbeats 3200000 in
theorem rgroups_c (B : Nat) (nv : Value) (nds : List Nd) (out : Int) (on : Bool) (rk : Nat → Nat) (w : World) (hm : nds.length ≤ 900) (hl : ∀ i, i < nds.length → (nds.getD i Nd.none).ins.length ≤ 1000) (hg : Gr B w nv nds) (hB : B ≤ w.heap.size) (hne : 0 < (ord (insOf nds)).length) (hrk : Rk (jO nds out true) nds.length rk) :
    Calls Tryd.prog 9 #[.agg #[nv, .int .i64 out], .bool on] w (GsPost w (gsP (pR nds out on) (ord (insOf nds)) (ord (insOf nds)).length)) := by
  have hgl := hg.len_le
  obtain ⟨ga, gc, rfl⟩ := hg.isSl
  obtain ⟨i3, hi3, hz0, hz1, hz2⟩ := info_parts infoI
  obtain ⟨iS, hiS, sz0, sz1, sz2⟩ := info_parts infoS
  have hal := ord_len (insOf nds)
  rw [insOf_len] at hal
  have hab : ∀ k ∈ ord (insOf nds), k < nds.length := fun k hk => by have := (ord_fine (insOf nds)).bound k hk; rwa [insOf_len] at this
  have HG : Hid (Gr B w (.slice ga nds.length gc) nds ∧ (∀ i, i < nds.length → (nds.getD i Nd.none).ins.length ≤ 1000) ∧ Rk (jO nds out true) nds.length rk) := ⟨hg, hl, hrk⟩
  obtain ⟨all, hall⟩ : ∃ all, all = ord (insOf nds) := ⟨_, rfl⟩
  have HALL : Hid (all = ord (insOf nds)) := hall
  rw [← hall] at hne hal hab ⊢
  have HAB : Hid (∀ k ∈ all, k < nds.length) := hab
  obtain ⟨S, hS⟩ : ∃ S, S = ned (insOf nds) out := ⟨_, rfl⟩
  obtain ⟨ldd, hld⟩ : ∃ ldd : Nat → Nat, ldd = fun k => ldr (jO nds out on) nds.length k := ⟨_, rfl⟩
  obtain ⟨p, hp⟩ : ∃ p, p = pR nds out on := ⟨_, rfl⟩
  have HP : Hid (∀ l k, p l k = (S k && ((ldd k : Int) == (l : Int)))) := fun l k => by rw [hp, hS, hld]; rfl
  have HS : Hid (S = ned (insOf nds) out ∧ ldd = fun k => ldr (jO nds out on) nds.length k) := ⟨hS, hld⟩
  rw [← hp]
  clear hg hl hall hab hrk hS hld hp
  go_enter Tryd.func9, Tryd.ntmps9
  go_wp2_with fail
  have X := Box.new w [.slice ga nds.length gc, .int .i64 out] 24
  have hb1 := below_alloc w (.cells #[.slice ga nds.length gc, .int .i64 out] 24)
  obtain ⟨W1, hW1⟩ : ∃ W, W = w.alloc (.cells #[.slice ga nds.length gc, .int .i64 out] 24) := ⟨_, rfl⟩
  rw [← hW1] at X hb1 ⊢
  clear hW1
  refine (rneeded_c B _ nds out W1 (by omega) HG.out.2.1 (HG.out.1.below hb1 hB) (Nat.le_trans hB hb1.size)).mono ?_; rintro e w2 ⟨O, hO, rfl, hbO, hb2⟩
  rw [← HS.out.1] at hbO
  have X2 := X.call hb2
  have g0 := X2.cell 0 rfl
  have g1 := X2.cell 1 rfl
  have hb12 : Below w.heap.size w w2 := hb1.trans (hb2.mono hb1.size)
  go_wp2_with fail
  refine (rall_c B _ nds out w2 (by omega) HG.out.2.1 (HG.out.1.below hb12 hB) (Nat.le_trans hB hb12.size)).mono ?_; rintro e w3 ⟨aa, ac, rfl, hoa, hb3⟩
  rw [← HALL.out] at hoa ⊢
  have X3 := X2.call hb3
  have hbO3 := hbO.call hb3
  obtain ⟨ab, rfl, habl, hacc⟩ : ∃ ab, aa = some ⟨ab, 0, none⟩ ∧ ab < w3.heap.size ∧ ∀ j k, all[j]? = some k → w3.cell? ⟨ab, j, none⟩ = some (.int .i64 (k : Nat)) := by
    rcases hoa.form with ⟨h, h'⟩ | ⟨g, cap, h1, _, h2, h3, h4, _, _, h5⟩
    · have : all.length = 0 := by rw [← ofN_len, h']; rfl
      omega
    · rw [ofN_len] at h1
      cases h1
      refine ⟨g, rfl, h2, fun j k hj => ?_⟩
      obtain ⟨hj', rfl⟩ := List.getElem?_eq_some_iff.1 hj
      rw [h5 j (by rw [ofN_len]; exact hj')]
      simp [ofN, hj']
  have HW : Hid (Box w3 w.heap.size [.slice ga nds.length gc, .int .i64 out] ∧ Box w3 O (bc nds.length S) ∧ (∀ j k, all[j]? = some k → w3.cell? ⟨ab, j, none⟩ = some (.int .i64 (k : Nat))) ∧ Below w.heap.size w w3) := ⟨X3, hbO3, hacc, hb12.trans (hb3.mono hb12.size)⟩
  clear X X2 X3 g0 g1 hb1 hb2 hb3 hb12 hbO hbO3 hoa hacc hO
  have H0 : Hid (RO w3 (gsP p all 0) (.slice none 0 0) w3) := ⟨[], by exact GU.nil _ _, Below.refl _ _⟩
  go_wp2_with fail
  go_loopw [7, 8] (fun ov iv wr => ∃ i : Nat, i ≤ all.length ∧ iv = .int .i64 i ∧ RO w3 (gsP p all i) ov wr) (fun _ iv _ => all.length - (intOf iv).toNat)
  case atStart => exact ⟨0, Nat.zero_le _, rfl, H0.out⟩
  case round =>
    obtain ⟨i, hi, rfl, hr⟩ := hrel
    clear H0
    have hgs := gsP_len p all i
    obtain ⟨oa, oc, hov⟩ := hr.isSl
    subst hov
    by_cases hil : i < all.length
    · obtain ⟨x, hx⟩ : ∃ x, all[i]? = some x := ⟨all[i], List.getElem?_eq_getElem hil⟩
      have HX : Hid (all[i]? = some x) := hx
      obtain ⟨n8, hn8⟩ : ∃ n, n = (gsP p all i).length := ⟨_, rfl⟩
      have HN8 : Hid (n8 = (gsP p all i).length) := hn8
      rw [← hn8] at hr hgs ⊢
      obtain ⟨X, hX⟩ : ∃ X, X = wr.heap.size := ⟨_, rfl⟩
      have H1 : Hid (RI w3 (gsP p all i) (.slice oa n8 oc) (.slice none 0 0) ((all.take 0).filter (p x)) X wr) := by rw [hX]; exact RO.start hr
      clear hr hX hx hn8
      go_wp2_with fail
      go_loopw [9, 10] (fun lv kv wr => ∃ k : Nat, k ≤ all.length ∧ kv = .int .i64 k ∧ RI w3 (gsP p all i) (.slice oa n8 oc) lv ((all.take k).filter (p x)) X wr) (fun _ kv _ => all.length - (intOf kv).toNat)
      case atStart => exact ⟨0, Nat.zero_le _, rfl, H1.out⟩
      case round =>
        obtain ⟨k, hk, rfl, hr⟩ := hrel
        clear H1
        obtain ⟨la, lc', hlv⟩ := hr.isSl
        subst hlv
        obtain ⟨L, hL⟩ : ∃ L, L = (all.take k).filter (p x) := ⟨_, rfl⟩
        have hLl : L.length ≤ 900 := by
          rw [hL]
          refine Nat.le_trans (List.length_filter_le _ _) ?_
          simp
          omega
        rw [← hL] at hr ⊢
        have HR : Hid (RI w3 (gsP p all i) (.slice oa n8 oc) (.slice la L.length lc') L X wr) := hr
        by_cases hkl : k < all.length
        · obtain ⟨y, hy⟩ : ∃ y, all[k]? = some y := ⟨all[k], List.getElem?_eq_getElem hkl⟩
          have hyn := HAB.out y (List.mem_of_getElem? hy)
          have HT : Hid ((all.take (k + 1)).filter (p x) = if (S y && ((ldd y : Int) == (x : Int))) = true then L ++ [y] else L) := by
            rw [tf_step hy, HP.out, ← hL]
            exact Eq.refl _
          have g0 := (HW.out.1.call hr.bel).cell 0 rfl
          have g1 := (HW.out.1.call hr.bel).cell 1 rfl
          have fO := (HW.out.2.1.call hr.bel).cell y (bc_get _ hyn)
          have a0 := (hr.bel.cell (p := ⟨ab, k, none⟩) habl).trans (HW.out.2.2.1 k y hy)
          have a1 := (hr.bel.cell (p := ⟨ab, i, none⟩) habl).trans (HW.out.2.2.1 i x HX.out)
          have k0 := fun s : Kept wr.heap.size wr => s.at g0
          have k1 := fun s : Kept wr.heap.size wr => s.at g1
          have k3 := fun s : Kept wr.heap.size wr => s.at a0
          have k4 := fun s : Kept wr.heap.size wr => s.at a1
          obtain ⟨s, hs⟩ : ∃ s, s = S y := ⟨_, rfl⟩
          rw [← hs] at fO HT
          have k2 := fun s : Kept wr.heap.size wr => s.at fO
          have hk0 : (0 : Int) ≤ (k : Int) := by omega
          have hk1 : (k : Int) < (all.length : Int) := by omega
          have hi0 : (0 : Int) ≤ (i : Int) := by omega
          have hi1 : (i : Int) < (all.length : Int) := by omega
          have hy0 : (0 : Int) ≤ (y : Int) := by omega
          have hy1 : (y : Int) < (nds.length : Int) := by omega
          have HY : Hid (all[k]? = some y) := hy
          clear hL hr hs hy fO a0 a1
          cases s with
          | false =>
            have HE : Hid ((all.take (k + 1)).filter (p x) = L) := HT.out
            clear HT
            go_wp2_with fail
            clear g0 g1
            refine wp_region_kept wr.heap.size (by kernel_rfl) (by kernel_rfl) ?_
            repeat (go_big_quiet_step (fail))
            refine wpQuiet_nil ?_
            rintro _ ⟨s, rfl⟩
            have HR5 : Hid (RI w3 (gsP p all i) (.slice oa n8 oc) (.slice la L.length lc') L X s.w) := HR.out.call s.below
            clear k0 k1 k2 k3 k4
            go_wp2_with fail
            go_roundw
            case rel => exact ⟨k + 1, by omega, by go_num, by rw [HE.out]; exact HR5.out⟩
            case measure => simp [intOf]; omega
          | true =>
            have HA : Hid (∀ s : Kept wr.heap.size wr, Calls Tryd.prog 19 #[.agg #[.slice ga nds.length gc, .int .i64 out], .int .i64 y, .bool on] s.w (PPost s.w (.int .i64 (ldd y : Nat)))) := fun s => by
              have hbw : Below w.heap.size w s.w := (HW.out.2.2.2.trans (HR.out.bel.mono HW.out.2.2.2.size)).trans (s.below.mono (Nat.le_trans HW.out.2.2.2.size HR.out.bel.size))
              rw [HS.out.2]
              exact leader_c B _ nds out y on rk s.w hyn hm HG.out.2.1 (HG.out.1.below hbw hB) (Nat.le_trans hB hbw.size) HG.out.2.2
            obtain ⟨z, hz⟩ : ∃ z, z = ldd y := ⟨_, rfl⟩
            rw [← hz] at HA HT
            clear hz
            obtain ⟨q, hq⟩ : ∃ q, ((z : Int) == (x : Int)) = q := ⟨_, rfl⟩
            rw [hq] at HT
            cases q with
            | false =>
              have HE : Hid ((all.take (k + 1)).filter (p x) = L) := HT.out
              clear HT
              go_wp2_with fail
              clear g0 g1
              refine wp_region_kept wr.heap.size (by kernel_rfl) (by kernel_rfl) ?_
              repeat (go_big_quiet_step (first | (go_at_call 19; with_reducible exact Calls.kept _ (Nat.le_refl _) (HA.out _))))
              refine wpQuiet_nil ?_
              rintro _ ⟨s, rfl⟩
              have HR5 : Hid (RI w3 (gsP p all i) (.slice oa n8 oc) (.slice la L.length lc') L X s.w) := HR.out.call s.below
              clear k0 k1 k2 k3 k4 HA
              go_wp2_with fail
              go_roundw
              case rel => exact ⟨k + 1, by omega, by go_num, by rw [HE.out]; exact HR5.out⟩
              case measure => simp [intOf]; omega
            | true =>
              have HE : Hid ((all.take (k + 1)).filter (p x) = L ++ [y]) := HT.out
              clear HT
              go_wp2_with fail
              clear g0 g1
              refine wp_region_kept wr.heap.size (by kernel_rfl) (by kernel_rfl) ?_
              repeat (go_big_quiet_step (first | (go_at_call 19; with_reducible exact Calls.kept _ (Nat.le_refl _) (HA.out _))))
              refine wpQuiet_nil ?_
              rintro _ ⟨s, rfl⟩
              have HR5 : Hid (RI w3 (gsP p all i) (.slice oa n8 oc) (.slice la L.length lc') L X s.w) := HR.out.call s.below
              have a0 := s.at (k3 ⟨wr, Below.refl _ _⟩)
              obtain ⟨hown5, hX5⟩ := HR5.out.own
              have HO5 : Hid (OwnP s.w X (.slice la L.length lc') (ofN L)) := hown5
              have HM : Hid (L.length + 1 ≤ maxLen ∧ (L.length + 1) * 8 ≤ 140737488355328) := by constructor <;> (try unfold maxLen) <;> omega
              clear k0 k1 k2 k3 k4 HA hown5
              go_wp2_with (at_builtin; refine wpList_append_lies _ rfl _ _ 31 rfl X 3 i3 (.int .i64 0) 1 8 Tryd.underlying31 hi3 hz0 hz1 hz2 rfl (by decide) (.slice la L.length lc') L.length ((ofN L).map (Value.int .i64)) rfl (OwnP.row (ofN_len L) (HO5.out.alloc (.cells #[.int .i64 y] 3))) _ 1 1 [.int .i64 y] rfl rfl (news_one (by simp)) (by simp [Value.oneCell']) (by decide) HM.out.1 HM.out.2 (by first | omega | (simp; omega)) _ rfl ?_; intro g8 c8 w8 hown8 hgrow8 hat8 hlt8; have HA : Hid (RI w3 (gsP p all i) (.slice oa n8 oc) (.slice (some ⟨g8, 0, none⟩) (L.length + 1) c8) (L ++ [y]) X w8) := HR5.out.app hown8 hgrow8; clear hown8 hgrow8 hat8 hlt8)
              go_roundw
              case rel => exact ⟨k + 1, by omega, by go_num, by rw [HE.out]; exact HA.out⟩
              case measure => simp [intOf]; omega
        · have ek : k = all.length := by omega
          subst ek
          have eL : L = all.filter (p x) := by rw [hL, List.take_length]
          by_cases hpos : 0 < L.length
          · obtain ⟨vs, hown, hsz, hpush⟩ := hr.row
            rw [← HN8.out] at hown hpush
            have HBK : Hid _ := hpush
            have HO : Hid (wr.ownsRow w3.heap.size 31 1 (.slice oa n8 oc) n8 vs) := hown
            have HM : Hid (n8 + 1 ≤ maxLen ∧ (n8 + 1) * 24 ≤ 140737488355328) := by constructor <;> (try unfold maxLen) <;> omega
            have hd : decide ((0 : Int) < (L.length : Int)) = true := decide_eq_true (by omega)
            have HE : Hid (gsP p all (i + 1) = gsP p all i ++ [L]) := by
              have : gsP p all (i + 1) = gsP p all i ++ [L] := by rw [gsP_some HX.out (by rw [← eL]; exact hpos), ← eL]
              exact this
            clear hr hL eL hown hpush HR
            go_wp2_with (at_builtin; refine wpList_append_lies _ rfl _ _ 27 rfl w3.heap.size 31 iS (.slice none 0 0) 1 24 Tryd.underlying27 hiS sz0 sz1 sz2 rfl (by decide) (.slice oa n8 oc) n8 vs rfl (HO.out.alloc (.cells #[.slice la L.length lc'] 31)) _ 1 1 [.slice la L.length lc'] rfl rfl (news_one (by simp)) (by simp [Value.oneCell']) (by decide) HM.out.1 HM.out.2 (by first | omega | (simp; omega)) _ rfl ?_; intro g8 c8 w8 hown8 hgrow8 hat8 hlt8; have HA : Hid (RO w3 (gsP p all i ++ [L]) (.slice (some ⟨g8, 0, none⟩) (n8 + 1) c8) w8) := HBK.out _ w8 g8 c8 hgrow8 hown8; clear hown8 hgrow8 hat8 hlt8)
            go_roundw
            case rel => exact ⟨i + 1, by omega, by go_num, by rw [HE.out]; exact HA.out⟩
            case measure => simp [intOf]; omega
          · have h0 : L.length = 0 := by omega
            have HA : Hid (RO w3 (gsP p all (i + 1)) (.slice oa n8 oc) wr) := by
              have : gsP p all (i + 1) = gsP p all i := gsP_none HX.out (by rw [← eL]; exact h0)
              rw [this]
              exact hr.skip
            rw [h0]
            clear hr hL eL hpos h0 HR hLl
            go_wp2_with fail
            go_roundw
            case rel => exact ⟨i + 1, by omega, by go_num, HA.out⟩
            case measure => simp [intOf]; omega
    · have ei : i = all.length := by omega
      subst ei
      have HE : Hid (GsPost w (gsP p all all.length) (.returned (.slice oa (gsP p all all.length).length oc)) wr) := by
        obtain ⟨vs, h1, h2⟩ := hr
        have hb := HW.out.2.2.2
        exact ⟨oa, oc, vs, rfl, h1.mono hb.size, hb.trans (h2.mono hb.size)⟩
      clear hr
      go_wp2_with fail
      go_ret
      exact HE.out
end Go.Proofs.YtmhfabekmgcjnaaDoor
