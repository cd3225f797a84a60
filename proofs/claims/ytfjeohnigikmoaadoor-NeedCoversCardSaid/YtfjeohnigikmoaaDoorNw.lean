/- The walk of 'NeedCovers'. -/
import Derived.Test.YtfjeohnigikmoaaDoorRa
import Derived.Test.YtfjeohnigikmoaaDoorRn
import Derived.Deep.LoopGhost
import Derived.Deep.DeepCutAuto
namespace Go.Proofs.YtfjeohnigikmoaaDoor
open Go.RowKit Go.Bx Go.Od Go.Hp
attribute [local go_sem ↓] Go.wp_at_zero Go.wp_at_succ
set_option linter.unusedVariables false

theorem slB {B : Nat} {W W' : World} {v : Value} {xs : List Int} (h : SlOf RInt 1 (· < B) W v xs) (hb : Below W.heap.size W W') (hB : B ≤ W.heap.size) : SlOf RInt 1 (· < B) W' v xs :=
  SlOf.same RInt.ok (fun b hlt => by have hlt : b < B := hlt; exact hb.block b (by omega)) h
/-- what the operations of 'part := need.Of(..)' yield -/
def CT (z : Nat) (gv : Value) (b o i : Nat) (nodev : Value) (O n : Nat) (r : Rc) (z2 m : Nat) (rr : Rc) (j : Nat) (v : Value) (W : World) : Prop := match j with
  | 0 => v = .pointer (some ⟨z, 0, none⟩)
  | 1 => v = gv
  | 2 => v = .int .i64 i
  | 3 => v = .pointer (some ⟨b, o + i * 3, none⟩)
  | 4 => v = nodev
  | 5 => v = .slice (some ⟨O, 0, none⟩) n n
  | 6 => v = .int .i64 i
  | 7 => v = .pointer (some ⟨O, i * 4, none⟩)
  | 8 => v = rv r
  | 9 => ∃ P, z2 ≤ P ∧ v = .slice (some ⟨P, 0, none⟩) m m ∧ Box W P (rcs (List.replicate m rr))
  | 10 => ∃ P, z2 ≤ P ∧ v = .slice (some ⟨P, 0, none⟩) m m ∧ Box W P (rcs (List.replicate m rr))
  | _ => True
theorem CT.below {z : Nat} {gv : Value} {b o i : Nat} {nodev : Value} {O n : Nat} {r : Rc} {z2 m : Nat} {rr : Rc} {j : Nat} {v : Value} {W W' : World} (h : CT z gv b o i nodev O n r z2 m rr j v W) (hb : Below W.heap.size W W') : CT z gv b o i nodev O n r z2 m rr j v W' := by
  match j, h with
  | 0, h => exact h
  | 1, h => exact h
  | 2, h => exact h
  | 3, h => exact h
  | 4, h => exact h
  | 5, h => exact h
  | 6, h => exact h
  | 7, h => exact h
  | 8, h => exact h
  | 9, ⟨P, h1, h2, h3⟩ => exact ⟨P, h1, h2, h3.call hb⟩
  | 10, ⟨P, h1, h2, h3⟩ => exact ⟨P, h1, h2, h3.call hb⟩
  | _ + 11, _ => trivial
set_option maxRecDepth 10000 in
set_option maxHeartbeats 6400000 in
theorem needCovers_walk (nv : Value) (nds : List Nd) (out : Int) (want : Rc) (w : World) (ht : Tabs w) (hg : Gr w.heap.size w nv nds) :
    Calls Tryd.prog 3 #[.agg #[nv, .int .i64 out], rv want] w (TPost w) := by
  have HG : Hid (Gr w.heap.size w nv nds ∧ Tabs w) := ⟨hg, ht⟩
  obtain ⟨ga, gc, rfl⟩ := hg.isSl
  have hgl := hg.len_le
  obtain ⟨x0, y0, x1, y1⟩ := want
  clear hg ht
  have H1 : Hid (GW w ((w.alloc (.cells #[.slice ga nds.length gc, .int .i64 out] 24)).alloc (.cells (cs4 x0 y0 x1 y1) 26)) (.slice ga nds.length gc) (.int .i64 out) ⟨x0, y0, x1, y1⟩) := GW.new w _ _ ⟨x0, y0, x1, y1⟩ _ _
  go_enter Tryd.func3, Tryd.ntmps3
  go_wp2_with fail
  generalize ((w.alloc (.cells #[.slice ga nds.length gc, .int .i64 out] 24)).alloc (.cells (cs4 x0 y0 x1 y1) 26)) = W1 at *
  refine (awake14_c W1).mono ?_; rintro e w2 ⟨rfl, hb2⟩
  have H2 : Hid (GW w w2 (.slice ga nds.length gc) (.int .i64 out) ⟨x0, y0, x1, y1⟩) := H1.out.call hb2
  clear hb2 H1
  have g0 := H2.out.1.cell 0 rfl
  have g1 := H2.out.1.cell 1 rfl
  go_wp2_with fail
  refine (right14_c w.heap.size _ nds out w2 (HG.out.2.below H2.out.2.2) (HG.out.1.below H2.out.2.2 (Nat.le_refl _)) H2.out.2.2.size).mono ?_; rintro e w3 ⟨rfl, hb3⟩
  have H3 : Hid (GW w w3 (.slice ga nds.length gc) (.int .i64 out) ⟨x0, y0, x1, y1⟩) := H2.out.call hb3
  clear g0 g1 hb3 H2
  obtain ⟨r, hr⟩ : ∃ r, r = rightB nds out := ⟨_, rfl⟩
  rw [← hr]
  cases r with
  | false =>
    clear hr
    go_wp2_with fail
    refine (awake14_c w3).mono ?_; rintro e w4 ⟨rfl, hb4⟩
    have HE : Hid (Below w.heap.size w w4) := H3.out.2.2.trans (hb4.mono H3.out.2.2.size)
    go_wp2_with fail
    go_ret
    exact ⟨rfl, HE.out⟩
  | true =>
    have HGD : Hid (GoodN nds out) := goodN_of hr.symm
    have hn100 := HGD.out.few
    obtain ⟨c0, c1, c2, c3⟩ := box4 H3.out.2.1
    clear hr
    go_wp2_with fail
    refine (right03_c ⟨x0, y0, x1, y1⟩ w3).mono ?_; rintro e w4 ⟨rfl, hb4⟩
    have H4 : Hid (GW w w4 (.slice ga nds.length gc) (.int .i64 out) ⟨x0, y0, x1, y1⟩) := H3.out.call hb4
    clear c0 c1 c2 c3 hb4 H3
    obtain ⟨r, hr⟩ : ∃ r, r = rightR ⟨x0, y0, x1, y1⟩ := ⟨_, rfl⟩
    rw [← hr]
    cases r with
    | false =>
      clear hr
      go_wp2_with fail
      refine (awake14_c w4).mono ?_; rintro e w5 ⟨rfl, hb5⟩
      have HE : Hid (Below w.heap.size w w5) := H4.out.2.2.trans (hb5.mono H4.out.2.2.size)
      go_wp2_with fail
      go_ret
      exact ⟨rfl, HE.out⟩
    | true =>
      have HW : Hid (RcP ⟨x0, y0, x1, y1⟩) := (rightR_iff _).1 hr.symm
      obtain ⟨c0, c1, c2, c3⟩ := box4 H4.out.2.1
      have g0 := H4.out.1.cell 0 rfl
      have g1 := H4.out.1.cell 1 rfl
      clear hr
      go_wp2_with fail
      refine (all14_c w.heap.size _ nds out ⟨x0, y0, x1, y1⟩ w4 HGD.out (HG.out.1.below H4.out.2.2 (Nat.le_refl _)) H4.out.2.2.size HW.out).mono ?_; rintro e w5 ⟨O, hO, rfl, hbO, hb5⟩
      have HLAW : Hid (WiS ⟨x0, y0, x1, y1⟩ ((allN nds ⟨x0, y0, x1, y1⟩ out).1 out.toNat) ∧ CvN (allN nds ⟨x0, y0, x1, y1⟩ out) ∧ (∀ i, ned (insOf nds) out i = false → (allN nds ⟨x0, y0, x1, y1⟩ out).1 i = Rc.zero) ∧ ∀ i, i < nds.length → ∀ x ∈ (nds.getD i Nd.none).ins, WiS (ofR (nds.getD i Nd.none) ((allN nds ⟨x0, y0, x1, y1⟩ out).1 i)) (there (allN nds ⟨x0, y0, x1, y1⟩ out) x)) := by
        refine ⟨?_, HGD.out.cv HW.out, fun i h => HGD.out.unneeded _ h, fun i hi x hx => HGD.out.covers _ hi hx⟩
        have := covers_out nds ⟨x0, y0, x1, y1⟩ out.toNat
        have e : ((out.toNat : Nat) : Int) = out := by have := HGD.out.outs.1; omega
        rw [e] at this
        exact this
      obtain ⟨S, hS⟩ : ∃ S, S = ned (insOf nds) out := ⟨_, rfl⟩
      obtain ⟨st, hst⟩ : ∃ st, st = allN nds ⟨x0, y0, x1, y1⟩ out := ⟨_, rfl⟩
      rw [← hst] at hbO HLAW ⊢
      rw [← hS] at HLAW
      have HS : Hid (S = ned (insOf nds) out) := hS
      clear hst hS
      obtain ⟨f, s0, s1, s2, s3⟩ := st
      have H5 : Hid (GW w w5 (.slice ga nds.length gc) (.int .i64 out) ⟨x0, y0, x1, y1⟩ ∧ Box w5 O (rcs (rl nds.length f))) := ⟨H4.out.call hb5, hbO⟩
      have hO1 : w.heap.size ≤ O := by have := H4.out.2.2.size; omega
      clear c0 c1 c2 c3 g0 g1 hb5 hbO H4 hO
      have H6 : Hid (GW w (w5.alloc (.cells (cs4 s0 s1 s2 s3) 26)) (.slice ga nds.length gc) (.int .i64 out) ⟨x0, y0, x1, y1⟩ ∧ Box (w5.alloc (.cells (cs4 s0 s1 s2 s3) 26)) O (rcs (rl nds.length f)) ∧ Box (w5.alloc (.cells (cs4 s0 s1 s2 s3) 26)) w5.heap.size (cl4 ⟨s0, s1, s2, s3⟩)) := ⟨H5.out.1.call (below_new _ _), H5.out.2.call (below_new _ _), Box.new w5 _ _⟩
      clear H5
      obtain ⟨SP, hSP⟩ : ∃ SP, SP = w5.heap.size := ⟨_, rfl⟩
      have g0 := H6.out.1.1.cell 0 rfl
      have g1 := H6.out.1.1.cell 1 rfl
      go_wp2_with fail
      clear g0 g1
      rw [← hSP] at H6 ⊢
      clear hSP
      generalize (w5.alloc (.cells (cs4 s0 s1 s2 s3) 26)) = W6 at *
      clear w5
      refine (rneeded_c w.heap.size _ nds out W6 (by omega) HGD.out.short (HG.out.1.below H6.out.1.2.2 (Nat.le_refl _)) H6.out.1.2.2.size).mono ?_; rintro e w7 ⟨O2, hO2, rfl, hbO2, hb7⟩
      rw [← HS.out] at hbO2
      obtain ⟨o, rfl⟩ : ∃ o : Nat, out = o := ⟨out.toNat, by have := HGD.out.outs.1; omega⟩
      have hon : o < nds.length := by have := HGD.out.outs.2; omega
      have H7 : Hid (GW w w7 (.slice ga nds.length gc) (.int .i64 o) ⟨x0, y0, x1, y1⟩ ∧ Box w7 O (rcs (rl nds.length f)) ∧ Box w7 SP (cl4 ⟨s0, s1, s2, s3⟩) ∧ Box w7 O2 (bc nds.length S)) := ⟨H6.out.1.call hb7, H6.out.2.1.call hb7, H6.out.2.2.call hb7, hbO2⟩
      clear hb7 hbO2 hO2 H6 HS
      have HN : Hid (∀ s : Kept w7.heap.size w7, Calls Tryd.prog 11 #[.agg #[.int .i64 x0, .int .i64 y0, .int .i64 x1, .int .i64 y1], rv (f o)] s.w (PPost s.w (.bool true))) := fun s => by
        have := rwithin_c ⟨x0, y0, x1, y1⟩ (f o) s.w HW.out
        rw [refWi_of (by have := HLAW.out.1; rw [Int.toNat_natCast] at this; exact this)] at this
        exact this
      have ho0 : (0 : Int) ≤ (o : Int) := by omega
      have ho1 : (o : Int) < (nds.length : Int) := by omega
      obtain ⟨c0, c1, c2, c3⟩ := box4 H7.out.1.2.1
      obtain ⟨d0, d1, d2, d3⟩ := rbox_get H7.out.2.1 (rl_get f hon)
      have k0 := fun s : Kept w7.heap.size w7 => s.at c0
      have k1 := fun s : Kept w7.heap.size w7 => s.at c1
      have k2 := fun s : Kept w7.heap.size w7 => s.at c2
      have k3 := fun s : Kept w7.heap.size w7 => s.at c3
      have k4 := fun s : Kept w7.heap.size w7 => s.at d0
      have k5 := fun s : Kept w7.heap.size w7 => s.at d1
      have k6 := fun s : Kept w7.heap.size w7 => s.at d2
      have k7 := fun s : Kept w7.heap.size w7 => s.at d3
      have k8 := fun s : Kept w7.heap.size w7 => s.at (H7.out.1.1.cell 0 rfl)
      have k9 := fun s : Kept w7.heap.size w7 => s.at (H7.out.1.1.cell 1 rfl)
      clear c0 c1 c2 c3 d0 d1 d2 d3
      go_wp2_with fail
      refine wp_region_kept w7.heap.size (by kernel_rfl) (by kernel_rfl) ?_
      repeat (go_big_quiet_step (first | (go_at_call 11; with_reducible exact Calls.kept _ (Nat.le_refl _) (HN.out _))))
      refine wpQuiet_nil ?_
      rintro _ ⟨s, rfl⟩
      obtain ⟨W8, hW8⟩ : ∃ W, W = s.w := ⟨_, rfl⟩
      have H8 : Hid (GW w W8 (.slice ga nds.length gc) (.int .i64 o) ⟨x0, y0, x1, y1⟩ ∧ Box W8 O (rcs (rl nds.length f)) ∧ Box W8 SP (cl4 ⟨s0, s1, s2, s3⟩) ∧ Box W8 O2 (bc nds.length S)) := by
        rw [hW8]
        exact ⟨H7.out.1.call s.below, H7.out.2.1.call s.below, H7.out.2.2.1.call s.below, H7.out.2.2.2.call s.below⟩
      rw [← hW8]
      have HFX : Hid (∀ W, Below W8.heap.size W8 W → GW w W (.slice ga nds.length gc) (.int .i64 o) ⟨x0, y0, x1, y1⟩ ∧ Box W O (rcs (rl nds.length f)) ∧ Box W SP (cl4 ⟨s0, s1, s2, s3⟩) ∧ Box W O2 (bc nds.length S) ∧ Gr w.heap.size W (.slice ga nds.length gc) nds) := fun W hb =>
        ⟨H8.out.1.call hb, H8.out.2.1.call hb, H8.out.2.2.1.call hb, H8.out.2.2.2.call hb, HG.out.1.below (H8.out.1.call hb).2.2 (Nat.le_refl _)⟩
      clear k0 k1 k2 k3 k4 k5 k6 k7 k8 k9 HN hW8 H7 s H8
      go_wp2_with fail
      go_loopg [8] nds.length (fun g iv wr => ∃ i : Nat, nds.length ≤ i + g ∧ i ≤ nds.length ∧ iv = .int .i64 i ∧ Below W8.heap.size W8 wr)
      case atStart => exact ⟨0, by omega, by omega, rfl, Below.refl _ _⟩
      case round =>
        obtain ⟨i, hgk, hi, rfl, hb⟩ := hrel
        generalize gk = gk1 at *
        have g0 := (HFX.out wr hb).1.1.cell 0 rfl
        have HB : Hid (Below W8.heap.size W8 wr) := hb
        by_cases hin : i < nds.length
        · have fO := (HFX.out wr hb).2.2.2.1.cell i (bc_get _ hin)
          obtain ⟨s', hs'⟩ : ∃ s', s' = S i := ⟨_, rfl⟩
          have HSI : Hid (s' = S i) := hs'
          rw [← hs'] at fO
          have hi0 : (0 : Int) ≤ (i : Int) := by omega
          have hi1 : (i : Int) < (nds.length : Int) := by omega
          clear hb hs'
          go_upto_region 10 with fail
          go_cut [68] (fun b wx => b = .bool false ∧ Below wr.heap.size wr wx)
          case first =>
            cases s' with
            | true =>
              go_wp2_with fail
              go_meet
              exact ⟨rfl, Below.refl _ _⟩
            | false =>
              have hz : f i = Rc.zero := HLAW.out.2.2.1 i HSI.out.symm
              obtain ⟨a0, a1, a2, a3⟩ := rbox_get (HFX.out wr HB.out).2.1 (rl_get f hin)
              rw [hz] at a0 a1 a2 a3
              have a0' : wr.cell? ⟨O, i * 4, none⟩ = some (.int .i64 0) := a0
              have a1' : wr.cell? ⟨O, i * 4 + 1, none⟩ = some (.int .i64 0) := a1
              have a2' : wr.cell? ⟨O, i * 4 + 2, none⟩ = some (.int .i64 0) := a2
              have a3' : wr.cell? ⟨O, i * 4 + 3, none⟩ = some (.int .i64 0) := a3
              have hq0 : ∀ W, (binOp .neq 26 (.agg #[.int .i64 0, .int .i64 0, .int .i64 0, .int .i64 0]) (.agg #[.int .i64 0, .int .i64 0, .int .i64 0, .int .i64 0])).run Tryd.prog W = .ok (.bool false) W := fun W => neqR _ _ _ _ W
              clear hz a0 a1 a2 a3
              go_wp2_with fail
              go_meet
              exact ⟨rfl, Below.refl _ _⟩
          case rest =>
          obtain ⟨rfl, hbc⟩ := hcut
          have H9 : Hid (Below W8.heap.size W8 wc) := HB.out.trans (hbc.mono HB.out.size)
          clear hbc g0 fO
          have HFI := HFX.out wc H9.out
          obtain ⟨b, o', cap, ia, ic, pa, pc, hv, hbB, hcap, hcm, n0, n1, n2, hsi, hsp⟩ := HFI.2.2.2.2.node hin
          simp only [Value.slice.injEq, true_and] at hv
          obtain ⟨rfl, rfl⟩ := hv
          obtain ⟨nd, hnd⟩ : ∃ nd, nd = nds.getD i Nd.none := ⟨_, rfl⟩
          obtain ⟨m, hm1⟩ : ∃ m, m = nd.ins.length := ⟨_, rfl⟩
          obtain ⟨m2, hm2⟩ : ∃ m, m = nd.p.length := ⟨_, rfl⟩
          rw [← hnd] at n0 n1 n2 hsi hsp
          rw [← hm1] at n1 hsi
          rw [← hm2] at n2 hsp
          have HND : Hid (nd = nds.getD i Nd.none ∧ m = nd.ins.length ∧ m2 = nd.p.length ∧ m ≤ 1000) := ⟨hnd, hm1, hm2, by rw [hm1, hnd]; exact HGD.out.short i hin⟩
          have hml := HND.out.2.2.2
          obtain ⟨rr, hrr⟩ : ∃ r, r = ofR nd (f i) := ⟨_, rfl⟩
          have HRR : Hid (rr = ofR nd (f i)) := hrr
          have HOF : Hid (∀ W', Below wc.heap.size wc W' → Calls Tryd.prog 12 #[.agg #[.int .i64 nd.op, .slice ia m ic, .slice pa m2 pc], rv (f i)] W' (OfPost W' m rr)) := fun W' hb => by
            have hsz := HFI.1.2.2.size
            have e := needof_c nd.op (.slice ia m ic) (.slice pa m2 pc) nd.ins nd.p (f i) W' (F := (· < w.heap.size)) (fun c hc => by have hc : c < w.heap.size := hc; have := hb.size; omega)
              (slB hsp hb hsz) (slB hsi hb hsz) (by rw [← hm1]; exact HND.out.2.2.2) (by rw [hnd]; exact HGD.out.pa i hin) (HLAW.out.2.1.1 i)
            rw [← hm1] at e
            rw [hrr]
            exact e
          have HCL : Hid (∀ W', Below wc.heap.size wc W' → W'.cell? ⟨w.heap.size, 0, none⟩ = some (.slice (some ⟨b, o', none⟩) nds.length gc) ∧ W'.cell? ⟨b, o' + i * 3, none⟩ = some (.int .i64 nd.op) ∧ W'.cell? ⟨b, o' + i * 3 + 1, none⟩ = some (.slice ia m ic) ∧ W'.cell? ⟨b, o' + i * 3 + 2, none⟩ = some (.slice pa m2 pc) ∧ SlOf RInt 1 (· < w.heap.size) W' (.slice ia m ic) nd.ins ∧ Box W' O (rcs (rl nds.length f)) ∧ Box W' SP (cl4 ⟨s0, s1, s2, s3⟩)) := fun W' hb =>
            ⟨(HFI.1.1.call hb).cell 0 rfl, (hb.cell (lt_of_cell n0)).trans n0, (hb.cell (lt_of_cell n1)).trans n1, (hb.cell (lt_of_cell n2)).trans n2, slB hsi hb HFI.1.2.2.size, HFI.2.1.call hb, HFI.2.2.1.call hb⟩
          have HIN : Hid (∀ j, j < m → ∃ x, nd.ins[j]? = some x ∧ nd.ins.getD j 0 = x ∧ -1 ≤ x ∧ x < nds.length ∧ WiS rr (there (f, ⟨s0, s1, s2, s3⟩) x)) := fun j hj => by
            have hj' : j < nd.ins.length := by rw [← HND.out.2.1]; exact hj
            have hmem : nd.ins[j] ∈ (nds.getD i Nd.none).ins := by rw [← hnd]; exact List.getElem_mem hj'
            have hx := HGD.out.rng i hin _ hmem
            have hc := HLAW.out.2.2.2 i hin _ hmem
            rw [← hnd, ← hrr] at hc
            exact ⟨nd.ins[j], List.getElem?_eq_getElem hj', by simp [List.getD_eq_getElem?_getD, List.getElem?_eq_getElem hj'], hx.1, hx.2, hc⟩
          have HPL : Hid (RcP rr) := by rw [hrr, hnd]; exact ofR_pl (HGD.out.pa i hin) (HLAW.out.2.1.1 i)
          clear hnd hm1 hm2 hsi hsp n0 n1 n2 HFI hrr
          go_wp2_with fail
          rename_i K7 hK7
          refine wp_region_each (fun W' => Below wc.heap.size wc W') (CT w.heap.size (.slice (some ⟨b, o', none⟩) nds.length gc) b o' i (.agg #[.int .i64 nd.op, .slice ia m ic, .slice pa m2 pc]) O nds.length (f i) wc.heap.size m rr) (by kernel_rfl) (by kernel_rfl) (Below.refl _ wc).drew ?hop ?hend
          case hop =>
            refine Each.get (n := 11) ⟨⟨⟨⟨⟨⟨⟨⟨⟨⟨⟨trivial, ?h0⟩, ?h1⟩, ?h2⟩, ?h3⟩, ?h4⟩, ?h5⟩, ?h6⟩, ?h7⟩, ?h8⟩, ?h9⟩, ?h10⟩
            case h0 =>
              refine OpIs.plain (by kernel_rfl) _ rfl rfl fun vs ev W' hf hI hd => ?_
              have e0 : ev (.tmp 2) = .pointer (some ⟨w.heap.size, 0, none⟩) := hf.off 2 rfl
              clear hK7
              exact gives_pure (v := .pointer (some ⟨w.heap.size, 0, none⟩)) hI (by simp [gives, go_sem, e0]) rfl
            case h1 =>
              refine OpIs.plain (by kernel_rfl) _ rfl rfl fun vs ev W' hf hI hd => ?_
              have e0 : ev (.tmp 69) = .pointer (some ⟨w.heap.size, 0, none⟩) := (hf.of 0 _ 69 rfl rfl rfl (of_decide_eq_true rfl)).trans (hd 0 (by kernel_rfl))
              have d0 := (HCL.out W' hI).1
              clear hK7
              exact gives_pure (v := .slice (some ⟨b, o', none⟩) nds.length gc) hI (by simp [gives, go_sem, e0, d0]) rfl
            case h2 =>
              refine OpIs.plain (by kernel_rfl) _ rfl rfl fun vs ev W' hf hI hd => ?_
              have e0 : ev (.tmp 8) = .int .i64 i := hf.off 8 rfl
              clear hK7
              exact gives_pure (v := .int .i64 i) hI (by simp [gives, go_sem, e0]) rfl
            case h3 =>
              refine OpIs.plain (by kernel_rfl) _ rfl rfl fun vs ev W' hf hI hd => ?_
              have e0 : ev (.tmp 70) = .slice (some ⟨b, o', none⟩) nds.length gc := (hf.of 1 _ 70 rfl rfl rfl (of_decide_eq_true rfl)).trans (hd 1 (by kernel_rfl))
              have e1 : ev (.tmp 71) = .int .i64 i := (hf.of 2 _ 71 rfl rfl rfl (of_decide_eq_true rfl)).trans (hd 2 (by kernel_rfl))
              clear hK7
              exact gives_pure (v := .pointer (some ⟨b, o' + i * 3, none⟩)) hI (by simp [gives, go_sem, e0, e1, hi0, hi1]) rfl
            case h4 =>
              refine OpIs.plain (by kernel_rfl) _ rfl rfl fun vs ev W' hf hI hd => ?_
              have e0 : ev (.tmp 72) = .pointer (some ⟨b, o' + i * 3, none⟩) := (hf.of 3 _ 72 rfl rfl rfl (of_decide_eq_true rfl)).trans (hd 3 (by kernel_rfl))
              have d := HCL.out W' hI
              have d0 := d.2.1
              have d1 := d.2.2.1
              have d2 := d.2.2.2.1
              clear hK7 d
              exact gives_pure (v := .agg #[.int .i64 nd.op, .slice ia m ic, .slice pa m2 pc]) hI (by simp [gives, go_sem, e0, d0, d1, d2]) rfl
            case h5 =>
              refine OpIs.plain (by kernel_rfl) _ rfl rfl fun vs ev W' hf hI hd => ?_
              have e0 : ev (.tmp 5) = .slice (some ⟨O, 0, none⟩) nds.length nds.length := hf.off 5 rfl
              clear hK7
              exact gives_pure (v := .slice (some ⟨O, 0, none⟩) nds.length nds.length) hI (by simp [gives, go_sem, e0]) rfl
            case h6 =>
              refine OpIs.plain (by kernel_rfl) _ rfl rfl fun vs ev W' hf hI hd => ?_
              have e0 : ev (.tmp 8) = .int .i64 i := hf.off 8 rfl
              clear hK7
              exact gives_pure (v := .int .i64 i) hI (by simp [gives, go_sem, e0]) rfl
            case h7 =>
              refine OpIs.plain (by kernel_rfl) _ rfl rfl fun vs ev W' hf hI hd => ?_
              have e0 : ev (.tmp 74) = .slice (some ⟨O, 0, none⟩) nds.length nds.length := (hf.of 5 _ 74 rfl rfl rfl (of_decide_eq_true rfl)).trans (hd 5 (by kernel_rfl))
              have e1 : ev (.tmp 75) = .int .i64 i := (hf.of 6 _ 75 rfl rfl rfl (of_decide_eq_true rfl)).trans (hd 6 (by kernel_rfl))
              clear hK7
              exact gives_pure (v := .pointer (some ⟨O, i * 4, none⟩)) hI (by simp [gives, go_sem, e0, e1, hi0, hi1]) rfl
            case h8 =>
              refine OpIs.plain (by kernel_rfl) _ rfl rfl fun vs ev W' hf hI hd => ?_
              have e0 : ev (.tmp 76) = .pointer (some ⟨O, i * 4, none⟩) := (hf.of 7 _ 76 rfl rfl rfl (of_decide_eq_true rfl)).trans (hd 7 (by kernel_rfl))
              obtain ⟨d0, d1, d2, d3⟩ := rbox_get (HCL.out W' hI).2.2.2.2.2.1 (rl_get f hin)
              clear hK7
              exact gives_pure (v := rv (f i)) hI (by simp [gives, go_sem, e0, d0, d1, d2, d3]) rfl
            case h9 =>
              refine OpIs.plain (by kernel_rfl) _ rfl rfl fun vs ev W' hf hI hd => ?_
              have e0 : ev (.tmp 73) = .agg #[.int .i64 nd.op, .slice ia m ic, .slice pa m2 pc] := (hf.of 4 _ 73 rfl rfl rfl (of_decide_eq_true rfl)).trans (hd 4 (by kernel_rfl))
              have e1 : ev (.tmp 77) = rv (f i) := (hf.of 8 _ 77 rfl rfl rfl (of_decide_eq_true rfl)).trans (hd 8 (by kernel_rfl))
              refine gives_mono (R := fun v w' => ∃ e, e = Ending.returned v ∧ OfPost W' m rr e w') ?_ ?_
              · have hc := HOF.out _ hI
                clear hK7
                have e4 := hf.func 12
                simp [gives, execOp, resolve, invoke, e0, e1, e4, go_sem]
                exact hc.mono fun e w' h => by
                  obtain ⟨P, hP, he, h2⟩ := h
                  exact ⟨_, he, P, hP, rfl, h2⟩
              · rintro v w' ⟨e, he, P, hP, he2, h2, h3⟩
                rw [he] at he2
                cases he2
                exact ⟨⟨P, Nat.le_trans hI.size hP, rfl, h2⟩, hI.trans (h3.mono hI.size), fun j u _ h => h.below h3⟩
            case h10 =>
              refine OpIs.plain (by kernel_rfl) _ rfl rfl fun vs ev W' hf hI hd => ?_
              obtain ⟨P, hP, hv, hPB⟩ := hd 9 (by kernel_rfl)
              have e0 : ev (.tmp 78) = .slice (some ⟨P, 0, none⟩) m m := (hf.of 9 _ 78 rfl rfl rfl (of_decide_eq_true rfl)).trans hv
              clear hK7
              exact gives_pure (v := .slice (some ⟨P, 0, none⟩) m m) hI (by simp [gives, go_sem, e0]) ⟨P, hP, rfl, hPB⟩
          case hend =>
            intro vs W2 hI hT
            obtain ⟨P, hP, v10, hPB⟩ := hT 10 (by decide)
            refine ⟨?_⟩
            simp [fr, Act.put, v10]
            have HPB : Hid (∀ W', Below W2.heap.size W2 W' → Box W' P (rcs (List.replicate m rr))) := fun W' hb => hPB.call hb
            have HI : Hid (Below wc.heap.size wc W2) := hI
            generalize vs 0 = v0 at *
            generalize vs 1 = v1 at *
            generalize vs 2 = v2 at *
            generalize vs 3 = v3 at *
            generalize vs 4 = v4 at *
            generalize vs 5 = v5 at *
            generalize vs 6 = v6 at *
            generalize vs 7 = v7 at *
            generalize vs 8 = v8 at *
            generalize vs 9 = v9 at *
            clear hT v10 hI hPB hP
            refine hK7 _ _ ?_
            clear hK7 HOF
            go_wp2_with fail
            go_loopg [10] m (fun g jv wr => ∃ j : Nat, m ≤ j + g ∧ j ≤ m ∧ jv = .int .i64 j ∧ Below W2.heap.size W2 wr)
            case atStart => exact ⟨0, by omega, by omega, rfl, Below.refl _ _⟩
            case round =>
            obtain ⟨j, hgk2, hj, rfl, hb⟩ := hrel
            generalize gk = gk2 at *
            by_cases hjm : j < m
            rotate_left
            · have ej : j = m := by omega
              subst ej
              have H10 : Hid (Below W8.heap.size W8 wr) := H9.out.trans ((HI.out.trans (hb.mono HI.out.size)).mono H9.out.size)
              clear hb
              go_wp2_with fail
              go_roundg (gk1 - 1)
              case measure => omega
              case rel => exact ⟨i + 1, by omega, by omega, by go_num, H10.out⟩
            obtain ⟨x, hx1, hx2, hx3, hx4, hx5⟩ := HIN.out j hjm
            have hbc : Below wc.heap.size wc wr := HI.out.trans (hb.mono HI.out.size)
            have HC := HCL.out wr hbc
            obtain ⟨ib, io, ic2, hv2, hib, hicell, hic1, hic2⟩ := sl_cells HC.2.2.2.2.1 (by rw [← HND.out.2.1]; omega)
            simp only [Value.slice.injEq] at hv2
            obtain ⟨rfl, hv3, hv4⟩ := hv2
            have cx := hicell j (by rw [← HND.out.2.1]; exact hjm)
            rw [hx2] at cx
            have c0 := HC.1
            have c1 := HC.2.2.1
            obtain ⟨t0, t1, t2, t3⟩ := box4 HC.2.2.2.2.2.2
            have hj0 : (0 : Int) ≤ (j : Int) := by omega
            have hj1 : (j : Int) < (m : Int) := by omega
            have HB2 : Hid (Below W2.heap.size W2 wr ∧ Box wr O (rcs (rl nds.length f))) := ⟨hb, HC.2.2.2.2.2.1⟩
            have HX5 : Hid (WiS rr (there (f, ⟨s0, s1, s2, s3⟩) x)) := hx5
            have e0 := cell_alloc_lt c0 (.cells (cs4 s0 s1 s2 s3) 26)
            have e1 := cell_alloc_lt c1 (.cells (cs4 s0 s1 s2 s3) 26)
            have e2 := cell_alloc_lt cx (.cells (cs4 s0 s1 s2 s3) 26)
            obtain ⟨r0, r1, r2, r3⟩ := rr
            clear hx1 hx2 hx5 hv3 hv4 hicell hib hic1 hic2 HC hb hbc
            by_cases hx0 : x = -1
            · subst hx0
              have HQ0 : Hid (WiS ⟨r0, r1, r2, r3⟩ ⟨s0, s1, s2, s3⟩) := HX5.out
              have H9' : Hid (Box (wr.alloc (.cells (cs4 s0 s1 s2 s3) 26)) wr.heap.size (cl4 ⟨s0, s1, s2, s3⟩) ∧ Below W2.heap.size W2 (wr.alloc (.cells (cs4 s0 s1 s2 s3) 26))) := ⟨Box.new wr _ _, HB2.out.1.trans ((below_new _ _).mono HB2.out.1.size)⟩
              go_wp2_with fail
              obtain ⟨T, hT⟩ : ∃ T, T = wr.heap.size := ⟨_, rfl⟩
              rw [← hT] at H9' ⊢
              clear hT c0 c1 cx t0 t1 t2 t3 e0 e1 e2
              generalize (wr.alloc (.cells (cs4 s0 s1 s2 s3) 26)) = W9 at *
              have H9 : Hid (Box W9 T (cl4 ⟨s0, s1, s2, s3⟩) ∧ Below W2.heap.size W2 W9) := H9'.out
              obtain ⟨q, hq⟩ : ∃ q : Rc, q = ⟨s0, s1, s2, s3⟩ := ⟨_, rfl⟩
              have HQ : Hid (WiS ⟨r0, r1, r2, r3⟩ q) := by rw [hq]; exact HQ0.out
              rw [← hq] at H9
              clear hq H9'
              have HN2 : Hid (∀ s : Kept W9.heap.size W9, Calls Tryd.prog 11 #[.agg #[.int .i64 r0, .int .i64 r1, .int .i64 r2, .int .i64 r3], .agg #[.int .i64 q.x0, .int .i64 q.y0, .int .i64 q.x1, .int .i64 q.y1]] s.w (PPost s.w (.bool true))) := fun s => by
                have := rwithin_c ⟨r0, r1, r2, r3⟩ q s.w HPL.out
                rw [refWi_of HQ.out] at this
                exact this
              obtain ⟨c0, c1, c2, c3⟩ := box4 H9.out.1
              obtain ⟨p0, p1, p2, p3⟩ := rbox_get (HPB.out W9 H9.out.2) (i := j) (r := ⟨r0, r1, r2, r3⟩) (by simp [hjm])
              dsimp only at p0 p1 p2 p3
              have k0 := fun s : Kept W9.heap.size W9 => s.at c0
              have k1 := fun s : Kept W9.heap.size W9 => s.at c1
              have k2 := fun s : Kept W9.heap.size W9 => s.at c2
              have k3 := fun s : Kept W9.heap.size W9 => s.at c3
              have k4 := fun s : Kept W9.heap.size W9 => s.at p0
              have k5 := fun s : Kept W9.heap.size W9 => s.at p1
              have k6 := fun s : Kept W9.heap.size W9 => s.at p2
              have k7 := fun s : Kept W9.heap.size W9 => s.at p3
              clear c0 c1 c2 c3 p0 p1 p2 p3
              refine wp_region_kept W9.heap.size (by kernel_rfl) (by kernel_rfl) ?_
              repeat (go_big_quiet_step (first | (go_at_call 11; with_reducible exact Calls.kept _ (Nat.le_refl _) (HN2.out _))))
              refine wpQuiet_nil ?_
              rintro _ ⟨s, rfl⟩
              have H10 : Hid (Below W2.heap.size W2 s.w) := H9.out.2.trans (s.below.mono H9.out.2.size)
              clear k0 k1 k2 k3 k4 k5 k6 k7
              go_wp2_with fail
              go_roundg (gk2 - 1)
              case measure => omega
              case rel => exact ⟨j + 1, by omega, by omega, by go_num, H10.out⟩
            · obtain ⟨xn, rfl⟩ : ∃ n : Nat, x = n := ⟨x.toNat, by omega⟩
              have hx1 : (0 : Int) ≤ (xn : Int) := by omega
              have hxn : xn < nds.length := by omega
              have HQ0 : Hid (WiS ⟨r0, r1, r2, r3⟩ (f xn)) := by
                have := HX5.out
                unfold there at this
                rw [if_neg hx0, Int.toNat_natCast] at this
                exact this
              obtain ⟨q, hq⟩ : ∃ q : Rc, q = f xn := ⟨_, rfl⟩
              have HQ : Hid (WiS ⟨r0, r1, r2, r3⟩ q) := by rw [hq]; exact HQ0.out
              obtain ⟨d0, d1, d2, d3⟩ := rbox_get HB2.out.2 (rl_get f hxn)
              rw [← hq] at d0 d1 d2 d3
              have H9' : Hid (Box (wr.alloc (.cells (cs4 q.x0 q.y0 q.x1 q.y1) 26)) wr.heap.size (cl4 q) ∧ Below W2.heap.size W2 (wr.alloc (.cells (cs4 q.x0 q.y0 q.x1 q.y1) 26))) := ⟨Box.new wr _ _, HB2.out.1.trans ((below_new _ _).mono HB2.out.1.size)⟩
              have e3 := cell_alloc_lt d0 (.cells (cs4 s0 s1 s2 s3) 26)
              have e4 := cell_alloc_lt d1 (.cells (cs4 s0 s1 s2 s3) 26)
              have e5 := cell_alloc_lt d2 (.cells (cs4 s0 s1 s2 s3) 26)
              have e6 := cell_alloc_lt d3 (.cells (cs4 s0 s1 s2 s3) 26)
              clear d0 d1 d2 d3 hq
              go_wp2_with fail
              obtain ⟨T, hT⟩ : ∃ T, T = wr.heap.size := ⟨_, rfl⟩
              rw [← hT] at H9' ⊢
              clear hT c0 c1 cx t0 t1 t2 t3 e0 e1 e2 e3 e4 e5 e6
              generalize (wr.alloc (.cells (cs4 q.x0 q.y0 q.x1 q.y1) 26)) = W9 at *
              have H9 : Hid (Box W9 T (cl4 q) ∧ Below W2.heap.size W2 W9) := H9'.out
              have HN2 : Hid (∀ s : Kept W9.heap.size W9, Calls Tryd.prog 11 #[.agg #[.int .i64 r0, .int .i64 r1, .int .i64 r2, .int .i64 r3], .agg #[.int .i64 q.x0, .int .i64 q.y0, .int .i64 q.x1, .int .i64 q.y1]] s.w (PPost s.w (.bool true))) := fun s => by
                have := rwithin_c ⟨r0, r1, r2, r3⟩ q s.w HPL.out
                rw [refWi_of HQ.out] at this
                exact this
              obtain ⟨c0, c1, c2, c3⟩ := box4 H9.out.1
              obtain ⟨p0, p1, p2, p3⟩ := rbox_get (HPB.out W9 H9.out.2) (i := j) (r := ⟨r0, r1, r2, r3⟩) (by simp [hjm])
              dsimp only at p0 p1 p2 p3
              have k0 := fun s : Kept W9.heap.size W9 => s.at c0
              have k1 := fun s : Kept W9.heap.size W9 => s.at c1
              have k2 := fun s : Kept W9.heap.size W9 => s.at c2
              have k3 := fun s : Kept W9.heap.size W9 => s.at c3
              have k4 := fun s : Kept W9.heap.size W9 => s.at p0
              have k5 := fun s : Kept W9.heap.size W9 => s.at p1
              have k6 := fun s : Kept W9.heap.size W9 => s.at p2
              have k7 := fun s : Kept W9.heap.size W9 => s.at p3
              clear c0 c1 c2 c3 p0 p1 p2 p3
              refine wp_region_kept W9.heap.size (by kernel_rfl) (by kernel_rfl) ?_
              repeat (go_big_quiet_step (first | (go_at_call 11; with_reducible exact Calls.kept _ (Nat.le_refl _) (HN2.out _))))
              refine wpQuiet_nil ?_
              rintro _ ⟨s, rfl⟩
              have H10 : Hid (Below W2.heap.size W2 s.w) := H9.out.2.trans (s.below.mono H9.out.2.size)
              clear k0 k1 k2 k3 k4 k5 k6 k7
              go_wp2_with fail
              go_roundg (gk2 - 1)
              case measure => omega
              case rel => exact ⟨j + 1, by omega, by omega, by go_num, H10.out⟩
        · have ei : i = nds.length := by omega
          subst ei
          have HE : Hid (Below w.heap.size w wr) := (HFX.out wr hb).1.2.2
          go_wp2_with fail
          go_ret
          exact ⟨rfl, HE.out⟩
end Go.Proofs.YtfjeohnigikmoaaDoor
/-! ### the law -/
namespace Go.Proofs.YtfjeohnigikmoaaDoor
open Go.RowKit Go.Bx Go.Od Go.Hp Go.ChangeShapes Go.WideShapes Go.ChangeAt
set_option linter.unusedVariables false
section
variable {H : Type} {enc : TypeId × Value → H} {W : World} {base : Nat}
theorem needCovers.needCovers_law (W : World) (ht : Tabs W) {v0 v1 : Value} {d0 d1 : DataW H} {p0 p1 : List MemPlace}
    (h0 : DataW.Trod enc Tryd.prog W 0 (fun _ => true) true 24 v0 d0 p0) (h1 : DataW.Trod enc Tryd.prog W 0 (fun _ => true) true 26 v1 d1 p1)
    (k0 : Value.okWide Tryd.prog W .any base 24 v0) (k1 : Value.okWide Tryd.prog W .any base 26 v1) :
    Calls Tryd.prog 3 #[v0, v1] W (TPost W) := by
  obtain ⟨nv, out, nds, rfl, hg, hout⟩ := graph_arg h0 k0
  obtain ⟨r, rfl⟩ := rect_arg h1 k1
  exact needCovers_walk nv nds out r W ht hg
end
end Go.Proofs.YtfjeohnigikmoaaDoor
