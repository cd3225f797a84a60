/- Texts joined: XZs. -/
import Derived.Test.YtaoamkbcegadcaaGreatDoorZo
import Derived.Test.YtaoamkbcegadcaaGreatDoorAb
set_option maxRecDepth 4000
/- Layer 20: the document's Same (layer 19), of two plans that are alike. -/
namespace Go.Proofs.YtaoamkbcegadcaaGreatDoor
open Go.RowKit Go.Bx Go.Od Go.Hp
attribute [local go_sem ↓] Go.wp_at_zero Go.wp_at_succ
set_option linter.unusedVariables false

set_option maxRecDepth 4000 in
set_option maxHeartbeats 6400000 in
theorem same19_c {B : Nat} {pv qv : Value} {p : Pn} (w : World) (hp : Gp B w pv p.ps) (hq : Gp B w qv p.ps) (hB : B ≤ w.heap.size) (hP : p.ps.length ≤ 1000) :
    Calls Tryz.prog 10 #[pnv pv p, pnv qv p] w (PPost w (.bool true)) := by
  obtain ⟨a, ac, rfl⟩ := hp.isSl
  obtain ⟨b, bc, rfl⟩ := hq.isSl
  obtain ⟨ps, ⟨s0, s1, s2, s3⟩, sn, pk⟩ := p
  dsimp only at hp hq hP ⊢
  obtain ⟨P, hPe⟩ : ∃ P, P = ps.length := ⟨_, rfl⟩
  have HPE : Hid (P = ps.length) := hPe
  have HG : Hid (Gp B w (.slice a ps.length ac) ps ∧ Gp B w (.slice b ps.length bc) ps ∧ B ≤ w.heap.size) := ⟨hp, hq, hB⟩
  rw [← hPe] at hP ⊢
  have hne : ∀ W, (binOp .neq 26 (.agg #[.int .i64 s0, .int .i64 s1, .int .i64 s2, .int .i64 s3]) (.agg #[.int .i64 s0, .int .i64 s1, .int .i64 s2, .int .i64 s3])).run Tryz.prog W = .ok (.bool false) W := fun W => neqR s0 s1 s2 s3 W
  have X := (Box.new w [.slice a P ac, .int .i64 s0, .int .i64 s1, .int .i64 s2, .int .i64 s3, .int .i64 sn, .int .i64 pk] 33).alloc (.cells #[.slice b P bc, .int .i64 s0, .int .i64 s1, .int .i64 s2, .int .i64 s3, .int .i64 sn, .int .i64 pk] 33)
  have Y := Box.new (w.alloc (.cells #[.slice a P ac, .int .i64 s0, .int .i64 s1, .int .i64 s2, .int .i64 s3, .int .i64 sn, .int .i64 pk] 33)) [.slice b P bc, .int .i64 s0, .int .i64 s1, .int .i64 s2, .int .i64 s3, .int .i64 sn, .int .i64 pk] 33
  simp only [size_alloc] at Y
  have hb2 := (below_new w (.cells #[.slice a P ac, .int .i64 s0, .int .i64 s1, .int .i64 s2, .int .i64 s3, .int .i64 sn, .int .i64 pk] 33)).alloc (below_new w (.cells #[.slice a P ac, .int .i64 s0, .int .i64 s1, .int .i64 s2, .int .i64 s3, .int .i64 sn, .int .i64 pk] 33)).size (.cells #[.slice b P bc, .int .i64 s0, .int .i64 s1, .int .i64 s2, .int .i64 s3, .int .i64 sn, .int .i64 pk] 33)
  have H0 : Hid (Box ((w.alloc (.cells #[.slice a P ac, .int .i64 s0, .int .i64 s1, .int .i64 s2, .int .i64 s3, .int .i64 sn, .int .i64 pk] 33)).alloc (.cells #[.slice b P bc, .int .i64 s0, .int .i64 s1, .int .i64 s2, .int .i64 s3, .int .i64 sn, .int .i64 pk] 33)) w.heap.size [.slice a P ac, .int .i64 s0, .int .i64 s1, .int .i64 s2, .int .i64 s3, .int .i64 sn, .int .i64 pk] ∧ Box ((w.alloc (.cells #[.slice a P ac, .int .i64 s0, .int .i64 s1, .int .i64 s2, .int .i64 s3, .int .i64 sn, .int .i64 pk] 33)).alloc (.cells #[.slice b P bc, .int .i64 s0, .int .i64 s1, .int .i64 s2, .int .i64 s3, .int .i64 sn, .int .i64 pk] 33)) (w.heap.size + 1) [.slice b P bc, .int .i64 s0, .int .i64 s1, .int .i64 s2, .int .i64 s3, .int .i64 sn, .int .i64 pk] ∧ Below w.heap.size w ((w.alloc (.cells #[.slice a P ac, .int .i64 s0, .int .i64 s1, .int .i64 s2, .int .i64 s3, .int .i64 sn, .int .i64 pk] 33)).alloc (.cells #[.slice b P bc, .int .i64 s0, .int .i64 s1, .int .i64 s2, .int .i64 s3, .int .i64 sn, .int .i64 pk] 33))) := ⟨X, Y, hb2⟩
  clear hp hq hB hPe X Y hb2
  go_enter Tryz.func10, Tryz.ntmps10
  go_wp2_with fail
  go_loopw [5] (fun iv wr => ∃ i : Nat, i ≤ P ∧ iv = .int .i64 i ∧ Hid (Box wr w.heap.size [.slice a P ac, .int .i64 s0, .int .i64 s1, .int .i64 s2, .int .i64 s3, .int .i64 sn, .int .i64 pk] ∧ Box wr (w.heap.size + 1) [.slice b P bc, .int .i64 s0, .int .i64 s1, .int .i64 s2, .int .i64 s3, .int .i64 sn, .int .i64 pk] ∧ Below w.heap.size w wr)) (fun iv _ => P - (intOf iv).toNat)
  case atStart => exact ⟨0, by omega, rfl, H0⟩
  case round =>
    obtain ⟨i, hi, rfl, hw⟩ := hrel
    have x0 := hw.out.1.cell 0 rfl
    by_cases h1 : i < P
    · have hip : i < ps.length := by rw [← HPE.out]; exact h1
      obtain ⟨y, hy⟩ : ∃ y, y = ps.getD i Ps.none := ⟨_, rfl⟩
      obtain ⟨b1, o1, na, nc, ra, rc, rfl, hbB, hpc, hs1, hs2⟩ := (HG.out.1.below hw.out.2.2 HG.out.2.2).at hip hy
      obtain ⟨b2, o2, na', nc', ra', rc', rfl, hbB', hpc', hs1', hs2'⟩ := (HG.out.2.1.below hw.out.2.2 HG.out.2.2).at hip hy
      obtain ⟨k0, k1, k2, k3, k4, k5, k6, k7⟩ := hpc
      obtain ⟨l0, l1, l2, l3, l4, l5, l6, l7⟩ := hpc'
      have y0 := hw.out.2.1.cell 0 rfl
      have hbs : w.heap.size < wr.heap.size := hw.out.1.lt
      have hbs1 : w.heap.size + 1 < wr.heap.size := hw.out.2.1.lt
      have hb1 : b1 < wr.heap.size := lt_of_cell k0
      have hb2 : b2 < wr.heap.size := lt_of_cell l0
      have HSL : Hid (SlOf RInt 1 (· < B) wr (.slice na y.nodes.length nc) (ofN y.nodes) ∧ SlOf RInt 1 (· < B) wr (.slice na' y.nodes.length nc') (ofN y.nodes) ∧ SlOf RInt 1 (· < B) wr (.slice ra y.reads.length rc) y.reads ∧ SlOf RInt 1 (· < B) wr (.slice ra' y.reads.length rc') y.reads ∧ B ≤ wr.heap.size) := ⟨hs1, hs1', hs2, hs2', Nat.le_trans HG.out.2.2 hw.out.2.2.size⟩
      have hnb : ∀ W, (binOp .neq 26 (.agg #[.int .i64 y.box.x0, .int .i64 y.box.y0, .int .i64 y.box.x1, .int .i64 y.box.y1]) (.agg #[.int .i64 y.box.x0, .int .i64 y.box.y0, .int .i64 y.box.x1, .int .i64 y.box.y1])).run Tryz.prog W = .ok (.bool false) W := fun W => neqR y.box.x0 y.box.y0 y.box.x1 y.box.y1 W
      have HE1 : Hid (∀ W, Below wr.heap.size wr W → Calls Tryz.prog 22 #[.slice na y.nodes.length nc, .slice na' y.nodes.length nc'] W (PPost W (.bool true))) := fun W hW => by
        have h := equal_c _ _ _ _ W (sl_below HSL.out.1 (hW.mono HSL.out.2.2.2.2)) (sl_below HSL.out.2.1 (hW.mono HSL.out.2.2.2.2))
        rw [decide_eq_true rfl] at h
        exact h
      have HE2 : Hid (∀ W, Below wr.heap.size wr W → Calls Tryz.prog 22 #[.slice ra y.reads.length rc, .slice ra' y.reads.length rc'] W (PPost W (.bool true))) := fun W hW => by
        have h := equal_c _ _ _ _ W (sl_below HSL.out.2.2.1 (hW.mono HSL.out.2.2.2.2)) (sl_below HSL.out.2.2.2.1 (hW.mono HSL.out.2.2.2.2))
        rw [decide_eq_true rfl] at h
        exact h
      have hi0 : (0 : Int) ≤ (i : Int) := by omega
      have hi1 : (i : Int) < (P : Int) := by omega
      have HY : Hid (y = ps.getD i Ps.none) := hy
      clear hy hip hs1 hs2 hs1' hs2'
      have H1 : Hid (Box ((wr.alloc (.cells #[.slice na y.nodes.length nc, .slice ra y.reads.length rc, .int .i64 y.box.x0, .int .i64 y.box.y0, .int .i64 y.box.x1, .int .i64 y.box.y1, .int .i64 y.slot, .int .i64 y.last] 37)).alloc (.cells #[.slice na' y.nodes.length nc', .slice ra' y.reads.length rc', .int .i64 y.box.x0, .int .i64 y.box.y0, .int .i64 y.box.x1, .int .i64 y.box.y1, .int .i64 y.slot, .int .i64 y.last] 37)) wr.heap.size [.slice na y.nodes.length nc, .slice ra y.reads.length rc, .int .i64 y.box.x0, .int .i64 y.box.y0, .int .i64 y.box.x1, .int .i64 y.box.y1, .int .i64 y.slot, .int .i64 y.last] ∧ Box ((wr.alloc (.cells #[.slice na y.nodes.length nc, .slice ra y.reads.length rc, .int .i64 y.box.x0, .int .i64 y.box.y0, .int .i64 y.box.x1, .int .i64 y.box.y1, .int .i64 y.slot, .int .i64 y.last] 37)).alloc (.cells #[.slice na' y.nodes.length nc', .slice ra' y.reads.length rc', .int .i64 y.box.x0, .int .i64 y.box.y0, .int .i64 y.box.x1, .int .i64 y.box.y1, .int .i64 y.slot, .int .i64 y.last] 37)) (wr.heap.size + 1) [.slice na' y.nodes.length nc', .slice ra' y.reads.length rc', .int .i64 y.box.x0, .int .i64 y.box.y0, .int .i64 y.box.x1, .int .i64 y.box.y1, .int .i64 y.slot, .int .i64 y.last] ∧ Below wr.heap.size wr ((wr.alloc (.cells #[.slice na y.nodes.length nc, .slice ra y.reads.length rc, .int .i64 y.box.x0, .int .i64 y.box.y0, .int .i64 y.box.x1, .int .i64 y.box.y1, .int .i64 y.slot, .int .i64 y.last] 37)).alloc (.cells #[.slice na' y.nodes.length nc', .slice ra' y.reads.length rc', .int .i64 y.box.x0, .int .i64 y.box.y0, .int .i64 y.box.x1, .int .i64 y.box.y1, .int .i64 y.slot, .int .i64 y.last] 37))) := by
        have hX := (Box.new wr [.slice na y.nodes.length nc, .slice ra y.reads.length rc, .int .i64 y.box.x0, .int .i64 y.box.y0, .int .i64 y.box.x1, .int .i64 y.box.y1, .int .i64 y.slot, .int .i64 y.last] 37).alloc (.cells #[.slice na' y.nodes.length nc', .slice ra' y.reads.length rc', .int .i64 y.box.x0, .int .i64 y.box.y0, .int .i64 y.box.x1, .int .i64 y.box.y1, .int .i64 y.slot, .int .i64 y.last] 37)
        have hY := Box.new (wr.alloc (.cells #[.slice na y.nodes.length nc, .slice ra y.reads.length rc, .int .i64 y.box.x0, .int .i64 y.box.y0, .int .i64 y.box.x1, .int .i64 y.box.y1, .int .i64 y.slot, .int .i64 y.last] 37)) [.slice na' y.nodes.length nc', .slice ra' y.reads.length rc', .int .i64 y.box.x0, .int .i64 y.box.y0, .int .i64 y.box.x1, .int .i64 y.box.y1, .int .i64 y.slot, .int .i64 y.last] 37
        simp only [size_alloc] at hY
        exact ⟨hX, hY, (below_new _ _).alloc (below_new _ _).size _⟩
      go_wp2_with fail
      with_reducible refine (HE1.out _ H1.out.2.2).mono ?_
      rintro e w5 ⟨rfl, hb5⟩
      have H5 : Hid (Box w5 wr.heap.size [.slice na y.nodes.length nc, .slice ra y.reads.length rc, .int .i64 y.box.x0, .int .i64 y.box.y0, .int .i64 y.box.x1, .int .i64 y.box.y1, .int .i64 y.slot, .int .i64 y.last] ∧ Box w5 (wr.heap.size + 1) [.slice na' y.nodes.length nc', .slice ra' y.reads.length rc', .int .i64 y.box.x0, .int .i64 y.box.y0, .int .i64 y.box.x1, .int .i64 y.box.y1, .int .i64 y.slot, .int .i64 y.last] ∧ Below wr.heap.size wr w5) := ⟨H1.out.1.call hb5, H1.out.2.1.call hb5, H1.out.2.2.trans (hb5.mono H1.out.2.2.size)⟩
      clear hb5 H1 k0 k1 k2 k3 k4 k5 k6 k7 l0 l1 l2 l3 l4 l5 l6 l7
      have u0 := H5.out.1.cell 0 rfl
      have v0 := H5.out.2.1.cell 0 rfl
      have u1 := H5.out.1.cell 1 rfl
      have v1 := H5.out.2.1.cell 1 rfl
      have u2 := H5.out.1.cell 2 rfl
      have v2 := H5.out.2.1.cell 2 rfl
      have u3 := H5.out.1.cell 3 rfl
      have v3 := H5.out.2.1.cell 3 rfl
      have u4 := H5.out.1.cell 4 rfl
      have v4 := H5.out.2.1.cell 4 rfl
      have u5 := H5.out.1.cell 5 rfl
      have v5 := H5.out.2.1.cell 5 rfl
      have u6 := H5.out.1.cell 6 rfl
      have v6 := H5.out.2.1.cell 6 rfl
      have u7 := H5.out.1.cell 7 rfl
      have v7 := H5.out.2.1.cell 7 rfl
      go_wp2_with fail
      with_reducible refine (HE2.out _ H5.out.2.2).mono ?_
      rintro e w6 ⟨rfl, hb6⟩
      have H6 : Hid (Box w6 wr.heap.size [.slice na y.nodes.length nc, .slice ra y.reads.length rc, .int .i64 y.box.x0, .int .i64 y.box.y0, .int .i64 y.box.x1, .int .i64 y.box.y1, .int .i64 y.slot, .int .i64 y.last] ∧ Box w6 (wr.heap.size + 1) [.slice na' y.nodes.length nc', .slice ra' y.reads.length rc', .int .i64 y.box.x0, .int .i64 y.box.y0, .int .i64 y.box.x1, .int .i64 y.box.y1, .int .i64 y.slot, .int .i64 y.last] ∧ Below wr.heap.size wr w6) := ⟨H5.out.1.call hb6, H5.out.2.1.call hb6, H5.out.2.2.trans (hb6.mono H5.out.2.2.size)⟩
      clear hb6 H5
      clear u0 v0 u1 v1 u2 v2 u3 v3 u4 v4 u5 v5 u6 v6 u7 v7
      have u0 := H6.out.1.cell 0 rfl
      have v0 := H6.out.2.1.cell 0 rfl
      have u1 := H6.out.1.cell 1 rfl
      have v1 := H6.out.2.1.cell 1 rfl
      have u2 := H6.out.1.cell 2 rfl
      have v2 := H6.out.2.1.cell 2 rfl
      have u3 := H6.out.1.cell 3 rfl
      have v3 := H6.out.2.1.cell 3 rfl
      have u4 := H6.out.1.cell 4 rfl
      have v4 := H6.out.2.1.cell 4 rfl
      have u5 := H6.out.1.cell 5 rfl
      have v5 := H6.out.2.1.cell 5 rfl
      have u6 := H6.out.1.cell 6 rfl
      have v6 := H6.out.2.1.cell 6 rfl
      have u7 := H6.out.1.cell 7 rfl
      have v7 := H6.out.2.1.cell 7 rfl
      go_wp2_with fail
      have HB : Hid (Box w6 w.heap.size [.slice (some ⟨b1, o1, none⟩) P ac, .int .i64 s0, .int .i64 s1, .int .i64 s2, .int .i64 s3, .int .i64 sn, .int .i64 pk] ∧ Box w6 (w.heap.size + 1) [.slice (some ⟨b2, o2, none⟩) P bc, .int .i64 s0, .int .i64 s1, .int .i64 s2, .int .i64 s3, .int .i64 sn, .int .i64 pk] ∧ Below w.heap.size w w6) := ⟨hw.out.1.call H6.out.2.2, hw.out.2.1.call H6.out.2.2, hw.out.2.2.trans (H6.out.2.2.mono hw.out.2.2.size)⟩
      go_roundw
      case rel => exact ⟨i + 1, by omega, by go_num, HB⟩
      case measure => simp [intOf]; omega
    · have ei : i = P := by omega
      subst ei
      go_wp2_with fail
      go_ret
      exact ⟨rfl, hw.out.2.2⟩
end Go.Proofs.YtaoamkbcegadcaaGreatDoor
