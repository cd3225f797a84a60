/- Texts joined: XEd. -/
import Derived.Test.YtgodhpampaleeaaDoorEb
set_option maxRecDepth 4000
/- Layer 7: what a matrix makes of nothing; Calm. (Printed by mk_ed.py.) -/
namespace Go.Proofs.YtgodhpampaleeaaDoor
open Go.RowKit Go.Bx Go.Od Go.Hp
attribute [local go_sem ↓] Go.wp_at_zero Go.wp_at_succ
set_option linter.unusedVariables false

set_option maxHeartbeats 1600000 in
theorem row0_c (b o c : Nat) (x : Nat → Int) (w : World) (h : ∀ j, j < 5 → w.cell? ⟨b, o + j, none⟩ = some (.int .i64 (x j))) (hx : ∀ j, j < 5 → -32768 ≤ x j ∧ x j ≤ 32767) (hc : 5 ≤ c) (hcm : c ≤ maxLen) :
    Calls Tryd.prog 70 #[.slice (some ⟨b, o, none⟩) 5 c, .agg #[.int .u8 0, .int .u8 0, .int .u8 0, .int .u8 0]] w (PPost w (.int .u8 (cutU ((255 * x 4 + 128) / 256)))) := by
  unfold maxLen at hcm
  have H0 : Hid (Bag w (w.alloc (.cells #[.int .u8 0, .int .u8 0, .int .u8 0, .int .u8 0] 27)) [(w.heap.size, [.int .u8 0, .int .u8 0, .int .u8 0, .int .u8 0])]) := bag1 w [.int .u8 0, .int .u8 0, .int .u8 0, .int .u8 0] _
  have HC : Hid (∀ j, j < 5 → (w.alloc (.cells #[.int .u8 0, .int .u8 0, .int .u8 0, .int .u8 0] 27)).cell? ⟨b, o + j, none⟩ = some (.int .i64 (x j))) := fun j hj => cell_alloc_lt (h j hj) _
  have HX : Hid (∀ j, j < 5 → -32768 ≤ x j ∧ x j ≤ 32767) := hx
  obtain ⟨b4, b5⟩ := hx 4 (by omega)
  obtain ⟨y, hy⟩ : ∃ y, y = x 4 := ⟨_, rfl⟩
  have HY : Hid (y = x 4) := Lib.hid hy
  rw [← hy] at b4 b5 ⊢
  clear h hx hy
  go_enter Tryd.func70, Tryd.ntmps70
  have c4 : (w.alloc (.cells #[.int .u8 0, .int .u8 0, .int .u8 0, .int .u8 0] 27)).cell? ⟨b, o + 4, none⟩ = some (.int .i64 y) := by rw [HY.out]; exact HC.out 4 (by omega)
  go_wp2_with fail
  clear c4
  generalize w.alloc (.cells #[.int .u8 0, .int .u8 0, .int .u8 0, .int .u8 0] 27) = W0 at *
  go_loop [5, 14] (fun nv jv => ∃ j : Nat, j ≤ 4 ∧ jv = .int .i64 j ∧ nv = .int .i64 (255 * y + 128)) (fun _ jv => 4 - (intOf jv).toNat)
  case atStart => exact ⟨0, by omega, rfl, rfl⟩
  case round =>
    obtain ⟨j, hj, rfl, rfl⟩ := hrel
    match j, hj with
    | 0, _ =>
      obtain ⟨z, hz⟩ : ∃ z, z = x 0 := ⟨_, rfl⟩
      have c0 : W0.cell? ⟨b, o, none⟩ = some (.int .i64 z) := by rw [hz]; exact HC.out 0 (by omega)
      have i0 : ∀ w, (Instr.index 27 (.agg #[.int .u8 0, .int .u8 0, .int .u8 0, .int .u8 0]) (.int .i64 0)).run Tryd.prog w = .ok (.int .u8 0) w := fun _ => by kernel_rfl
      clear hz
      go_wp2_with fail
      go_round
      case rel => exact ⟨1, by omega, by go_num, by go_num⟩
      case measure => simp [intOf]
    | 1, _ =>
      obtain ⟨z, hz⟩ : ∃ z, z = x 1 := ⟨_, rfl⟩
      have c0 : W0.cell? ⟨b, o + 1, none⟩ = some (.int .i64 z) := by rw [hz]; exact HC.out 1 (by omega)
      have i0 : ∀ w, (Instr.index 27 (.agg #[.int .u8 0, .int .u8 0, .int .u8 0, .int .u8 0]) (.int .i64 1)).run Tryd.prog w = .ok (.int .u8 0) w := fun _ => by kernel_rfl
      clear hz
      go_wp2_with fail
      go_round
      case rel => exact ⟨2, by omega, by go_num, by go_num⟩
      case measure => simp [intOf]
    | 2, _ =>
      obtain ⟨z, hz⟩ : ∃ z, z = x 2 := ⟨_, rfl⟩
      have c0 : W0.cell? ⟨b, o + 2, none⟩ = some (.int .i64 z) := by rw [hz]; exact HC.out 2 (by omega)
      have i0 : ∀ w, (Instr.index 27 (.agg #[.int .u8 0, .int .u8 0, .int .u8 0, .int .u8 0]) (.int .i64 2)).run Tryd.prog w = .ok (.int .u8 0) w := fun _ => by kernel_rfl
      clear hz
      go_wp2_with fail
      go_round
      case rel => exact ⟨3, by omega, by go_num, by go_num⟩
      case measure => simp [intOf]
    | 3, _ =>
      obtain ⟨z, hz⟩ : ∃ z, z = x 3 := ⟨_, rfl⟩
      have c0 : W0.cell? ⟨b, o + 3, none⟩ = some (.int .i64 z) := by rw [hz]; exact HC.out 3 (by omega)
      have i0 : ∀ w, (Instr.index 27 (.agg #[.int .u8 0, .int .u8 0, .int .u8 0, .int .u8 0]) (.int .i64 3)).run Tryd.prog w = .ok (.int .u8 0) w := fun _ => by kernel_rfl
      clear hz
      go_wp2_with fail
      go_round
      case rel => exact ⟨4, by omega, by go_num, by go_num⟩
      case measure => simp [intOf]
    | 4, _ =>
      have HT : Hid (Below w.heap.size w W0) := H0.out.below
      go_wp2_with fail
      refine (cutT_c _ W0).mono ?_; rintro e W1 ⟨rfl, hb1⟩
      have HB : Hid (Below w.heap.size w W1) := HT.out.trans (hb1.mono HT.out.size)
      clear hb1
      go_wp2_with fail
      go_ret
      exact ⟨rfl, HB.out⟩
    | j + 5, hj => omega
def rowO (xs : List Int) (k : Nat) : Int := cutU ((255 * xs.getD (5 * k + 4) 0 + 128) / 256)
def rowsP (xs : List Int) (j : Nat) : List Value := [.int .u8 (if 0 < j then rowO xs 0 else 0), .int .u8 (if 1 < j then rowO xs 1 else 0), .int .u8 (if 2 < j then rowO xs 2 else 0), .int .u8 (if 3 < j then rowO xs 3 else 0)]
def pixZ (xs : List Int) : Px := thkP ⟨rowO xs 0, rowO xs 1, rowO xs 2, rowO xs 3⟩
theorem pixZ_calm (xs : List Int) : pxEq (pixZ xs) Px.zero = calmB xs := by
  have h3 : (pixZ xs).a = rowO xs 3 := rfl
  rw [Bool.eq_iff_iff, pxEq_iff]
  unfold calmB
  rw [decide_eq_true_iff]
  constructor
  · intro h
    rw [h] at h3
    have h4 : (0 : Int) = cutU ((255 * xs.getD 19 0 + 128) / 256) := h3
    unfold cutU at h4
    omega
  · intro h
    have h4 : rowO xs 3 = 0 := by
      show cutU ((255 * xs.getD 19 0 + 128) / 256) = 0
      unfold cutU
      omega
    unfold pixZ thkP
    rw [h4]
    simp [mulU, Px.zero]
set_option maxRecDepth 4000 in
set_option maxHeartbeats 6400000 in
theorem pixel0_t (b o c : Nat) (xs : List Int) (w : World) (h : ∀ j, j < 20 → w.cell? ⟨b, o + j, none⟩ = some (.int .i64 (xs.getD j 0))) (hx : ∀ j, j < 20 → -32768 ≤ xs.getD j 0 ∧ xs.getD j 0 ≤ 32767) (hc : 20 ≤ c) (hcm : c ≤ maxLen) :
    Calls Tryd.prog 66 #[.slice (some ⟨b, o, none⟩) 20 c, .agg #[.int .u8 0, .int .u8 0, .int .u8 0, .int .u8 0]] w (PPost w (pxv (pixZ xs))) := by
  have H0 : Hid (Bag w ((w.alloc (.cells #[.int .u8 0, .int .u8 0, .int .u8 0, .int .u8 0] 27)).alloc (.cells #[.int .u8 0, .int .u8 0, .int .u8 0, .int .u8 0] 27)) [(w.heap.size, [.int .u8 0, .int .u8 0, .int .u8 0, .int .u8 0]), (w.heap.size + 1, [.int .u8 0, .int .u8 0, .int .u8 0, .int .u8 0])]) := bag2 w [.int .u8 0, .int .u8 0, .int .u8 0, .int .u8 0] [.int .u8 0, .int .u8 0, .int .u8 0, .int .u8 0] _ _
  have HR : Hid (∀ W k, Below w.heap.size w W → k < 4 → Calls Tryd.prog 70 #[.slice (some ⟨b, o + 5 * k, none⟩) 5 (c - 5 * k), .agg #[.int .u8 0, .int .u8 0, .int .u8 0, .int .u8 0]] W (PPost W (.int .u8 (rowO xs k)))) := fun W k hb hk => by
    refine row0_c b (o + 5 * k) (c - 5 * k) (fun j => xs.getD (5 * k + j) 0) W (fun j hj => ?_) (fun j hj => hx _ (by omega)) (by omega) (by unfold maxLen at hcm ⊢; omega)
    have h1 := h (5 * k + j) (by omega)
    rw [show o + 5 * k + j = o + (5 * k + j) by omega, hb.cell (lt_of_cell h1)]
    exact h1
  unfold maxLen at hcm
  have hc0 : ¬ c = 0 := by omega
  have hc5 : ¬ c = 5 := by omega
  have hc10 : ¬ c = 10 := by omega
  have hc15 : ¬ c = 15 := by omega
  have g1 : 5 ≤ c := by omega
  have g2 : 10 ≤ c := by omega
  have g3 : 15 ≤ c := by omega
  have HTK : Hid (Px.Ok ⟨rowO xs 0, rowO xs 1, rowO xs 2, rowO xs 3⟩) := ⟨cutU_byte _, cutU_byte _, cutU_byte _, cutU_byte _⟩
  obtain ⟨R, hR⟩ : ∃ R, R = pixZ xs := ⟨_, rfl⟩
  have HRR : Hid (R = thkP ⟨rowO xs 0, rowO xs 1, rowO xs 2, rowO xs 3⟩) := by
    have := hR
    unfold pixZ at this
    exact this
  rw [← hR]
  clear h hx hR
  go_enter Tryd.func66, Tryd.ntmps66
  go_wp2_with fail
  generalize ((w.alloc (.cells #[.int .u8 0, .int .u8 0, .int .u8 0, .int .u8 0] 27)).alloc (.cells #[.int .u8 0, .int .u8 0, .int .u8 0, .int .u8 0] 27)) = W0 at *
  have p0 : W0.cell? ⟨w.heap.size, 0, none⟩ = some (.int .u8 0) := H0.out.cell 0 rfl 0 rfl
  have p1 : W0.cell? ⟨w.heap.size, 1, none⟩ = some (.int .u8 0) := H0.out.cell 0 rfl 1 rfl
  have p2 : W0.cell? ⟨w.heap.size, 2, none⟩ = some (.int .u8 0) := H0.out.cell 0 rfl 2 rfl
  have p3 : W0.cell? ⟨w.heap.size, 3, none⟩ = some (.int .u8 0) := H0.out.cell 0 rfl 3 rfl
  go_wp2_with fail
  have HP : Hid (∀ W, Calls Tryd.prog 69 #[.agg #[.int .u8 0, .int .u8 0, .int .u8 0, .int .u8 0]] W (PPost W (.agg #[.int .u8 0, .int .u8 0, .int .u8 0, .int .u8 0]))) := fun W => plain_c Px.zero W rfl
  refine (HP.out W0).mono ?_; rintro e W1 ⟨rfl, hb1⟩
  have H1 : Hid (Bag w W1 [(w.heap.size, [.int .u8 0, .int .u8 0, .int .u8 0, .int .u8 0]), (w.heap.size + 1, [.int .u8 0, .int .u8 0, .int .u8 0, .int .u8 0])]) := H0.out.call hb1
  have H2 : Hid (Bag w ((W1.alloc (.cells #[.int .u8 0, .int .u8 0, .int .u8 0, .int .u8 0] 27)).alloc (.cells #[.int .u8 0, .int .u8 0, .int .u8 0, .int .u8 0] 27)) [(w.heap.size, [.int .u8 0, .int .u8 0, .int .u8 0, .int .u8 0]), (w.heap.size + 1, [.int .u8 0, .int .u8 0, .int .u8 0, .int .u8 0]), (W1.heap.size, [.int .u8 0, .int .u8 0, .int .u8 0, .int .u8 0]), (W1.heap.size + 1, rowsP xs 0)]) := by
    have h := ((H1.out.alloc [.int .u8 0, .int .u8 0, .int .u8 0, .int .u8 0] 27).alloc (rowsP xs 0) 27)
    simp only [size_alloc, List.cons_append, List.nil_append] at h
    exact h
  clear p0 p1 p2 p3 hb1 H0 H1 HP
  go_wp2_with fail
  generalize ((W1.alloc (.cells #[.int .u8 0, .int .u8 0, .int .u8 0, .int .u8 0] 27)).alloc (.cells #[.int .u8 0, .int .u8 0, .int .u8 0, .int .u8 0] 27)) = W2 at *
  go_wp2_with fail
  go_loopw [10] (fun jv wr => ∃ j : Nat, j ≤ 4 ∧ jv = .int .i64 j ∧ Bag w wr [(w.heap.size, [.int .u8 0, .int .u8 0, .int .u8 0, .int .u8 0]), (w.heap.size + 1, [.int .u8 0, .int .u8 0, .int .u8 0, .int .u8 0]), (W1.heap.size, [.int .u8 0, .int .u8 0, .int .u8 0, .int .u8 0]), (W1.heap.size + 1, rowsP xs j)]) (fun jv _ => 4 - (intOf jv).toNat)
  case atStart => exact ⟨0, by omega, rfl, H2.out⟩
  case round =>
    obtain ⟨j, hj, rfl, hr⟩ := hrel
    have H3 : Hid (Bag w wr [(w.heap.size, [.int .u8 0, .int .u8 0, .int .u8 0, .int .u8 0]), (w.heap.size + 1, [.int .u8 0, .int .u8 0, .int .u8 0, .int .u8 0]), (W1.heap.size, [.int .u8 0, .int .u8 0, .int .u8 0, .int .u8 0]), (W1.heap.size + 1, rowsP xs j)]) := Lib.hid hr
    clear hr H2
    match j, hj with
    | 0, _ =>
      have a0 : wr.cell? ⟨W1.heap.size, 0, none⟩ = some (.int .u8 0) := H3.out.cell 2 rfl 0 rfl
      have a1 : wr.cell? ⟨W1.heap.size, 1, none⟩ = some (.int .u8 0) := H3.out.cell 2 rfl 1 rfl
      have a2 : wr.cell? ⟨W1.heap.size, 2, none⟩ = some (.int .u8 0) := H3.out.cell 2 rfl 2 rfl
      have a3 : wr.cell? ⟨W1.heap.size, 3, none⟩ = some (.int .u8 0) := H3.out.cell 2 rfl 3 rfl
      have k0 := fun s : Kept wr.heap.size wr => s.at a0
      have k1 := fun s : Kept wr.heap.size wr => s.at a1
      have k2 := fun s : Kept wr.heap.size wr => s.at a2
      have k3 := fun s : Kept wr.heap.size wr => s.at a3
      obtain ⟨z, hz⟩ : ∃ z, z = rowO xs 0 := ⟨_, rfl⟩
      have HC : Hid (∀ s : Kept wr.heap.size wr, Calls Tryd.prog 70 #[.slice (some ⟨b, o, none⟩) 5 (c), .agg #[.int .u8 0, .int .u8 0, .int .u8 0, .int .u8 0]] s.w (PPost s.w (.int .u8 z))) := fun s => by rw [hz]; exact HR.out s.w 0 (H3.out.below.trans (s.below.mono H3.out.below.size)) (by omega)
      have HZ : Hid (z = rowO xs 0) := Lib.hid hz
      clear a0 a1 a2 a3 hz
      go_wp2_with fail
      refine wp_region_kept_last wr.heap.size 11 _ rfl rfl (by kernel_rfl) (by kernel_rfl) ?_
      simp only [List.take_succ_cons, List.take_zero]
      repeat (go_big_quiet_step (first | (go_at_call 70; with_reducible exact Calls.kept _ (Nat.le_refl _) (HC.out _))))
      refine wpQuiet_nil ?_
      intro s
      have H4 : Hid (Bag w s.w [(w.heap.size, [.int .u8 0, .int .u8 0, .int .u8 0, .int .u8 0]), (w.heap.size + 1, [.int .u8 0, .int .u8 0, .int .u8 0, .int .u8 0]), (W1.heap.size, [.int .u8 0, .int .u8 0, .int .u8 0, .int .u8 0]), (W1.heap.size + 1, rowsP xs 0)]) := H3.out.call s.below
      have b0 : s.w.cell? ⟨W1.heap.size + 1, 0, none⟩ = some (.int .u8 0) := H4.out.cell 3 rfl 0 rfl
      have f0 := H4.out.frozen 3 rfl 0
      refine ⟨steps_plain rfl (gives_mono (R := fun v w' => v = undef ∧ w' = s.w.setCell ⟨W1.heap.size + 1, 0, none⟩ (.int .u8 z)) (by simp [gives, go_sem, b0, f0]) ?_)⟩
      rintro _ _ ⟨rfl, rfl⟩
      have H5 : Hid (Bag w (s.w.setCell ⟨W1.heap.size + 1, 0, none⟩ (.int .u8 z)) [(w.heap.size, [.int .u8 0, .int .u8 0, .int .u8 0, .int .u8 0]), (w.heap.size + 1, [.int .u8 0, .int .u8 0, .int .u8 0, .int .u8 0]), (W1.heap.size, [.int .u8 0, .int .u8 0, .int .u8 0, .int .u8 0]), (W1.heap.size + 1, rowsP xs 1)]) := by rw [HZ.out]; exact H4.out.set 3 rfl 0 _
      clear k0 k1 k2 k3 b0 f0 H3 H4 HC HZ
      go_wp2_with fail
      go_roundw
      case rel => exact ⟨1, by omega, by go_num, H5.out⟩
      case measure => simp [intOf]
    | 1, _ =>
      have a0 : wr.cell? ⟨W1.heap.size, 0, none⟩ = some (.int .u8 0) := H3.out.cell 2 rfl 0 rfl
      have a1 : wr.cell? ⟨W1.heap.size, 1, none⟩ = some (.int .u8 0) := H3.out.cell 2 rfl 1 rfl
      have a2 : wr.cell? ⟨W1.heap.size, 2, none⟩ = some (.int .u8 0) := H3.out.cell 2 rfl 2 rfl
      have a3 : wr.cell? ⟨W1.heap.size, 3, none⟩ = some (.int .u8 0) := H3.out.cell 2 rfl 3 rfl
      have k0 := fun s : Kept wr.heap.size wr => s.at a0
      have k1 := fun s : Kept wr.heap.size wr => s.at a1
      have k2 := fun s : Kept wr.heap.size wr => s.at a2
      have k3 := fun s : Kept wr.heap.size wr => s.at a3
      obtain ⟨z, hz⟩ : ∃ z, z = rowO xs 1 := ⟨_, rfl⟩
      have HC : Hid (∀ s : Kept wr.heap.size wr, Calls Tryd.prog 70 #[.slice (some ⟨b, o + 5, none⟩) 5 (c - 5), .agg #[.int .u8 0, .int .u8 0, .int .u8 0, .int .u8 0]] s.w (PPost s.w (.int .u8 z))) := fun s => by rw [hz]; exact HR.out s.w 1 (H3.out.below.trans (s.below.mono H3.out.below.size)) (by omega)
      have HZ : Hid (z = rowO xs 1) := Lib.hid hz
      clear a0 a1 a2 a3 hz
      go_wp2_with fail
      refine wp_region_kept_last wr.heap.size 11 _ rfl rfl (by kernel_rfl) (by kernel_rfl) ?_
      simp only [List.take_succ_cons, List.take_zero]
      repeat (go_big_quiet_step (first | (go_at_call 70; with_reducible exact Calls.kept _ (Nat.le_refl _) (HC.out _))))
      refine wpQuiet_nil ?_
      intro s
      have H4 : Hid (Bag w s.w [(w.heap.size, [.int .u8 0, .int .u8 0, .int .u8 0, .int .u8 0]), (w.heap.size + 1, [.int .u8 0, .int .u8 0, .int .u8 0, .int .u8 0]), (W1.heap.size, [.int .u8 0, .int .u8 0, .int .u8 0, .int .u8 0]), (W1.heap.size + 1, rowsP xs 1)]) := H3.out.call s.below
      have b0 : s.w.cell? ⟨W1.heap.size + 1, 1, none⟩ = some (.int .u8 0) := H4.out.cell 3 rfl 1 rfl
      have f0 := H4.out.frozen 3 rfl 1
      refine ⟨steps_plain rfl (gives_mono (R := fun v w' => v = undef ∧ w' = s.w.setCell ⟨W1.heap.size + 1, 1, none⟩ (.int .u8 z)) (by simp [gives, go_sem, b0, f0]) ?_)⟩
      rintro _ _ ⟨rfl, rfl⟩
      have H5 : Hid (Bag w (s.w.setCell ⟨W1.heap.size + 1, 1, none⟩ (.int .u8 z)) [(w.heap.size, [.int .u8 0, .int .u8 0, .int .u8 0, .int .u8 0]), (w.heap.size + 1, [.int .u8 0, .int .u8 0, .int .u8 0, .int .u8 0]), (W1.heap.size, [.int .u8 0, .int .u8 0, .int .u8 0, .int .u8 0]), (W1.heap.size + 1, rowsP xs 2)]) := by rw [HZ.out]; exact H4.out.set 3 rfl 1 _
      clear k0 k1 k2 k3 b0 f0 H3 H4 HC HZ
      go_wp2_with fail
      go_roundw
      case rel => exact ⟨2, by omega, by go_num, H5.out⟩
      case measure => simp [intOf]
    | 2, _ =>
      have a0 : wr.cell? ⟨W1.heap.size, 0, none⟩ = some (.int .u8 0) := H3.out.cell 2 rfl 0 rfl
      have a1 : wr.cell? ⟨W1.heap.size, 1, none⟩ = some (.int .u8 0) := H3.out.cell 2 rfl 1 rfl
      have a2 : wr.cell? ⟨W1.heap.size, 2, none⟩ = some (.int .u8 0) := H3.out.cell 2 rfl 2 rfl
      have a3 : wr.cell? ⟨W1.heap.size, 3, none⟩ = some (.int .u8 0) := H3.out.cell 2 rfl 3 rfl
      have k0 := fun s : Kept wr.heap.size wr => s.at a0
      have k1 := fun s : Kept wr.heap.size wr => s.at a1
      have k2 := fun s : Kept wr.heap.size wr => s.at a2
      have k3 := fun s : Kept wr.heap.size wr => s.at a3
      obtain ⟨z, hz⟩ : ∃ z, z = rowO xs 2 := ⟨_, rfl⟩
      have HC : Hid (∀ s : Kept wr.heap.size wr, Calls Tryd.prog 70 #[.slice (some ⟨b, o + 10, none⟩) 5 (c - 10), .agg #[.int .u8 0, .int .u8 0, .int .u8 0, .int .u8 0]] s.w (PPost s.w (.int .u8 z))) := fun s => by rw [hz]; exact HR.out s.w 2 (H3.out.below.trans (s.below.mono H3.out.below.size)) (by omega)
      have HZ : Hid (z = rowO xs 2) := Lib.hid hz
      clear a0 a1 a2 a3 hz
      go_wp2_with fail
      refine wp_region_kept_last wr.heap.size 11 _ rfl rfl (by kernel_rfl) (by kernel_rfl) ?_
      simp only [List.take_succ_cons, List.take_zero]
      repeat (go_big_quiet_step (first | (go_at_call 70; with_reducible exact Calls.kept _ (Nat.le_refl _) (HC.out _))))
      refine wpQuiet_nil ?_
      intro s
      have H4 : Hid (Bag w s.w [(w.heap.size, [.int .u8 0, .int .u8 0, .int .u8 0, .int .u8 0]), (w.heap.size + 1, [.int .u8 0, .int .u8 0, .int .u8 0, .int .u8 0]), (W1.heap.size, [.int .u8 0, .int .u8 0, .int .u8 0, .int .u8 0]), (W1.heap.size + 1, rowsP xs 2)]) := H3.out.call s.below
      have b0 : s.w.cell? ⟨W1.heap.size + 1, 2, none⟩ = some (.int .u8 0) := H4.out.cell 3 rfl 2 rfl
      have f0 := H4.out.frozen 3 rfl 2
      refine ⟨steps_plain rfl (gives_mono (R := fun v w' => v = undef ∧ w' = s.w.setCell ⟨W1.heap.size + 1, 2, none⟩ (.int .u8 z)) (by simp [gives, go_sem, b0, f0]) ?_)⟩
      rintro _ _ ⟨rfl, rfl⟩
      have H5 : Hid (Bag w (s.w.setCell ⟨W1.heap.size + 1, 2, none⟩ (.int .u8 z)) [(w.heap.size, [.int .u8 0, .int .u8 0, .int .u8 0, .int .u8 0]), (w.heap.size + 1, [.int .u8 0, .int .u8 0, .int .u8 0, .int .u8 0]), (W1.heap.size, [.int .u8 0, .int .u8 0, .int .u8 0, .int .u8 0]), (W1.heap.size + 1, rowsP xs 3)]) := by rw [HZ.out]; exact H4.out.set 3 rfl 2 _
      clear k0 k1 k2 k3 b0 f0 H3 H4 HC HZ
      go_wp2_with fail
      go_roundw
      case rel => exact ⟨3, by omega, by go_num, H5.out⟩
      case measure => simp [intOf]
    | 3, _ =>
      have a0 : wr.cell? ⟨W1.heap.size, 0, none⟩ = some (.int .u8 0) := H3.out.cell 2 rfl 0 rfl
      have a1 : wr.cell? ⟨W1.heap.size, 1, none⟩ = some (.int .u8 0) := H3.out.cell 2 rfl 1 rfl
      have a2 : wr.cell? ⟨W1.heap.size, 2, none⟩ = some (.int .u8 0) := H3.out.cell 2 rfl 2 rfl
      have a3 : wr.cell? ⟨W1.heap.size, 3, none⟩ = some (.int .u8 0) := H3.out.cell 2 rfl 3 rfl
      have k0 := fun s : Kept wr.heap.size wr => s.at a0
      have k1 := fun s : Kept wr.heap.size wr => s.at a1
      have k2 := fun s : Kept wr.heap.size wr => s.at a2
      have k3 := fun s : Kept wr.heap.size wr => s.at a3
      obtain ⟨z, hz⟩ : ∃ z, z = rowO xs 3 := ⟨_, rfl⟩
      have HC : Hid (∀ s : Kept wr.heap.size wr, Calls Tryd.prog 70 #[.slice (some ⟨b, o + 15, none⟩) 5 (c - 15), .agg #[.int .u8 0, .int .u8 0, .int .u8 0, .int .u8 0]] s.w (PPost s.w (.int .u8 z))) := fun s => by rw [hz]; exact HR.out s.w 3 (H3.out.below.trans (s.below.mono H3.out.below.size)) (by omega)
      have HZ : Hid (z = rowO xs 3) := Lib.hid hz
      clear a0 a1 a2 a3 hz
      go_wp2_with fail
      refine wp_region_kept_last wr.heap.size 11 _ rfl rfl (by kernel_rfl) (by kernel_rfl) ?_
      simp only [List.take_succ_cons, List.take_zero]
      repeat (go_big_quiet_step (first | (go_at_call 70; with_reducible exact Calls.kept _ (Nat.le_refl _) (HC.out _))))
      refine wpQuiet_nil ?_
      intro s
      have H4 : Hid (Bag w s.w [(w.heap.size, [.int .u8 0, .int .u8 0, .int .u8 0, .int .u8 0]), (w.heap.size + 1, [.int .u8 0, .int .u8 0, .int .u8 0, .int .u8 0]), (W1.heap.size, [.int .u8 0, .int .u8 0, .int .u8 0, .int .u8 0]), (W1.heap.size + 1, rowsP xs 3)]) := H3.out.call s.below
      have b0 : s.w.cell? ⟨W1.heap.size + 1, 3, none⟩ = some (.int .u8 0) := H4.out.cell 3 rfl 3 rfl
      have f0 := H4.out.frozen 3 rfl 3
      refine ⟨steps_plain rfl (gives_mono (R := fun v w' => v = undef ∧ w' = s.w.setCell ⟨W1.heap.size + 1, 3, none⟩ (.int .u8 z)) (by simp [gives, go_sem, b0, f0]) ?_)⟩
      rintro _ _ ⟨rfl, rfl⟩
      have H5 : Hid (Bag w (s.w.setCell ⟨W1.heap.size + 1, 3, none⟩ (.int .u8 z)) [(w.heap.size, [.int .u8 0, .int .u8 0, .int .u8 0, .int .u8 0]), (w.heap.size + 1, [.int .u8 0, .int .u8 0, .int .u8 0, .int .u8 0]), (W1.heap.size, [.int .u8 0, .int .u8 0, .int .u8 0, .int .u8 0]), (W1.heap.size + 1, rowsP xs 4)]) := by rw [HZ.out]; exact H4.out.set 3 rfl 3 _
      clear k0 k1 k2 k3 b0 f0 H3 H4 HC HZ
      go_wp2_with fail
      go_roundw
      case rel => exact ⟨4, by omega, by go_num, H5.out⟩
      case measure => simp [intOf]
    | 4, _ =>
      obtain ⟨z0, hz0⟩ : ∃ z, z = rowO xs 0 := ⟨_, rfl⟩
      obtain ⟨z1, hz1⟩ : ∃ z, z = rowO xs 1 := ⟨_, rfl⟩
      obtain ⟨z2, hz2⟩ : ∃ z, z = rowO xs 2 := ⟨_, rfl⟩
      obtain ⟨z3, hz3⟩ : ∃ z, z = rowO xs 3 := ⟨_, rfl⟩
      have HT : Hid (∀ W, Calls Tryd.prog 71 #[.agg #[.int .u8 z0, .int .u8 z1, .int .u8 z2, .int .u8 z3]] W (PPost W (pxv R))) := fun W => by
        rw [HRR.out, hz0, hz1, hz2, hz3]
        exact thick_c ⟨rowO xs 0, rowO xs 1, rowO xs 2, rowO xs 3⟩ W HTK.out
      have a0 : wr.cell? ⟨W1.heap.size + 1, 0, none⟩ = some (.int .u8 z0) := by rw [hz0]; exact H3.out.cell 3 rfl 0 rfl
      have a1 : wr.cell? ⟨W1.heap.size + 1, 1, none⟩ = some (.int .u8 z1) := by rw [hz1]; exact H3.out.cell 3 rfl 1 rfl
      have a2 : wr.cell? ⟨W1.heap.size + 1, 2, none⟩ = some (.int .u8 z2) := by rw [hz2]; exact H3.out.cell 3 rfl 2 rfl
      have a3 : wr.cell? ⟨W1.heap.size + 1, 3, none⟩ = some (.int .u8 z3) := by rw [hz3]; exact H3.out.cell 3 rfl 3 rfl
      clear hz0 hz1 hz2 hz3
      go_wp2_with fail
      refine (HT.out wr).mono ?_; rintro e W3 ⟨rfl, hb3⟩
      have H4 : Hid (Bag w W3 [(w.heap.size, [.int .u8 0, .int .u8 0, .int .u8 0, .int .u8 0]), (w.heap.size + 1, [.int .u8 0, .int .u8 0, .int .u8 0, .int .u8 0])]) := (H3.out.call hb3).take (List.Sublist.cons_cons _ (List.Sublist.cons_cons _ (List.nil_sublist _)))
      clear a0 a1 a2 a3 hb3 H3
      have r0 : W3.cell? ⟨w.heap.size + 1, 0, none⟩ = some (.int .u8 0) := H4.out.cell 1 rfl 0 rfl
      have r1 : W3.cell? ⟨w.heap.size + 1, 1, none⟩ = some (.int .u8 0) := H4.out.cell 1 rfl 1 rfl
      have r2 : W3.cell? ⟨w.heap.size + 1, 2, none⟩ = some (.int .u8 0) := H4.out.cell 1 rfl 2 rfl
      have r3 : W3.cell? ⟨w.heap.size + 1, 3, none⟩ = some (.int .u8 0) := H4.out.cell 1 rfl 3 rfl
      have f0 := H4.out.frozen 1 rfl 0
      have f1 := H4.out.frozen 1 rfl 1
      have f2 := H4.out.frozen 1 rfl 2
      have f3 := H4.out.frozen 1 rfl 3
      go_wp2_with fail
      have H5 := H4.out.set4 1 rfl (.int .u8 R.r) (.int .u8 R.g) (.int .u8 R.b) (.int .u8 R.a)
      exact ret_px (g := w.heap.size + 1) (p := R) rfl rfl (H5.box 1 rfl) rfl ⟨rfl, H5.below⟩
    | j + 5, hj => omega
theorem calm_c {F : Nat → Prop} (pv : Value) (p : List Int) (w : World) (hp : SlOf RInt 1 F w pv p) (hl : p.length = 20) (hx : ∀ j, j < 20 → -32768 ≤ p.getD j 0 ∧ p.getD j 0 ≤ 32767) :
    Calls Tryd.prog 54 #[pv] w (PPost w (.bool (calmB p))) := by
  obtain ⟨b, o, c, rfl, hFb, hc, hcap, hcm⟩ := sl_cells hp (by omega)
  rw [hl] at hc hcap ⊢
  have HP : Hid (∀ W, Below w.heap.size w W → Calls Tryd.prog 66 #[.slice (some ⟨b, o, none⟩) 20 c, .agg #[.int .u8 0, .int .u8 0, .int .u8 0, .int .u8 0]] W (PPost W (pxv (pixZ p)))) := fun W hb =>
    pixel0_t b o c p W (fun j hj => by rw [hb.cell (lt_of_cell (hc j hj))]; exact hc j hj) hx hcap hcm
  have HE : Hid (∀ W, (binOp .eql 27 (pxv (pixZ p)) (.agg #[.int .u8 0, .int .u8 0, .int .u8 0, .int .u8 0])).run Tryd.prog W = .ok (.bool (calmB p)) W) := fun W => by
    have h := eqlPx (pixZ p) Px.zero W
    rw [pixZ_calm] at h
    exact h
  obtain ⟨z, hz⟩ : ∃ z, z = pixZ p := ⟨_, rfl⟩
  obtain ⟨q, hq⟩ : ∃ q, q = calmB p := ⟨_, rfl⟩
  rw [← hz] at HP HE
  rw [← hq] at HE ⊢
  clear hz hq hc hx hp hl
  unfold maxLen at hcm
  have hE := HE.out
  go_enter Tryd.func54, Tryd.ntmps54
  go_wp2_with fail
  refine (HP.out w (Below.refl _ _)).mono ?_; rintro e W1 ⟨rfl, hb1⟩
  go_wp2_with fail
  go_ret
  exact ⟨rfl, hb1⟩
end Go.Proofs.YtgodhpampaleeaaDoor
