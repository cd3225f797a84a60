/- Texts joined: XEb. -/
import Derived.Test.YtgodhpampaleeaaDoorEa
import Derived.Laws.StructEq
import Derived.DeepKeys
set_option maxRecDepth 4000
/- Layers 1 and 7: what Calm reaches: tones, a matrix' rows. -/
namespace Go.Proofs.YtgodhpampaleeaaDoor
open Go.RowKit Go.Bx Go.Od Go.Hp
attribute [local go_sem ↓] Go.wp_at_zero Go.wp_at_succ
set_option linter.unusedVariables false

def pxEq (a b : Px) : Bool := a.r == b.r && (a.g == b.g && (a.b == b.b && a.a == b.a))
theorem pxEq_iff (a b : Px) : pxEq a b = true ↔ a = b := by
  obtain ⟨a0, a1, a2, a3⟩ := a
  obtain ⟨b0, b1, b2, b3⟩ := b
  simp [pxEq]
set_option maxHeartbeats 800000 in
theorem eqPx (a b : Px) (w : World) : (Op.equalIn 10000 27 (pxv a) (pxv b)).run Tryd.prog w = .ok (pxEq a b) w := by
  obtain ⟨a0, a1, a2, a3⟩ := a
  obtain ⟨b0, b1, b2, b3⟩ := b
  obtain ⟨i, hi⟩ := info_of_underlying (P := Tryd.prog) Tryd.underlying5
  rw [show (10000 : Nat) = 9999 + 1 from rfl, run_equalIn_array w 9999 _ _ Tryd.underlying27 hi, cells_u8]
  have e : List.range 4 = [0, 1, 2, 3] := rfl
  rw [e]
  unfold pxEq
  cases e0 : a0 == b0 <;> cases e1 : a1 == b1 <;> cases e2 : a2 == b2 <;> cases e3 : a3 == b3 <;> simp [Op.eqItems, e0, e1, e2, e3, go_sem]
theorem eqlPx (a b : Px) (w : World) : (binOp .eql 27 (pxv a) (pxv b)).run Tryd.prog w = .ok (.bool (pxEq a b)) w := by
  rw [run_eql_struct, eqPx]
  rfl
theorem neqPx (a b : Px) (w : World) : (binOp .neq 27 (pxv a) (pxv b)).run Tryd.prog w = .ok (.bool (!pxEq a b)) w := by
  rw [run_neq_struct, eqPx]
  rfl
theorem ret_u {a b : Int} (h : a = b) : Ending.returned (.int .u8 a) = .returned (.int .u8 b) := by rw [h]
def cutU (n : Int) : Int := max 0 (min n 255)
theorem cutU_byte (n : Int) : Byte (cutU n) := by unfold Byte cutU; omega
theorem cutT_c (n : Int) (w : World) : Calls Tryd.prog 73 #[.int .i64 n] w (PPost w (.int .u8 (cutU n))) := by
  go_enter Tryd.func73, Tryd.ntmps73
  go_wp2_with fail
  go_ret
  exact ⟨ret_u rfl, Below.refl _ _⟩
def mulU (a b : Int) : Int := (a * b + 127) / 255
theorem mul_le {a b : Int} (ha : Byte a) (hb : Byte b) : 0 ≤ a * b ∧ a * b ≤ 65025 := by
  obtain ⟨a0, a1⟩ := ha
  obtain ⟨b0, b1⟩ := hb
  have h1 := Int.mul_nonneg a0 b0
  have h2 := Int.mul_le_mul a1 b1 b0 (by omega)
  omega
theorem mulU_byte {a b : Int} (ha : Byte a) (hb : Byte b) : Byte (mulU a b) := by
  have := mul_le ha hb
  unfold Byte mulU
  omega
theorem mulT_c (a b : Int) (w : World) (ha : Byte a) (hb : Byte b) : Calls Tryd.prog 74 #[.int .u8 a, .int .u8 b] w (PPost w (.int .u8 (mulU a b))) := by
  have hm := mul_le ha hb
  have HM : Hid (Byte (mulU a b)) := mulU_byte ha hb
  have HA : Hid (mulU a b = (a * b + 127) / 255) := rfl
  obtain ⟨a0, a1⟩ := ha
  obtain ⟨b0, b1⟩ := hb
  obtain ⟨h1, h2⟩ := hm
  go_enter Tryd.func74, Tryd.ntmps74
  go_wp2_with fail
  go_ret
  exact ⟨ret_u HA.out.symm, Below.refl _ _⟩
theorem divz_c (a : Int) (w : World) : Calls Tryd.prog 72 #[.int .u8 a, .int .u8 0] w (PPost w (.int .u8 0)) := by
  go_enter Tryd.func72, Tryd.ntmps72
  go_wp2_with fail
  go_ret
  exact ⟨rfl, Below.refl _ _⟩
theorem ret_px {fn : Func} {q : Tmp} (h : fn.results = #[.cell q 27]) {a : Act} {W : World} {g : Nat} {p : Px} {R : Ending → World → Prop} (hp : a.tmps.getD q undef = .pointer (some ⟨g, 0, none⟩)) (hx : Box W g [.int .u8 p.r, .int .u8 p.g, .int .u8 p.b, .int .u8 p.a]) (hd : a.defers = []) (hR : R (.returned (pxv p)) W) : bodyPost Tryd.prog fn R .ret a W := by
  obtain ⟨t, ht⟩ := hx
  exact bodyPost_ret_by (results_cell_row h a.tmps W g t _ (0, 0) _ hp ht Tryd.underlying27 rfl (by kernel_rfl)) hd hR
def thkP (p : Px) : Px := ⟨mulU p.r p.a, mulU p.g p.a, mulU p.b p.a, p.a⟩
def thkJ (p : Px) (j : Nat) : List Value := [.int .u8 (if 0 < j then mulU p.r p.a else p.r), .int .u8 (if 1 < j then mulU p.g p.a else p.g), .int .u8 (if 2 < j then mulU p.b p.a else p.b), .int .u8 p.a]
set_option maxHeartbeats 3200000 in
theorem thick_c (p : Px) (w : World) (hp : p.Ok) : Calls Tryd.prog 71 #[pxv p] w (PPost w (pxv (thkP p))) := by
  have H0 : Hid (Bag w ((w.alloc (.cells #[.int .u8 p.r, .int .u8 p.g, .int .u8 p.b, .int .u8 p.a] 27)).alloc (.cells #[.int .u8 0, .int .u8 0, .int .u8 0, .int .u8 0] 27)) [(w.heap.size, thkJ p 0), (w.heap.size + 1, [.int .u8 0, .int .u8 0, .int .u8 0, .int .u8 0])]) := bag2 w (thkJ p 0) [.int .u8 0, .int .u8 0, .int .u8 0, .int .u8 0] _ _
  have HM0 : Hid (∀ W, Calls Tryd.prog 74 #[.int .u8 p.r, .int .u8 p.a] W (PPost W (.int .u8 (mulU p.r p.a)))) := fun W => mulT_c _ _ W hp.1 hp.2.2.2
  have HM1 : Hid (∀ W, Calls Tryd.prog 74 #[.int .u8 p.g, .int .u8 p.a] W (PPost W (.int .u8 (mulU p.g p.a)))) := fun W => mulT_c _ _ W hp.2.1 hp.2.2.2
  have HM2 : Hid (∀ W, Calls Tryd.prog 74 #[.int .u8 p.b, .int .u8 p.a] W (PPost W (.int .u8 (mulU p.b p.a)))) := fun W => mulT_c _ _ W hp.2.2.1 hp.2.2.2
  clear hp
  go_enter Tryd.func71, Tryd.ntmps71
  go_wp2_with fail
  generalize ((w.alloc (.cells #[.int .u8 p.r, .int .u8 p.g, .int .u8 p.b, .int .u8 p.a] 27)).alloc (.cells #[.int .u8 0, .int .u8 0, .int .u8 0, .int .u8 0] 27)) = W0 at *
  go_wp2_with fail
  go_loopw [4] (fun jv wr => ∃ j : Nat, j ≤ 3 ∧ jv = .int .i64 j ∧ Bag w wr [(w.heap.size, thkJ p j), (w.heap.size + 1, [.int .u8 0, .int .u8 0, .int .u8 0, .int .u8 0])]) (fun jv _ => 3 - (intOf jv).toNat)
  case atStart => exact ⟨0, by omega, rfl, H0.out⟩
  case round =>
    obtain ⟨j, hj, rfl, hr⟩ := hrel
    have H1 : Hid (Bag w wr [(w.heap.size, thkJ p j), (w.heap.size + 1, [.int .u8 0, .int .u8 0, .int .u8 0, .int .u8 0])]) := Lib.hid hr
    clear hr H0
    match j, hj with
    | 0, _ =>
      have a0 : wr.cell? ⟨w.heap.size, 0, none⟩ = some (.int .u8 p.r) := H1.out.cell 0 rfl 0 rfl
      have a3 : wr.cell? ⟨w.heap.size, 3, none⟩ = some (.int .u8 p.a) := H1.out.cell 0 rfl 3 rfl
      have k0 := fun s : Kept wr.heap.size wr => s.at a0
      have k1 := fun s : Kept wr.heap.size wr => s.at a3
      clear a0 a3
      go_wp2_with fail
      refine wp_region_kept_last wr.heap.size 8 _ rfl rfl (by kernel_rfl) (by kernel_rfl) ?_
      simp only [List.take_succ_cons, List.take_zero]
      repeat (go_big_quiet_step (first | (go_at_call 74; with_reducible exact Calls.kept _ (Nat.le_refl _) (HM0.out _))))
      refine wpQuiet_nil ?_
      intro s
      have H2 : Hid (Bag w s.w [(w.heap.size, thkJ p 0), (w.heap.size + 1, [.int .u8 0, .int .u8 0, .int .u8 0, .int .u8 0])]) := H1.out.call s.below
      have b0 : s.w.cell? ⟨w.heap.size, 0, none⟩ = some (.int .u8 p.r) := H2.out.cell 0 rfl 0 rfl
      have f0 := H2.out.frozen 0 rfl 0
      refine ⟨steps_plain rfl (gives_mono (R := fun v w' => v = undef ∧ w' = s.w.setCell ⟨w.heap.size, 0, none⟩ (.int .u8 (mulU p.r p.a))) (by simp [gives, go_sem, b0, f0]) ?_)⟩
      rintro _ _ ⟨rfl, rfl⟩
      have H3 : Hid (Bag w (s.w.setCell ⟨w.heap.size, 0, none⟩ (.int .u8 (mulU p.r p.a))) [(w.heap.size, thkJ p 1), (w.heap.size + 1, [.int .u8 0, .int .u8 0, .int .u8 0, .int .u8 0])]) := H2.out.set 0 rfl 0 _
      clear k0 k1 b0 f0 H1 H2
      go_wp2_with fail
      go_roundw
      case rel => exact ⟨1, by omega, by go_num, H3.out⟩
      case measure => simp [intOf]
    | 1, _ =>
      have a0 : wr.cell? ⟨w.heap.size, 1, none⟩ = some (.int .u8 p.g) := H1.out.cell 0 rfl 1 rfl
      have a3 : wr.cell? ⟨w.heap.size, 3, none⟩ = some (.int .u8 p.a) := H1.out.cell 0 rfl 3 rfl
      have k0 := fun s : Kept wr.heap.size wr => s.at a0
      have k1 := fun s : Kept wr.heap.size wr => s.at a3
      clear a0 a3
      go_wp2_with fail
      refine wp_region_kept_last wr.heap.size 8 _ rfl rfl (by kernel_rfl) (by kernel_rfl) ?_
      simp only [List.take_succ_cons, List.take_zero]
      repeat (go_big_quiet_step (first | (go_at_call 74; with_reducible exact Calls.kept _ (Nat.le_refl _) (HM1.out _))))
      refine wpQuiet_nil ?_
      intro s
      have H2 : Hid (Bag w s.w [(w.heap.size, thkJ p 1), (w.heap.size + 1, [.int .u8 0, .int .u8 0, .int .u8 0, .int .u8 0])]) := H1.out.call s.below
      have b0 : s.w.cell? ⟨w.heap.size, 1, none⟩ = some (.int .u8 p.g) := H2.out.cell 0 rfl 1 rfl
      have f0 := H2.out.frozen 0 rfl 1
      refine ⟨steps_plain rfl (gives_mono (R := fun v w' => v = undef ∧ w' = s.w.setCell ⟨w.heap.size, 1, none⟩ (.int .u8 (mulU p.g p.a))) (by simp [gives, go_sem, b0, f0]) ?_)⟩
      rintro _ _ ⟨rfl, rfl⟩
      have H3 : Hid (Bag w (s.w.setCell ⟨w.heap.size, 1, none⟩ (.int .u8 (mulU p.g p.a))) [(w.heap.size, thkJ p 2), (w.heap.size + 1, [.int .u8 0, .int .u8 0, .int .u8 0, .int .u8 0])]) := H2.out.set 0 rfl 1 _
      clear k0 k1 b0 f0 H1 H2
      go_wp2_with fail
      go_roundw
      case rel => exact ⟨2, by omega, by go_num, H3.out⟩
      case measure => simp [intOf]
    | 2, _ =>
      have a0 : wr.cell? ⟨w.heap.size, 2, none⟩ = some (.int .u8 p.b) := H1.out.cell 0 rfl 2 rfl
      have a3 : wr.cell? ⟨w.heap.size, 3, none⟩ = some (.int .u8 p.a) := H1.out.cell 0 rfl 3 rfl
      have k0 := fun s : Kept wr.heap.size wr => s.at a0
      have k1 := fun s : Kept wr.heap.size wr => s.at a3
      clear a0 a3
      go_wp2_with fail
      refine wp_region_kept_last wr.heap.size 8 _ rfl rfl (by kernel_rfl) (by kernel_rfl) ?_
      simp only [List.take_succ_cons, List.take_zero]
      repeat (go_big_quiet_step (first | (go_at_call 74; with_reducible exact Calls.kept _ (Nat.le_refl _) (HM2.out _))))
      refine wpQuiet_nil ?_
      intro s
      have H2 : Hid (Bag w s.w [(w.heap.size, thkJ p 2), (w.heap.size + 1, [.int .u8 0, .int .u8 0, .int .u8 0, .int .u8 0])]) := H1.out.call s.below
      have b0 : s.w.cell? ⟨w.heap.size, 2, none⟩ = some (.int .u8 p.b) := H2.out.cell 0 rfl 2 rfl
      have f0 := H2.out.frozen 0 rfl 2
      refine ⟨steps_plain rfl (gives_mono (R := fun v w' => v = undef ∧ w' = s.w.setCell ⟨w.heap.size, 2, none⟩ (.int .u8 (mulU p.b p.a))) (by simp [gives, go_sem, b0, f0]) ?_)⟩
      rintro _ _ ⟨rfl, rfl⟩
      have H3 : Hid (Bag w (s.w.setCell ⟨w.heap.size, 2, none⟩ (.int .u8 (mulU p.b p.a))) [(w.heap.size, thkJ p 3), (w.heap.size + 1, [.int .u8 0, .int .u8 0, .int .u8 0, .int .u8 0])]) := H2.out.set 0 rfl 2 _
      clear k0 k1 b0 f0 H1 H2
      go_wp2_with fail
      go_roundw
      case rel => exact ⟨3, by omega, by go_num, H3.out⟩
      case measure => simp [intOf]
    | 3, _ =>
      have a0 : wr.cell? ⟨w.heap.size, 0, none⟩ = some (.int .u8 (mulU p.r p.a)) := H1.out.cell 0 rfl 0 rfl
      have a1 : wr.cell? ⟨w.heap.size, 1, none⟩ = some (.int .u8 (mulU p.g p.a)) := H1.out.cell 0 rfl 1 rfl
      have a2 : wr.cell? ⟨w.heap.size, 2, none⟩ = some (.int .u8 (mulU p.b p.a)) := H1.out.cell 0 rfl 2 rfl
      have a3 : wr.cell? ⟨w.heap.size, 3, none⟩ = some (.int .u8 p.a) := H1.out.cell 0 rfl 3 rfl
      have r0 : wr.cell? ⟨w.heap.size + 1, 0, none⟩ = some (.int .u8 0) := H1.out.cell 1 rfl 0 rfl
      have r1 : wr.cell? ⟨w.heap.size + 1, 1, none⟩ = some (.int .u8 0) := H1.out.cell 1 rfl 1 rfl
      have r2 : wr.cell? ⟨w.heap.size + 1, 2, none⟩ = some (.int .u8 0) := H1.out.cell 1 rfl 2 rfl
      have r3 : wr.cell? ⟨w.heap.size + 1, 3, none⟩ = some (.int .u8 0) := H1.out.cell 1 rfl 3 rfl
      have f0 := H1.out.frozen 1 rfl 0
      have f1 := H1.out.frozen 1 rfl 1
      have f2 := H1.out.frozen 1 rfl 2
      have f3 := H1.out.frozen 1 rfl 3
      go_wp2_with fail
      have H2 := H1.out.set4 1 rfl (.int .u8 (mulU p.r p.a)) (.int .u8 (mulU p.g p.a)) (.int .u8 (mulU p.b p.a)) (.int .u8 p.a)
      exact ret_px (g := w.heap.size + 1) (p := thkP p) rfl rfl (H2.box 1 rfl) rfl ⟨rfl, H2.below⟩
    | j + 4, hj => omega
def plnP (p : Px) : Px := ⟨0, 0, 0, p.a⟩
def plnJ (p : Px) (j : Nat) : List Value := [.int .u8 (if 0 < j then 0 else p.r), .int .u8 (if 1 < j then 0 else p.g), .int .u8 (if 2 < j then 0 else p.b), .int .u8 p.a]
set_option maxHeartbeats 3200000 in
theorem plain_c (p : Px) (w : World) (ha : p.a = 0) : Calls Tryd.prog 69 #[pxv p] w (PPost w (pxv (plnP p))) := by
  have H0 : Hid (Bag w ((w.alloc (.cells #[.int .u8 p.r, .int .u8 p.g, .int .u8 p.b, .int .u8 p.a] 27)).alloc (.cells #[.int .u8 0, .int .u8 0, .int .u8 0, .int .u8 0] 27)) [(w.heap.size, plnJ p 0), (w.heap.size + 1, [.int .u8 0, .int .u8 0, .int .u8 0, .int .u8 0])]) := bag2 w (plnJ p 0) [.int .u8 0, .int .u8 0, .int .u8 0, .int .u8 0] _ _
  have HM0 : Hid (∀ W, Calls Tryd.prog 72 #[.int .u8 p.r, .int .u8 p.a] W (PPost W (.int .u8 0))) := fun W => by rw [ha]; exact divz_c _ W
  have HM1 : Hid (∀ W, Calls Tryd.prog 72 #[.int .u8 p.g, .int .u8 p.a] W (PPost W (.int .u8 0))) := fun W => by rw [ha]; exact divz_c _ W
  have HM2 : Hid (∀ W, Calls Tryd.prog 72 #[.int .u8 p.b, .int .u8 p.a] W (PPost W (.int .u8 0))) := fun W => by rw [ha]; exact divz_c _ W
  clear ha
  go_enter Tryd.func69, Tryd.ntmps69
  go_wp2_with fail
  generalize ((w.alloc (.cells #[.int .u8 p.r, .int .u8 p.g, .int .u8 p.b, .int .u8 p.a] 27)).alloc (.cells #[.int .u8 0, .int .u8 0, .int .u8 0, .int .u8 0] 27)) = W0 at *
  go_wp2_with fail
  go_loopw [4] (fun jv wr => ∃ j : Nat, j ≤ 3 ∧ jv = .int .i64 j ∧ Bag w wr [(w.heap.size, plnJ p j), (w.heap.size + 1, [.int .u8 0, .int .u8 0, .int .u8 0, .int .u8 0])]) (fun jv _ => 3 - (intOf jv).toNat)
  case atStart => exact ⟨0, by omega, rfl, H0.out⟩
  case round =>
    obtain ⟨j, hj, rfl, hr⟩ := hrel
    have H1 : Hid (Bag w wr [(w.heap.size, plnJ p j), (w.heap.size + 1, [.int .u8 0, .int .u8 0, .int .u8 0, .int .u8 0])]) := Lib.hid hr
    clear hr H0
    match j, hj with
    | 0, _ =>
      have a0 : wr.cell? ⟨w.heap.size, 0, none⟩ = some (.int .u8 p.r) := H1.out.cell 0 rfl 0 rfl
      have a3 : wr.cell? ⟨w.heap.size, 3, none⟩ = some (.int .u8 p.a) := H1.out.cell 0 rfl 3 rfl
      have k0 := fun s : Kept wr.heap.size wr => s.at a0
      have k1 := fun s : Kept wr.heap.size wr => s.at a3
      clear a0 a3
      go_wp2_with fail
      refine wp_region_kept_last wr.heap.size 8 _ rfl rfl (by kernel_rfl) (by kernel_rfl) ?_
      simp only [List.take_succ_cons, List.take_zero]
      repeat (go_big_quiet_step (first | (go_at_call 72; with_reducible exact Calls.kept _ (Nat.le_refl _) (HM0.out _))))
      refine wpQuiet_nil ?_
      intro s
      have H2 : Hid (Bag w s.w [(w.heap.size, plnJ p 0), (w.heap.size + 1, [.int .u8 0, .int .u8 0, .int .u8 0, .int .u8 0])]) := H1.out.call s.below
      have b0 : s.w.cell? ⟨w.heap.size, 0, none⟩ = some (.int .u8 p.r) := H2.out.cell 0 rfl 0 rfl
      have f0 := H2.out.frozen 0 rfl 0
      refine ⟨steps_plain rfl (gives_mono (R := fun v w' => v = undef ∧ w' = s.w.setCell ⟨w.heap.size, 0, none⟩ (.int .u8 (0))) (by simp [gives, go_sem, b0, f0]) ?_)⟩
      rintro _ _ ⟨rfl, rfl⟩
      have H3 : Hid (Bag w (s.w.setCell ⟨w.heap.size, 0, none⟩ (.int .u8 (0))) [(w.heap.size, plnJ p 1), (w.heap.size + 1, [.int .u8 0, .int .u8 0, .int .u8 0, .int .u8 0])]) := H2.out.set 0 rfl 0 _
      clear k0 k1 b0 f0 H1 H2
      go_wp2_with fail
      go_roundw
      case rel => exact ⟨1, by omega, by go_num, H3.out⟩
      case measure => simp [intOf]
    | 1, _ =>
      have a0 : wr.cell? ⟨w.heap.size, 1, none⟩ = some (.int .u8 p.g) := H1.out.cell 0 rfl 1 rfl
      have a3 : wr.cell? ⟨w.heap.size, 3, none⟩ = some (.int .u8 p.a) := H1.out.cell 0 rfl 3 rfl
      have k0 := fun s : Kept wr.heap.size wr => s.at a0
      have k1 := fun s : Kept wr.heap.size wr => s.at a3
      clear a0 a3
      go_wp2_with fail
      refine wp_region_kept_last wr.heap.size 8 _ rfl rfl (by kernel_rfl) (by kernel_rfl) ?_
      simp only [List.take_succ_cons, List.take_zero]
      repeat (go_big_quiet_step (first | (go_at_call 72; with_reducible exact Calls.kept _ (Nat.le_refl _) (HM1.out _))))
      refine wpQuiet_nil ?_
      intro s
      have H2 : Hid (Bag w s.w [(w.heap.size, plnJ p 1), (w.heap.size + 1, [.int .u8 0, .int .u8 0, .int .u8 0, .int .u8 0])]) := H1.out.call s.below
      have b0 : s.w.cell? ⟨w.heap.size, 1, none⟩ = some (.int .u8 p.g) := H2.out.cell 0 rfl 1 rfl
      have f0 := H2.out.frozen 0 rfl 1
      refine ⟨steps_plain rfl (gives_mono (R := fun v w' => v = undef ∧ w' = s.w.setCell ⟨w.heap.size, 1, none⟩ (.int .u8 (0))) (by simp [gives, go_sem, b0, f0]) ?_)⟩
      rintro _ _ ⟨rfl, rfl⟩
      have H3 : Hid (Bag w (s.w.setCell ⟨w.heap.size, 1, none⟩ (.int .u8 (0))) [(w.heap.size, plnJ p 2), (w.heap.size + 1, [.int .u8 0, .int .u8 0, .int .u8 0, .int .u8 0])]) := H2.out.set 0 rfl 1 _
      clear k0 k1 b0 f0 H1 H2
      go_wp2_with fail
      go_roundw
      case rel => exact ⟨2, by omega, by go_num, H3.out⟩
      case measure => simp [intOf]
    | 2, _ =>
      have a0 : wr.cell? ⟨w.heap.size, 2, none⟩ = some (.int .u8 p.b) := H1.out.cell 0 rfl 2 rfl
      have a3 : wr.cell? ⟨w.heap.size, 3, none⟩ = some (.int .u8 p.a) := H1.out.cell 0 rfl 3 rfl
      have k0 := fun s : Kept wr.heap.size wr => s.at a0
      have k1 := fun s : Kept wr.heap.size wr => s.at a3
      clear a0 a3
      go_wp2_with fail
      refine wp_region_kept_last wr.heap.size 8 _ rfl rfl (by kernel_rfl) (by kernel_rfl) ?_
      simp only [List.take_succ_cons, List.take_zero]
      repeat (go_big_quiet_step (first | (go_at_call 72; with_reducible exact Calls.kept _ (Nat.le_refl _) (HM2.out _))))
      refine wpQuiet_nil ?_
      intro s
      have H2 : Hid (Bag w s.w [(w.heap.size, plnJ p 2), (w.heap.size + 1, [.int .u8 0, .int .u8 0, .int .u8 0, .int .u8 0])]) := H1.out.call s.below
      have b0 : s.w.cell? ⟨w.heap.size, 2, none⟩ = some (.int .u8 p.b) := H2.out.cell 0 rfl 2 rfl
      have f0 := H2.out.frozen 0 rfl 2
      refine ⟨steps_plain rfl (gives_mono (R := fun v w' => v = undef ∧ w' = s.w.setCell ⟨w.heap.size, 2, none⟩ (.int .u8 (0))) (by simp [gives, go_sem, b0, f0]) ?_)⟩
      rintro _ _ ⟨rfl, rfl⟩
      have H3 : Hid (Bag w (s.w.setCell ⟨w.heap.size, 2, none⟩ (.int .u8 (0))) [(w.heap.size, plnJ p 3), (w.heap.size + 1, [.int .u8 0, .int .u8 0, .int .u8 0, .int .u8 0])]) := H2.out.set 0 rfl 2 _
      clear k0 k1 b0 f0 H1 H2
      go_wp2_with fail
      go_roundw
      case rel => exact ⟨3, by omega, by go_num, H3.out⟩
      case measure => simp [intOf]
    | 3, _ =>
      have a0 : wr.cell? ⟨w.heap.size, 0, none⟩ = some (.int .u8 (0)) := H1.out.cell 0 rfl 0 rfl
      have a1 : wr.cell? ⟨w.heap.size, 1, none⟩ = some (.int .u8 (0)) := H1.out.cell 0 rfl 1 rfl
      have a2 : wr.cell? ⟨w.heap.size, 2, none⟩ = some (.int .u8 (0)) := H1.out.cell 0 rfl 2 rfl
      have a3 : wr.cell? ⟨w.heap.size, 3, none⟩ = some (.int .u8 p.a) := H1.out.cell 0 rfl 3 rfl
      have r0 : wr.cell? ⟨w.heap.size + 1, 0, none⟩ = some (.int .u8 0) := H1.out.cell 1 rfl 0 rfl
      have r1 : wr.cell? ⟨w.heap.size + 1, 1, none⟩ = some (.int .u8 0) := H1.out.cell 1 rfl 1 rfl
      have r2 : wr.cell? ⟨w.heap.size + 1, 2, none⟩ = some (.int .u8 0) := H1.out.cell 1 rfl 2 rfl
      have r3 : wr.cell? ⟨w.heap.size + 1, 3, none⟩ = some (.int .u8 0) := H1.out.cell 1 rfl 3 rfl
      have f0 := H1.out.frozen 1 rfl 0
      have f1 := H1.out.frozen 1 rfl 1
      have f2 := H1.out.frozen 1 rfl 2
      have f3 := H1.out.frozen 1 rfl 3
      go_wp2_with fail
      have H2 := H1.out.set4 1 rfl (.int .u8 (0)) (.int .u8 (0)) (.int .u8 (0)) (.int .u8 p.a)
      exact ret_px (g := w.heap.size + 1) (p := plnP p) rfl rfl (H2.box 1 rfl) rfl ⟨rfl, H2.below⟩
    | j + 4, hj => omega
end Go.Proofs.YtgodhpampaleeaaDoor
