/- Texts joined: XEm. -/
import Derived.Test.YtgodhpampaleeaaDoorEl
import Derived.Test.YtgodhpampaleeaaDoorEj
import Derived.Deep.Cut
import Derived.Test.YtgodhpampaleeaaDoorAc
set_option maxRecDepth 4000
/- Layer 24, the document's answer: Right. (Printed by mk_em.py.) -/
namespace Go.Proofs.YtgodhpampaleeaaDoor
open Go.RowKit Go.Bx Go.Od Go.Hp
attribute [local go_sem ↓] Go.wp_at_zero Go.wp_at_succ
set_option linter.unusedVariables false

def lk1B (k : Lk) : Bool := decide (-1048576 ≤ k.dx) && (decide (k.dx ≤ 1048576) && (decide (-1048576 ≤ k.dy) && (decide (k.dy ≤ 1048576) && (decide (0 ≤ k.opa) && (decide (k.opa ≤ 255) && (decide (0 ≤ k.mode) && (decide (k.mode ≤ 6) && (contB k.ct && decide (k.ct.pix.length ≤ 300)))))))))
def clp1B (r : Rc) : Bool := decide (-1048576 ≤ r.x0) && (decide (-1048576 ≤ r.y0) && (decide (r.x1 ≤ 1048576) && (decide (r.y1 ≤ 1048576) && (decide (r.x0 ≤ 1048576) && (decide (r.y0 ≤ 1048576) && (decide (-1048576 ≤ r.x1) && decide (-1048576 ≤ r.y1)))))))
def filB (g : Fg) : Bool := fewB g.nds 7 && chkB g.nds g.out == 0
def lkB (k : Lk) : Bool := lk1B k && ((!k.hasC || clp1B k.clip) && ((!k.hasF || filB k.fil) && (!k.hasB || filB k.bak)))
def rightN : Nat → Int → Ly → Bool
  | 0, _, _ => false
  | n + 1, d, l => lkB l.look && (!decide (8 < d) && (!decide (8 < l.kids.length) && l.kids.all (rightN n (d + 1))))
theorem filB_good {g : Fg} (h : filB g = true) : GoodR g := by
  unfold filB at h
  rw [Bool.and_eq_true] at h
  exact goodR_of h.1 (by omega) (eq_of_beq h.2)
theorem clp1B_iff (r : Rc) : clp1B r = true ↔ RcN r := by
  unfold clp1B RcN Nc
  simp only [Bool.and_eq_true, decide_eq_true_eq]
  omega
theorem lkB_ok {k : Lk} (hp : k.ct.px.Ok) (h : lkB k = true) : LkOk k := by
  unfold lkB lk1B at h
  simp only [Bool.and_eq_true, decide_eq_true_eq, Bool.or_eq_true, Bool.not_eq_true'] at h
  obtain ⟨⟨a, b, c, d, e, f, g, i, j, m⟩, hc, hf, hb⟩ := h
  refine ⟨ctOk_of hp j, ⟨a, b⟩, ⟨c, d⟩, ⟨e, f⟩, ⟨g, i⟩, fun q => ?_, fun q => ?_, fun q => ?_⟩
  · exact (clp1B_iff _).1 (hc.resolve_left (by rw [q]; decide))
  · exact filB_good (hf.resolve_left (by rw [q]; decide))
  · exact filB_good (hb.resolve_left (by rw [q]; decide))
theorem rightN_ok : ∀ (n : Nat) (d : Int) (l : Ly) (F : Nat → Prop) (w : World) (cs : List Value), RLy n F w cs l → rightN n d l = true → LyOk n l
  | 0, _, _, _, _, _, h, _ => h.elim
  | n + 1, d, l, F, w, cs, ⟨pv, fv, bv, kv, _, _, _, hA, hK⟩, h => by
    unfold rightN at h
    simp only [Bool.and_eq_true, List.all_eq_true] at h
    refine ⟨lkB_ok hA.1.2.2.2.2.2.1.2.2.1 h.1, fun k hk => ?_⟩
    obtain ⟨a, cap, _, _, _, h3⟩ := hK
    rcases h3 with h3 | ⟨b, o, _, _, h3⟩
    · rw [h3] at hk; cases hk
    · obtain ⟨i, hi⟩ := List.getElem?_of_mem hk
      obtain ⟨cs', _, _, he⟩ := h3 i k hi
      exact rightN_ok n (d + 1) k F w cs' he (h.2.2.2 k hk)
def RghC (n : Nat) : Prop := ∀ (B : Nat) (l : Ly) (cs : List Value) (d : Int) (w : World), RLy n (· < B) w cs l → B ≤ w.heap.size → Tabs w → 0 ≤ d → d ≤ 100 → Calls Tryd.prog 6 #[.agg cs.toArray, .int .i64 d] w (PPost w (.bool (rightN n d l)))
set_option maxRecDepth 8000 in
set_option maxHeartbeats 51200000 in
theorem right_step (n : Nat) (IH : RghC n) : RghC (n + 1) := by
  intro B l cs d w hl hB htb hd0 hd1
  obtain ⟨pv, fv, bv, kv, rfl, _, _, hA, hK⟩ := hl
  obtain ⟨R, hR⟩ : ∃ R, R = rightN (n + 1) d l := ⟨_, rfl⟩
  rw [← hR]
  obtain ⟨k, hk⟩ : ∃ k, k = l.look := ⟨_, rfl⟩
  obtain ⟨i0, hi0⟩ : ∃ k, k = l.i0 := ⟨_, rfl⟩
  obtain ⟨i1, hi1⟩ : ∃ k, k = l.i1 := ⟨_, rfl⟩
  obtain ⟨ks, hks⟩ : ∃ k, k = l.kids := ⟨_, rfl⟩
  have HR : Hid (R = (lkB k && (!decide (8 < d) && (!decide (8 < ks.length) && ks.all (rightN n (d + 1)))))) := by
    have : R = (lkB k && (!decide (8 < d) && (!decide (8 < ks.length) && ks.all (rightN n (d + 1))))) := by rw [hR, hk, hks]; rfl
    exact this
  rw [← hk] at hA
  rw [← hks] at hK
  rw [← hk, ← hi0, ← hi1]
  clear hk hi0 hi1 hks hR
  obtain ⟨pa, pn, pc, rfl⟩ := sl_form hA.2.1
  obtain ⟨fa, fn, fc, rfl⟩ := sl_form hA.2.2.1
  obtain ⟨ba, bn, bc, rfl⟩ := sl_form hA.2.2.2
  have HPN : Hid (pn = k.ct.pix.length) := by
    obtain ⟨a, c, h, _⟩ := hA.2.1
    simp only [Value.slice.injEq] at h
    have : pn = k.ct.pix.length := h.2.1
    exact this
  have hpn : pn ≤ 9223372036854775807 := by
    obtain ⟨a, c, h, h1, h2, _⟩ := hA.2.1
    simp only [Value.slice.injEq] at h
    unfold maxLen at h2
    omega
  obtain ⟨ka, kc, hkv, hkcap, hkcm, hkel⟩ := hK
  subst hkv
  obtain ⟨kn, hkn⟩ : ∃ m, m = ks.length := ⟨_, rfl⟩
  have HKN : Hid (kn = ks.length) := Lib.hid hkn
  rw [← hkn] at hkcap ⊢
  have HA : Hid (LkAt (· < B) w k (.slice pa pn pc) (.slice fa fn fc) (.slice ba bn bc) ∧ B ≤ w.heap.size ∧ Tabs w) := ⟨hA, hB, htb⟩
  have HKE : Hid (∀ (W : World), Below w.heap.size w W → ∀ (j : Nat) (x : Ly), ks[j]? = some x → ∃ b o cs, ka = some ⟨b, o, none⟩ ∧ LiesAt W b (o + j * 31) cs ∧ RLy n (· < B) W cs x) := fun W hb j x hx => by
    rcases hkel with h | ⟨b, o, h1, h2, h3⟩
    · subst h; simp at hx
    · obtain ⟨cs, _, h4, h5⟩ := h3 j x hx
      have hsm : Same (· < B) w W := Same.of_below hb fun b (hb : b < B) => Nat.lt_of_lt_of_le hb hB
      exact ⟨b, o, cs, h1, h4.same hsm h2, (RLy.ok n).same hsm h5⟩
  unfold maxLen at hkcm
  have HR0 : Hid ((w.alloc (.cells #[.int .i64 i0, .int .i64 i1, .int .i64 k.dx, .int .i64 k.dy, .bool k.hasC, .int .i64 k.clip.x0, .int .i64 k.clip.y0, .int .i64 k.clip.x1, .int .i64 k.clip.y1, .int .i64 k.opa, .int .i64 k.mode, .int .i64 k.ct.kind, .int .i64 k.ct.box.x0, .int .i64 k.ct.box.y0, .int .i64 k.ct.box.x1, .int .i64 k.ct.box.y1, .int .u8 k.ct.px.r, .int .u8 k.ct.px.g, .int .u8 k.ct.px.b, .int .u8 k.ct.px.a, .int .i64 k.ct.w, .int .i64 k.ct.h, .int .i64 k.ct.turn, .slice pa pn pc, .bool k.hasF, .slice fa fn fc, .int .i64 k.fil.out, .bool k.hasB, .slice ba bn bc, .int .i64 k.bak.out, .slice ka kn kc] 38)).rangeAt w.heap.size 2 [.int .i64 k.dx, .int .i64 k.dy, .bool k.hasC, .int .i64 k.clip.x0, .int .i64 k.clip.y0, .int .i64 k.clip.x1, .int .i64 k.clip.y1, .int .i64 k.opa, .int .i64 k.mode, .int .i64 k.ct.kind, .int .i64 k.ct.box.x0, .int .i64 k.ct.box.y0, .int .i64 k.ct.box.x1, .int .i64 k.ct.box.y1, .int .u8 k.ct.px.r, .int .u8 k.ct.px.g, .int .u8 k.ct.px.b, .int .u8 k.ct.px.a, .int .i64 k.ct.w, .int .i64 k.ct.h, .int .i64 k.ct.turn, .slice pa pn pc, .bool k.hasF, .slice fa fn fc, .int .i64 k.fil.out, .bool k.hasB, .slice ba bn bc, .int .i64 k.bak.out]) := (bag1 w [.int .i64 i0, .int .i64 i1, .int .i64 k.dx, .int .i64 k.dy, .bool k.hasC, .int .i64 k.clip.x0, .int .i64 k.clip.y0, .int .i64 k.clip.x1, .int .i64 k.clip.y1, .int .i64 k.opa, .int .i64 k.mode, .int .i64 k.ct.kind, .int .i64 k.ct.box.x0, .int .i64 k.ct.box.y0, .int .i64 k.ct.box.x1, .int .i64 k.ct.box.y1, .int .u8 k.ct.px.r, .int .u8 k.ct.px.g, .int .u8 k.ct.px.b, .int .u8 k.ct.px.a, .int .i64 k.ct.w, .int .i64 k.ct.h, .int .i64 k.ct.turn, .slice pa pn pc, .bool k.hasF, .slice fa fn fc, .int .i64 k.fil.out, .bool k.hasB, .slice ba bn bc, .int .i64 k.bak.out, .slice ka kn kc] 38).range 0 rfl 2 28
  have H1 : Hid (Bag w ((w.alloc (.cells #[.int .i64 i0, .int .i64 i1, .int .i64 k.dx, .int .i64 k.dy, .bool k.hasC, .int .i64 k.clip.x0, .int .i64 k.clip.y0, .int .i64 k.clip.x1, .int .i64 k.clip.y1, .int .i64 k.opa, .int .i64 k.mode, .int .i64 k.ct.kind, .int .i64 k.ct.box.x0, .int .i64 k.ct.box.y0, .int .i64 k.ct.box.x1, .int .i64 k.ct.box.y1, .int .u8 k.ct.px.r, .int .u8 k.ct.px.g, .int .u8 k.ct.px.b, .int .u8 k.ct.px.a, .int .i64 k.ct.w, .int .i64 k.ct.h, .int .i64 k.ct.turn, .slice pa pn pc, .bool k.hasF, .slice fa fn fc, .int .i64 k.fil.out, .bool k.hasB, .slice ba bn bc, .int .i64 k.bak.out, .slice ka kn kc] 38)).alloc (.cells #[.int .i64 k.dx, .int .i64 k.dy, .bool k.hasC, .int .i64 k.clip.x0, .int .i64 k.clip.y0, .int .i64 k.clip.x1, .int .i64 k.clip.y1, .int .i64 k.opa, .int .i64 k.mode, .int .i64 k.ct.kind, .int .i64 k.ct.box.x0, .int .i64 k.ct.box.y0, .int .i64 k.ct.box.x1, .int .i64 k.ct.box.y1, .int .u8 k.ct.px.r, .int .u8 k.ct.px.g, .int .u8 k.ct.px.b, .int .u8 k.ct.px.a, .int .i64 k.ct.w, .int .i64 k.ct.h, .int .i64 k.ct.turn, .slice pa pn pc, .bool k.hasF, .slice fa fn fc, .int .i64 k.fil.out, .bool k.hasB, .slice ba bn bc, .int .i64 k.bak.out] 35)) [(w.heap.size, [.int .i64 i0, .int .i64 i1, .int .i64 k.dx, .int .i64 k.dy, .bool k.hasC, .int .i64 k.clip.x0, .int .i64 k.clip.y0, .int .i64 k.clip.x1, .int .i64 k.clip.y1, .int .i64 k.opa, .int .i64 k.mode, .int .i64 k.ct.kind, .int .i64 k.ct.box.x0, .int .i64 k.ct.box.y0, .int .i64 k.ct.box.x1, .int .i64 k.ct.box.y1, .int .u8 k.ct.px.r, .int .u8 k.ct.px.g, .int .u8 k.ct.px.b, .int .u8 k.ct.px.a, .int .i64 k.ct.w, .int .i64 k.ct.h, .int .i64 k.ct.turn, .slice pa pn pc, .bool k.hasF, .slice fa fn fc, .int .i64 k.fil.out, .bool k.hasB, .slice ba bn bc, .int .i64 k.bak.out, .slice ka kn kc]), (w.heap.size + 1, [.int .i64 k.dx, .int .i64 k.dy, .bool k.hasC, .int .i64 k.clip.x0, .int .i64 k.clip.y0, .int .i64 k.clip.x1, .int .i64 k.clip.y1, .int .i64 k.opa, .int .i64 k.mode, .int .i64 k.ct.kind, .int .i64 k.ct.box.x0, .int .i64 k.ct.box.y0, .int .i64 k.ct.box.x1, .int .i64 k.ct.box.y1, .int .u8 k.ct.px.r, .int .u8 k.ct.px.g, .int .u8 k.ct.px.b, .int .u8 k.ct.px.a, .int .i64 k.ct.w, .int .i64 k.ct.h, .int .i64 k.ct.turn, .slice pa pn pc, .bool k.hasF, .slice fa fn fc, .int .i64 k.fil.out, .bool k.hasB, .slice ba bn bc, .int .i64 k.bak.out])]) := bag2 w [.int .i64 i0, .int .i64 i1, .int .i64 k.dx, .int .i64 k.dy, .bool k.hasC, .int .i64 k.clip.x0, .int .i64 k.clip.y0, .int .i64 k.clip.x1, .int .i64 k.clip.y1, .int .i64 k.opa, .int .i64 k.mode, .int .i64 k.ct.kind, .int .i64 k.ct.box.x0, .int .i64 k.ct.box.y0, .int .i64 k.ct.box.x1, .int .i64 k.ct.box.y1, .int .u8 k.ct.px.r, .int .u8 k.ct.px.g, .int .u8 k.ct.px.b, .int .u8 k.ct.px.a, .int .i64 k.ct.w, .int .i64 k.ct.h, .int .i64 k.ct.turn, .slice pa pn pc, .bool k.hasF, .slice fa fn fc, .int .i64 k.fil.out, .bool k.hasB, .slice ba bn bc, .int .i64 k.bak.out, .slice ka kn kc] [.int .i64 k.dx, .int .i64 k.dy, .bool k.hasC, .int .i64 k.clip.x0, .int .i64 k.clip.y0, .int .i64 k.clip.x1, .int .i64 k.clip.y1, .int .i64 k.opa, .int .i64 k.mode, .int .i64 k.ct.kind, .int .i64 k.ct.box.x0, .int .i64 k.ct.box.y0, .int .i64 k.ct.box.x1, .int .i64 k.ct.box.y1, .int .u8 k.ct.px.r, .int .u8 k.ct.px.g, .int .u8 k.ct.px.b, .int .u8 k.ct.px.a, .int .i64 k.ct.w, .int .i64 k.ct.h, .int .i64 k.ct.turn, .slice pa pn pc, .bool k.hasF, .slice fa fn fc, .int .i64 k.fil.out, .bool k.hasB, .slice ba bn bc, .int .i64 k.bak.out] _ _
  obtain ⟨o1, ho1⟩ : ∃ o, o = lk1B k := ⟨_, rfl⟩
  obtain ⟨o2, ho2⟩ : ∃ o, o = (o1 && (!k.hasC || clp1B k.clip)) := ⟨_, rfl⟩
  obtain ⟨o3, ho3⟩ : ∃ o, o = (o2 && (!k.hasF || filB k.fil)) := ⟨_, rfl⟩
  obtain ⟨o4, ho4⟩ : ∃ o, o = (o3 && (!k.hasB || filB k.bak)) := ⟨_, rfl⟩
  have HO1 : Hid (o1 = lk1B k) := Lib.hid ho1
  have HO2 : Hid (o2 = (o1 && (!k.hasC || clp1B k.clip))) := Lib.hid ho2
  have HO3 : Hid (o3 = (o2 && (!k.hasF || filB k.fil))) := Lib.hid ho3
  have HO4 : Hid (o4 = (o3 && (!k.hasB || filB k.bak))) := Lib.hid ho4
  have HRO : Hid (R = (o4 && (!decide (8 < d) && (!decide (8 < kn) && ks.all (rightN n (d + 1)))))) := by
    have : R = (o4 && (!decide (8 < d) && (!decide (8 < kn) && ks.all (rightN n (d + 1))))) := by
      rw [HR.out, ho4, ho3, ho2, ho1, HKN.out]
      unfold lkB
      simp only [Bool.and_assoc]
    exact this
  clear ho1 ho2 ho3 ho4 HR hA hkel hkn hB htb
  go_enter Tryd.func6, Tryd.ntmps6
  go_upto_region 2 with (first | (with_reducible refine wpList_load_mid rfl 35 _ rfl w.heap.size 2 rfl [.int .i64 k.dx, .int .i64 k.dy, .bool k.hasC, .int .i64 k.clip.x0, .int .i64 k.clip.y0, .int .i64 k.clip.x1, .int .i64 k.clip.y1, .int .i64 k.opa, .int .i64 k.mode, .int .i64 k.ct.kind, .int .i64 k.ct.box.x0, .int .i64 k.ct.box.y0, .int .i64 k.ct.box.x1, .int .i64 k.ct.box.y1, .int .u8 k.ct.px.r, .int .u8 k.ct.px.g, .int .u8 k.ct.px.b, .int .u8 k.ct.px.a, .int .i64 k.ct.w, .int .i64 k.ct.h, .int .i64 k.ct.turn, .slice pa pn pc, .bool k.hasF, .slice fa fn fc, .int .i64 k.fil.out, .bool k.hasB, .slice ba bn bc, .int .i64 k.bak.out] _ HR0.out Tryd.underlying35 rfl (by kernel_rfl) ?_; simp only [Act.put, List.setIfInBounds_toArray, List.set_cons_succ, List.set_cons_zero]) | (with_reducible refine wpList_alloc_store rfl rfl 35 rfl _ _ rfl _ #[.int .i64 k.dx, .int .i64 k.dy, .bool k.hasC, .int .i64 k.clip.x0, .int .i64 k.clip.y0, .int .i64 k.clip.x1, .int .i64 k.clip.y1, .int .i64 k.opa, .int .i64 k.mode, .int .i64 k.ct.kind, .int .i64 k.ct.box.x0, .int .i64 k.ct.box.y0, .int .i64 k.ct.box.x1, .int .i64 k.ct.box.y1, .int .u8 k.ct.px.r, .int .u8 k.ct.px.g, .int .u8 k.ct.px.b, .int .u8 k.ct.px.a, .int .i64 k.ct.w, .int .i64 k.ct.h, .int .i64 k.ct.turn, .slice pa pn pc, .bool k.hasF, .slice fa fn fc, .int .i64 k.fil.out, .bool k.hasB, .slice ba bn bc, .int .i64 k.bak.out] alLook (by simp [Act.eval, Act.put]) rfl (by kernel_rfl) (by kernel_rfl) (by simp [Value.oneCell']) ?_; simp only [Act.put, List.setIfInBounds_toArray, List.set_cons_succ, List.set_cons_zero, size_alloc]))
  generalize ((w.alloc (.cells #[.int .i64 i0, .int .i64 i1, .int .i64 k.dx, .int .i64 k.dy, .bool k.hasC, .int .i64 k.clip.x0, .int .i64 k.clip.y0, .int .i64 k.clip.x1, .int .i64 k.clip.y1, .int .i64 k.opa, .int .i64 k.mode, .int .i64 k.ct.kind, .int .i64 k.ct.box.x0, .int .i64 k.ct.box.y0, .int .i64 k.ct.box.x1, .int .i64 k.ct.box.y1, .int .u8 k.ct.px.r, .int .u8 k.ct.px.g, .int .u8 k.ct.px.b, .int .u8 k.ct.px.a, .int .i64 k.ct.w, .int .i64 k.ct.h, .int .i64 k.ct.turn, .slice pa pn pc, .bool k.hasF, .slice fa fn fc, .int .i64 k.fil.out, .bool k.hasB, .slice ba bn bc, .int .i64 k.bak.out, .slice ka kn kc] 38)).alloc (.cells #[.int .i64 k.dx, .int .i64 k.dy, .bool k.hasC, .int .i64 k.clip.x0, .int .i64 k.clip.y0, .int .i64 k.clip.x1, .int .i64 k.clip.y1, .int .i64 k.opa, .int .i64 k.mode, .int .i64 k.ct.kind, .int .i64 k.ct.box.x0, .int .i64 k.ct.box.y0, .int .i64 k.ct.box.x1, .int .i64 k.ct.box.y1, .int .u8 k.ct.px.r, .int .u8 k.ct.px.g, .int .u8 k.ct.px.b, .int .u8 k.ct.px.a, .int .i64 k.ct.w, .int .i64 k.ct.h, .int .i64 k.ct.turn, .slice pa pn pc, .bool k.hasF, .slice fa fn fc, .int .i64 k.fil.out, .bool k.hasB, .slice ba bn bc, .int .i64 k.bak.out] 35)) = W1 at *
  clear HR0
  go_cut [6] from 8 (fun ov wx => ov = .bool o1 ∧ Bag w wx [(w.heap.size, [.int .i64 i0, .int .i64 i1, .int .i64 k.dx, .int .i64 k.dy, .bool k.hasC, .int .i64 k.clip.x0, .int .i64 k.clip.y0, .int .i64 k.clip.x1, .int .i64 k.clip.y1, .int .i64 k.opa, .int .i64 k.mode, .int .i64 k.ct.kind, .int .i64 k.ct.box.x0, .int .i64 k.ct.box.y0, .int .i64 k.ct.box.x1, .int .i64 k.ct.box.y1, .int .u8 k.ct.px.r, .int .u8 k.ct.px.g, .int .u8 k.ct.px.b, .int .u8 k.ct.px.a, .int .i64 k.ct.w, .int .i64 k.ct.h, .int .i64 k.ct.turn, .slice pa pn pc, .bool k.hasF, .slice fa fn fc, .int .i64 k.fil.out, .bool k.hasB, .slice ba bn bc, .int .i64 k.bak.out, .slice ka kn kc]), (w.heap.size + 1, [.int .i64 k.dx, .int .i64 k.dy, .bool k.hasC, .int .i64 k.clip.x0, .int .i64 k.clip.y0, .int .i64 k.clip.x1, .int .i64 k.clip.y1, .int .i64 k.opa, .int .i64 k.mode, .int .i64 k.ct.kind, .int .i64 k.ct.box.x0, .int .i64 k.ct.box.y0, .int .i64 k.ct.box.x1, .int .i64 k.ct.box.y1, .int .u8 k.ct.px.r, .int .u8 k.ct.px.g, .int .u8 k.ct.px.b, .int .u8 k.ct.px.a, .int .i64 k.ct.w, .int .i64 k.ct.h, .int .i64 k.ct.turn, .slice pa pn pc, .bool k.hasF, .slice fa fn fc, .int .i64 k.fil.out, .bool k.hasB, .slice ba bn bc, .int .i64 k.bak.out])])
  case first =>
    have e0 := H1.out.cell 1 rfl 0 rfl
    have e1 := H1.out.cell 1 rfl 1 rfl
    have e7 := H1.out.cell 1 rfl 7 rfl
    have e8 := H1.out.cell 1 rfl 8 rfl
    obtain ⟨b0, hb0⟩ : ∃ x, x = (decide (-1048576 ≤ k.dx)) := ⟨_, rfl⟩
    have HB0 : Hid (b0 = (decide (-1048576 ≤ k.dx))) := Lib.hid hb0
    clear hb0
    obtain ⟨b1, hb1⟩ : ∃ x, x = (b0 && decide (k.dx ≤ 1048576)) := ⟨_, rfl⟩
    have HB1 : Hid (b1 = (b0 && decide (k.dx ≤ 1048576))) := Lib.hid hb1
    clear hb1
    obtain ⟨b2, hb2⟩ : ∃ x, x = (b1 && decide (-1048576 ≤ k.dy)) := ⟨_, rfl⟩
    have HB2 : Hid (b2 = (b1 && decide (-1048576 ≤ k.dy))) := Lib.hid hb2
    clear hb2
    obtain ⟨b3, hb3⟩ : ∃ x, x = (b2 && decide (k.dy ≤ 1048576)) := ⟨_, rfl⟩
    have HB3 : Hid (b3 = (b2 && decide (k.dy ≤ 1048576))) := Lib.hid hb3
    clear hb3
    obtain ⟨b4, hb4⟩ : ∃ x, x = (b3 && decide (0 ≤ k.opa)) := ⟨_, rfl⟩
    have HB4 : Hid (b4 = (b3 && decide (0 ≤ k.opa))) := Lib.hid hb4
    clear hb4
    obtain ⟨b5, hb5⟩ : ∃ x, x = (b4 && decide (k.opa ≤ 255)) := ⟨_, rfl⟩
    have HB5 : Hid (b5 = (b4 && decide (k.opa ≤ 255))) := Lib.hid hb5
    clear hb5
    obtain ⟨b6, hb6⟩ : ∃ x, x = (b5 && decide (0 ≤ k.mode)) := ⟨_, rfl⟩
    have HB6 : Hid (b6 = (b5 && decide (0 ≤ k.mode))) := Lib.hid hb6
    clear hb6
    obtain ⟨b7, hb7⟩ : ∃ x, x = (b6 && decide (k.mode ≤ 6)) := ⟨_, rfl⟩
    have HB7 : Hid (b7 = (b6 && decide (k.mode ≤ 6))) := Lib.hid hb7
    clear hb7
    refine wp_region_lit ?_
    refine wpList_val rfl ((.pointer (some ⟨w.heap.size + 1, 0, none⟩))) (by simp [execOp, go_sem, Act.eval]) ?_
    simp only [Act.put, List.setIfInBounds_toArray, List.set_cons_succ, List.set_cons_zero]
    refine wpList_val rfl (.int .i64 k.dx) (by simp [execOp, go_sem, Act.eval, e0]) ?_
    simp only [Act.put, List.setIfInBounds_toArray, List.set_cons_succ, List.set_cons_zero]
    refine wpList_val rfl (.bool b0) (by rw [HB0.out]; simp [execOp, go_sem, Act.eval]) ?_
    simp only [Act.put, List.setIfInBounds_toArray, List.set_cons_succ, List.set_cons_zero]
    refine wpList_val rfl (.bool b0) (by simp [execOp, go_sem, Act.eval]) ?_
    simp only [Act.put, List.setIfInBounds_toArray, List.set_cons_succ, List.set_cons_zero]
    refine wpList_maybe b0 (by cases b0 <;> rfl) ((.pointer (some ⟨w.heap.size + 1, 0, none⟩))) (fun hd => by simp [execOp, go_sem, Act.eval]) ?_
    intro z0 hz0
    simp only [Act.put, List.setIfInBounds_toArray, List.set_cons_succ, List.set_cons_zero]
    refine wpList_maybe b0 (by cases b0 <;> rfl) (.int .i64 k.dx) (fun hd => by simp [execOp, go_sem, Act.eval, e0, hz0 hd]) ?_
    intro z1 hz1
    simp only [Act.put, List.setIfInBounds_toArray, List.set_cons_succ, List.set_cons_zero]
    refine wpList_maybe b0 (by cases b0 <;> rfl) (.bool (decide (k.dx ≤ 1048576))) (fun hd => by simp [execOp, go_sem, Act.eval, hz0 hd, hz1 hd]) ?_
    intro z2 hz2
    simp only [Act.put, List.setIfInBounds_toArray, List.set_cons_succ, List.set_cons_zero]
    refine wpList_val rfl (.bool b1) (by
      rw [HB1.out]
      cases b0 with
      | true => simp [execOp, go_sem, Act.eval, hz2 rfl]
      | false => simp [execOp, go_sem, Act.eval]) ?_
    simp only [Act.put, List.setIfInBounds_toArray, List.set_cons_succ, List.set_cons_zero]
    clear hz0 hz1 hz2
    refine wpList_val rfl (.bool b1) (by simp [execOp, go_sem, Act.eval]) ?_
    simp only [Act.put, List.setIfInBounds_toArray, List.set_cons_succ, List.set_cons_zero]
    refine wpList_maybe b1 (by cases b1 <;> rfl) ((.pointer (some ⟨w.heap.size + 1, 1, none⟩))) (fun hd => by simp [execOp, go_sem, Act.eval]) ?_
    intro z3 hz3
    simp only [Act.put, List.setIfInBounds_toArray, List.set_cons_succ, List.set_cons_zero]
    refine wpList_maybe b1 (by cases b1 <;> rfl) (.int .i64 k.dy) (fun hd => by simp [execOp, go_sem, Act.eval, e1, hz3 hd]) ?_
    intro z4 hz4
    simp only [Act.put, List.setIfInBounds_toArray, List.set_cons_succ, List.set_cons_zero]
    refine wpList_maybe b1 (by cases b1 <;> rfl) (.bool (decide (-1048576 ≤ k.dy))) (fun hd => by simp [execOp, go_sem, Act.eval, hz3 hd, hz4 hd]) ?_
    intro z5 hz5
    simp only [Act.put, List.setIfInBounds_toArray, List.set_cons_succ, List.set_cons_zero]
    refine wpList_val rfl (.bool b2) (by
      rw [HB2.out]
      cases b1 with
      | true => simp [execOp, go_sem, Act.eval, hz5 rfl]
      | false => simp [execOp, go_sem, Act.eval]) ?_
    simp only [Act.put, List.setIfInBounds_toArray, List.set_cons_succ, List.set_cons_zero]
    clear hz3 hz4 hz5
    refine wpList_val rfl (.bool b2) (by simp [execOp, go_sem, Act.eval]) ?_
    simp only [Act.put, List.setIfInBounds_toArray, List.set_cons_succ, List.set_cons_zero]
    refine wpList_maybe b2 (by cases b2 <;> rfl) ((.pointer (some ⟨w.heap.size + 1, 1, none⟩))) (fun hd => by simp [execOp, go_sem, Act.eval]) ?_
    intro z6 hz6
    simp only [Act.put, List.setIfInBounds_toArray, List.set_cons_succ, List.set_cons_zero]
    refine wpList_maybe b2 (by cases b2 <;> rfl) (.int .i64 k.dy) (fun hd => by simp [execOp, go_sem, Act.eval, e1, hz6 hd]) ?_
    intro z7 hz7
    simp only [Act.put, List.setIfInBounds_toArray, List.set_cons_succ, List.set_cons_zero]
    refine wpList_maybe b2 (by cases b2 <;> rfl) (.bool (decide (k.dy ≤ 1048576))) (fun hd => by simp [execOp, go_sem, Act.eval, hz6 hd, hz7 hd]) ?_
    intro z8 hz8
    simp only [Act.put, List.setIfInBounds_toArray, List.set_cons_succ, List.set_cons_zero]
    refine wpList_val rfl (.bool b3) (by
      rw [HB3.out]
      cases b2 with
      | true => simp [execOp, go_sem, Act.eval, hz8 rfl]
      | false => simp [execOp, go_sem, Act.eval]) ?_
    simp only [Act.put, List.setIfInBounds_toArray, List.set_cons_succ, List.set_cons_zero]
    clear hz6 hz7 hz8
    refine wpList_val rfl (.bool b3) (by simp [execOp, go_sem, Act.eval]) ?_
    simp only [Act.put, List.setIfInBounds_toArray, List.set_cons_succ, List.set_cons_zero]
    refine wpList_maybe b3 (by cases b3 <;> rfl) ((.pointer (some ⟨w.heap.size + 1, 7, none⟩))) (fun hd => by simp [execOp, go_sem, Act.eval]) ?_
    intro z9 hz9
    simp only [Act.put, List.setIfInBounds_toArray, List.set_cons_succ, List.set_cons_zero]
    refine wpList_maybe b3 (by cases b3 <;> rfl) (.int .i64 k.opa) (fun hd => by simp [execOp, go_sem, Act.eval, e7, hz9 hd]) ?_
    intro z10 hz10
    simp only [Act.put, List.setIfInBounds_toArray, List.set_cons_succ, List.set_cons_zero]
    refine wpList_maybe b3 (by cases b3 <;> rfl) (.bool (decide (0 ≤ k.opa))) (fun hd => by simp [execOp, go_sem, Act.eval, hz9 hd, hz10 hd]) ?_
    intro z11 hz11
    simp only [Act.put, List.setIfInBounds_toArray, List.set_cons_succ, List.set_cons_zero]
    refine wpList_val rfl (.bool b4) (by
      rw [HB4.out]
      cases b3 with
      | true => simp [execOp, go_sem, Act.eval, hz11 rfl]
      | false => simp [execOp, go_sem, Act.eval]) ?_
    simp only [Act.put, List.setIfInBounds_toArray, List.set_cons_succ, List.set_cons_zero]
    clear hz9 hz10 hz11
    refine wpList_val rfl (.bool b4) (by simp [execOp, go_sem, Act.eval]) ?_
    simp only [Act.put, List.setIfInBounds_toArray, List.set_cons_succ, List.set_cons_zero]
    refine wpList_maybe b4 (by cases b4 <;> rfl) ((.pointer (some ⟨w.heap.size + 1, 7, none⟩))) (fun hd => by simp [execOp, go_sem, Act.eval]) ?_
    intro z12 hz12
    simp only [Act.put, List.setIfInBounds_toArray, List.set_cons_succ, List.set_cons_zero]
    refine wpList_maybe b4 (by cases b4 <;> rfl) (.int .i64 k.opa) (fun hd => by simp [execOp, go_sem, Act.eval, e7, hz12 hd]) ?_
    intro z13 hz13
    simp only [Act.put, List.setIfInBounds_toArray, List.set_cons_succ, List.set_cons_zero]
    refine wpList_maybe b4 (by cases b4 <;> rfl) (.bool (decide (k.opa ≤ 255))) (fun hd => by simp [execOp, go_sem, Act.eval, hz12 hd, hz13 hd]) ?_
    intro z14 hz14
    simp only [Act.put, List.setIfInBounds_toArray, List.set_cons_succ, List.set_cons_zero]
    refine wpList_val rfl (.bool b5) (by
      rw [HB5.out]
      cases b4 with
      | true => simp [execOp, go_sem, Act.eval, hz14 rfl]
      | false => simp [execOp, go_sem, Act.eval]) ?_
    simp only [Act.put, List.setIfInBounds_toArray, List.set_cons_succ, List.set_cons_zero]
    clear hz12 hz13 hz14
    refine wpList_val rfl (.bool b5) (by simp [execOp, go_sem, Act.eval]) ?_
    simp only [Act.put, List.setIfInBounds_toArray, List.set_cons_succ, List.set_cons_zero]
    refine wpList_maybe b5 (by cases b5 <;> rfl) ((.pointer (some ⟨w.heap.size + 1, 8, none⟩))) (fun hd => by simp [execOp, go_sem, Act.eval]) ?_
    intro z15 hz15
    simp only [Act.put, List.setIfInBounds_toArray, List.set_cons_succ, List.set_cons_zero]
    refine wpList_maybe b5 (by cases b5 <;> rfl) (.int .i64 k.mode) (fun hd => by simp [execOp, go_sem, Act.eval, e8, hz15 hd]) ?_
    intro z16 hz16
    simp only [Act.put, List.setIfInBounds_toArray, List.set_cons_succ, List.set_cons_zero]
    refine wpList_maybe b5 (by cases b5 <;> rfl) (.bool (decide (0 ≤ k.mode))) (fun hd => by simp [execOp, go_sem, Act.eval, hz15 hd, hz16 hd]) ?_
    intro z17 hz17
    simp only [Act.put, List.setIfInBounds_toArray, List.set_cons_succ, List.set_cons_zero]
    refine wpList_val rfl (.bool b6) (by
      rw [HB6.out]
      cases b5 with
      | true => simp [execOp, go_sem, Act.eval, hz17 rfl]
      | false => simp [execOp, go_sem, Act.eval]) ?_
    simp only [Act.put, List.setIfInBounds_toArray, List.set_cons_succ, List.set_cons_zero]
    clear hz15 hz16 hz17
    refine wpList_val rfl (.bool b6) (by simp [execOp, go_sem, Act.eval]) ?_
    simp only [Act.put, List.setIfInBounds_toArray, List.set_cons_succ, List.set_cons_zero]
    refine wpList_maybe b6 (by cases b6 <;> rfl) ((.pointer (some ⟨w.heap.size + 1, 8, none⟩))) (fun hd => by simp [execOp, go_sem, Act.eval]) ?_
    intro z18 hz18
    simp only [Act.put, List.setIfInBounds_toArray, List.set_cons_succ, List.set_cons_zero]
    refine wpList_maybe b6 (by cases b6 <;> rfl) (.int .i64 k.mode) (fun hd => by simp [execOp, go_sem, Act.eval, e8, hz18 hd]) ?_
    intro z19 hz19
    simp only [Act.put, List.setIfInBounds_toArray, List.set_cons_succ, List.set_cons_zero]
    refine wpList_maybe b6 (by cases b6 <;> rfl) (.bool (decide (k.mode ≤ 6))) (fun hd => by simp [execOp, go_sem, Act.eval, hz18 hd, hz19 hd]) ?_
    intro z20 hz20
    simp only [Act.put, List.setIfInBounds_toArray, List.set_cons_succ, List.set_cons_zero]
    refine wpList_val rfl (.bool b7) (by
      rw [HB7.out]
      cases b6 with
      | true => simp [execOp, go_sem, Act.eval, hz20 rfl]
      | false => simp [execOp, go_sem, Act.eval]) ?_
    simp only [Act.put, List.setIfInBounds_toArray, List.set_cons_succ, List.set_cons_zero]
    clear hz18 hz19 hz20
    have HO1c : Hid (o1 = (b7 && (contB k.ct && decide (pn ≤ 300)))) := by
      have : o1 = (b7 && (contB k.ct && decide (pn ≤ 300))) := by
        rw [HB7.out, HB6.out, HB5.out, HB4.out, HB3.out, HB2.out, HB1.out, HB0.out, HO1.out, HPN.out]
        unfold lk1B
        simp only [Bool.and_assoc]
      exact this
    clear e0 e1 e7 e8 HB0 HB1 HB2 HB3 HB4 HB5 HB6 HB7
    cases b7 with
    | false =>
      have HF : Hid (o1 = false) := by
        have : o1 = false := by rw [HO1c.out]; rfl
        exact this
      go_wp2_with fail
      go_meet
      case rel => exact ⟨by rw [HF.out], H1.out⟩
    | true =>
    have HO1d : Hid (o1 = (contB k.ct && decide (pn ≤ 300))) := by
      have : o1 = (contB k.ct && decide (pn ≤ 300)) := HO1c.out
      exact this
    clear HO1c
    obtain ⟨c, hc⟩ : ∃ c, c = contB k.ct := ⟨_, rfl⟩
    have HCC : Hid (Calls Tryd.prog 12 #[.agg #[.int .i64 k.ct.kind, .int .i64 k.ct.box.x0, .int .i64 k.ct.box.y0, .int .i64 k.ct.box.x1, .int .i64 k.ct.box.y1, .int .u8 k.ct.px.r, .int .u8 k.ct.px.g, .int .u8 k.ct.px.b, .int .u8 k.ct.px.a, .int .i64 k.ct.w, .int .i64 k.ct.h, .int .i64 k.ct.turn, .slice pa pn pc]] W1 (PPost W1 (.bool c))) := by
      have h := content23_c B k.ct (.slice pa pn pc) W1 HA.out.1.1.2.2.2.2.2.1.2.2.1 ((HA.out.1.same (Same.of_below H1.out.below fun b (hb : b < B) => Nat.lt_of_lt_of_le hb HA.out.2.1)).2.1) (Nat.le_trans HA.out.2.1 H1.out.below.size)
      rw [hc]
      exact h
    rw [← hc] at HO1d
    clear hc
    have HLC : Hid (W1.rangeAt (w.heap.size + 1) 9 [.int .i64 k.ct.kind, .int .i64 k.ct.box.x0, .int .i64 k.ct.box.y0, .int .i64 k.ct.box.x1, .int .i64 k.ct.box.y1, .int .u8 k.ct.px.r, .int .u8 k.ct.px.g, .int .u8 k.ct.px.b, .int .u8 k.ct.px.a, .int .i64 k.ct.w, .int .i64 k.ct.h, .int .i64 k.ct.turn, .slice pa pn pc]) := H1.out.range 1 rfl 9 13
    go_wp2_with (with_reducible refine wpList_load_want rfl 30 _ rfl (w.heap.size + 1) 9 rfl [.int .i64 k.ct.kind, .int .i64 k.ct.box.x0, .int .i64 k.ct.box.y0, .int .i64 k.ct.box.x1, .int .i64 k.ct.box.y1, .int .u8 k.ct.px.r, .int .u8 k.ct.px.g, .int .u8 k.ct.px.b, .int .u8 k.ct.px.a, .int .i64 k.ct.w, .int .i64 k.ct.h, .int .i64 k.ct.turn, .slice pa pn pc] _ HLC.out Tryd.underlying30 rfl (by kernel_rfl) ?_; simp only [Act.put, List.setIfInBounds_toArray, List.set_cons_succ, List.set_cons_zero])
    refine HCC.out.mono ?_; rintro e W2 ⟨rfl, hb2⟩
    have H2 : Hid (Bag w W2 [(w.heap.size, [.int .i64 i0, .int .i64 i1, .int .i64 k.dx, .int .i64 k.dy, .bool k.hasC, .int .i64 k.clip.x0, .int .i64 k.clip.y0, .int .i64 k.clip.x1, .int .i64 k.clip.y1, .int .i64 k.opa, .int .i64 k.mode, .int .i64 k.ct.kind, .int .i64 k.ct.box.x0, .int .i64 k.ct.box.y0, .int .i64 k.ct.box.x1, .int .i64 k.ct.box.y1, .int .u8 k.ct.px.r, .int .u8 k.ct.px.g, .int .u8 k.ct.px.b, .int .u8 k.ct.px.a, .int .i64 k.ct.w, .int .i64 k.ct.h, .int .i64 k.ct.turn, .slice pa pn pc, .bool k.hasF, .slice fa fn fc, .int .i64 k.fil.out, .bool k.hasB, .slice ba bn bc, .int .i64 k.bak.out, .slice ka kn kc]), (w.heap.size + 1, [.int .i64 k.dx, .int .i64 k.dy, .bool k.hasC, .int .i64 k.clip.x0, .int .i64 k.clip.y0, .int .i64 k.clip.x1, .int .i64 k.clip.y1, .int .i64 k.opa, .int .i64 k.mode, .int .i64 k.ct.kind, .int .i64 k.ct.box.x0, .int .i64 k.ct.box.y0, .int .i64 k.ct.box.x1, .int .i64 k.ct.box.y1, .int .u8 k.ct.px.r, .int .u8 k.ct.px.g, .int .u8 k.ct.px.b, .int .u8 k.ct.px.a, .int .i64 k.ct.w, .int .i64 k.ct.h, .int .i64 k.ct.turn, .slice pa pn pc, .bool k.hasF, .slice fa fn fc, .int .i64 k.fil.out, .bool k.hasB, .slice ba bn bc, .int .i64 k.bak.out])]) := H1.out.call hb2
    clear hb2 HCC
    have e21 := H2.out.cell 1 rfl 21 rfl
    cases c with
    | false =>
      go_wp2_with fail
      go_meet
      case rel => exact ⟨by rw [HO1d.out]; rfl, H2.out⟩
    | true =>
      by_cases t : pn ≤ 300
      · have d0 : decide (pn ≤ 300) = true := decide_eq_true t
        have d1 : decide ((pn : Int) ≤ 300) = true := decide_eq_true (by omega)
        have HF : Hid (o1 = true) := by
          have : o1 = true := by rw [HO1d.out, d0]; rfl
          exact this
        clear t
        go_wp2_with fail
        go_meet
        case rel => exact ⟨by rw [HF.out], H2.out⟩
      · have d0 : decide (pn ≤ 300) = false := decide_eq_false t
        have d1 : decide ((pn : Int) ≤ 300) = false := decide_eq_false (by omega)
        have HF : Hid (o1 = false) := by
          have : o1 = false := by rw [HO1d.out, d0]; rfl
          exact this
        clear t
        go_wp2_with fail
        go_meet
        case rel => exact ⟨by rw [HF.out], H2.out⟩
  case rest =>
  obtain ⟨rfl, hbg⟩ := hcut
  obtain ⟨WA, hWA⟩ : ∃ x, x = wc := ⟨_, rfl⟩
  subst hWA
  have H2 : Hid (Bag w WA [(w.heap.size, [.int .i64 i0, .int .i64 i1, .int .i64 k.dx, .int .i64 k.dy, .bool k.hasC, .int .i64 k.clip.x0, .int .i64 k.clip.y0, .int .i64 k.clip.x1, .int .i64 k.clip.y1, .int .i64 k.opa, .int .i64 k.mode, .int .i64 k.ct.kind, .int .i64 k.ct.box.x0, .int .i64 k.ct.box.y0, .int .i64 k.ct.box.x1, .int .i64 k.ct.box.y1, .int .u8 k.ct.px.r, .int .u8 k.ct.px.g, .int .u8 k.ct.px.b, .int .u8 k.ct.px.a, .int .i64 k.ct.w, .int .i64 k.ct.h, .int .i64 k.ct.turn, .slice pa pn pc, .bool k.hasF, .slice fa fn fc, .int .i64 k.fil.out, .bool k.hasB, .slice ba bn bc, .int .i64 k.bak.out, .slice ka kn kc]), (w.heap.size + 1, [.int .i64 k.dx, .int .i64 k.dy, .bool k.hasC, .int .i64 k.clip.x0, .int .i64 k.clip.y0, .int .i64 k.clip.x1, .int .i64 k.clip.y1, .int .i64 k.opa, .int .i64 k.mode, .int .i64 k.ct.kind, .int .i64 k.ct.box.x0, .int .i64 k.ct.box.y0, .int .i64 k.ct.box.x1, .int .i64 k.ct.box.y1, .int .u8 k.ct.px.r, .int .u8 k.ct.px.g, .int .u8 k.ct.px.b, .int .u8 k.ct.px.a, .int .i64 k.ct.w, .int .i64 k.ct.h, .int .i64 k.ct.turn, .slice pa pn pc, .bool k.hasF, .slice fa fn fc, .int .i64 k.fil.out, .bool k.hasB, .slice ba bn bc, .int .i64 k.bak.out])]) := Lib.hid hbg
  have e2 := H2.out.cell 1 rfl 2 rfl
  clear hbg H1
  go_upto_if 61 with fail
  go_cut [6] from 8 (fun ov wx => ov = .bool o2 ∧ Bag w wx [(w.heap.size, [.int .i64 i0, .int .i64 i1, .int .i64 k.dx, .int .i64 k.dy, .bool k.hasC, .int .i64 k.clip.x0, .int .i64 k.clip.y0, .int .i64 k.clip.x1, .int .i64 k.clip.y1, .int .i64 k.opa, .int .i64 k.mode, .int .i64 k.ct.kind, .int .i64 k.ct.box.x0, .int .i64 k.ct.box.y0, .int .i64 k.ct.box.x1, .int .i64 k.ct.box.y1, .int .u8 k.ct.px.r, .int .u8 k.ct.px.g, .int .u8 k.ct.px.b, .int .u8 k.ct.px.a, .int .i64 k.ct.w, .int .i64 k.ct.h, .int .i64 k.ct.turn, .slice pa pn pc, .bool k.hasF, .slice fa fn fc, .int .i64 k.fil.out, .bool k.hasB, .slice ba bn bc, .int .i64 k.bak.out, .slice ka kn kc]), (w.heap.size + 1, [.int .i64 k.dx, .int .i64 k.dy, .bool k.hasC, .int .i64 k.clip.x0, .int .i64 k.clip.y0, .int .i64 k.clip.x1, .int .i64 k.clip.y1, .int .i64 k.opa, .int .i64 k.mode, .int .i64 k.ct.kind, .int .i64 k.ct.box.x0, .int .i64 k.ct.box.y0, .int .i64 k.ct.box.x1, .int .i64 k.ct.box.y1, .int .u8 k.ct.px.r, .int .u8 k.ct.px.g, .int .u8 k.ct.px.b, .int .u8 k.ct.px.a, .int .i64 k.ct.w, .int .i64 k.ct.h, .int .i64 k.ct.turn, .slice pa pn pc, .bool k.hasF, .slice fa fn fc, .int .i64 k.fil.out, .bool k.hasB, .slice ba bn bc, .int .i64 k.bak.out])])
  case first =>
    cases hC : k.hasC with
    | false =>
      have HF : Hid (o2 = o1) := by
        have : o2 = o1 := by rw [HO2.out, hC]; cases o1 <;> rfl
        exact this
      go_wp2_with fail
      go_meet
      case rel => exact ⟨by rw [HF.out], H2.out⟩
    | true =>
      have HO2c : Hid (o2 = (o1 && clp1B k.clip)) := by
        have : o2 = (o1 && clp1B k.clip) := by rw [HO2.out, hC]; rfl
        exact this
      have e3 := H2.out.cell 1 rfl 3 rfl
      have e4 := H2.out.cell 1 rfl 4 rfl
      have e5 := H2.out.cell 1 rfl 5 rfl
      have e6 := H2.out.cell 1 rfl 6 rfl
      go_upto_region 4 with fail
      refine wp_region_lit ?_
      obtain ⟨b0, hb0⟩ : ∃ x, x = (o1 && decide (-1048576 ≤ k.clip.x0)) := ⟨_, rfl⟩
      have HB0 : Hid (b0 = (o1 && decide (-1048576 ≤ k.clip.x0))) := Lib.hid hb0
      clear hb0
      obtain ⟨b1, hb1⟩ : ∃ x, x = (b0 && decide (-1048576 ≤ k.clip.y0)) := ⟨_, rfl⟩
      have HB1 : Hid (b1 = (b0 && decide (-1048576 ≤ k.clip.y0))) := Lib.hid hb1
      clear hb1
      obtain ⟨b2, hb2⟩ : ∃ x, x = (b1 && decide (k.clip.x1 ≤ 1048576)) := ⟨_, rfl⟩
      have HB2 : Hid (b2 = (b1 && decide (k.clip.x1 ≤ 1048576))) := Lib.hid hb2
      clear hb2
      obtain ⟨b3, hb3⟩ : ∃ x, x = (b2 && decide (k.clip.y1 ≤ 1048576)) := ⟨_, rfl⟩
      have HB3 : Hid (b3 = (b2 && decide (k.clip.y1 ≤ 1048576))) := Lib.hid hb3
      clear hb3
      obtain ⟨b4, hb4⟩ : ∃ x, x = (b3 && decide (k.clip.x0 ≤ 1048576)) := ⟨_, rfl⟩
      have HB4 : Hid (b4 = (b3 && decide (k.clip.x0 ≤ 1048576))) := Lib.hid hb4
      clear hb4
      obtain ⟨b5, hb5⟩ : ∃ x, x = (b4 && decide (k.clip.y0 ≤ 1048576)) := ⟨_, rfl⟩
      have HB5 : Hid (b5 = (b4 && decide (k.clip.y0 ≤ 1048576))) := Lib.hid hb5
      clear hb5
      obtain ⟨b6, hb6⟩ : ∃ x, x = (b5 && decide (-1048576 ≤ k.clip.x1)) := ⟨_, rfl⟩
      have HB6 : Hid (b6 = (b5 && decide (-1048576 ≤ k.clip.x1))) := Lib.hid hb6
      clear hb6
      obtain ⟨b7, hb7⟩ : ∃ x, x = (b6 && decide (-1048576 ≤ k.clip.y1)) := ⟨_, rfl⟩
      have HB7 : Hid (b7 = (b6 && decide (-1048576 ≤ k.clip.y1))) := Lib.hid hb7
      clear hb7
      have HF : Hid (b7 = o2) := by
        have : b7 = o2 := by
          rw [HB7.out, HB6.out, HB5.out, HB4.out, HB3.out, HB2.out, HB1.out, HB0.out, HO2c.out]
          unfold clp1B
          simp only [Bool.and_assoc]
        exact this
      refine wpList_val rfl (.bool o1) (by simp [execOp, go_sem, Act.eval]) ?_
      simp only [Act.put, List.setIfInBounds_toArray, List.set_cons_succ, List.set_cons_zero]
      refine wpList_val rfl (.bool o1) (by simp [execOp, go_sem, Act.eval]) ?_
      simp only [Act.put, List.setIfInBounds_toArray, List.set_cons_succ, List.set_cons_zero]
      refine wpList_maybe o1 (by cases o1 <;> rfl) ((.pointer (some ⟨w.heap.size + 1, 3, none⟩))) (fun hd => by simp [execOp, go_sem, Act.eval]) ?_
      intro z21 hz21
      simp only [Act.put, List.setIfInBounds_toArray, List.set_cons_succ, List.set_cons_zero]
      refine wpList_maybe o1 (by cases o1 <;> rfl) ((.pointer (some ⟨w.heap.size + 1, 3, none⟩))) (fun hd => by simp [execOp, go_sem, Act.eval, hz21 hd]) ?_
      intro z22 hz22
      simp only [Act.put, List.setIfInBounds_toArray, List.set_cons_succ, List.set_cons_zero]
      refine wpList_maybe o1 (by cases o1 <;> rfl) (.int .i64 k.clip.x0) (fun hd => by simp [execOp, go_sem, Act.eval, e3, hz21 hd, hz22 hd]) ?_
      intro z23 hz23
      simp only [Act.put, List.setIfInBounds_toArray, List.set_cons_succ, List.set_cons_zero]
      refine wpList_maybe o1 (by cases o1 <;> rfl) (.bool (decide (-1048576 ≤ k.clip.x0))) (fun hd => by simp [execOp, go_sem, Act.eval, hz21 hd, hz22 hd, hz23 hd]) ?_
      intro z24 hz24
      simp only [Act.put, List.setIfInBounds_toArray, List.set_cons_succ, List.set_cons_zero]
      refine wpList_val rfl (.bool b0) (by
        rw [HB0.out]
        cases o1 with
        | true => simp [execOp, go_sem, Act.eval, hz24 rfl]
        | false => simp [execOp, go_sem, Act.eval]) ?_
      simp only [Act.put, List.setIfInBounds_toArray, List.set_cons_succ, List.set_cons_zero]
      clear hz21 hz22 hz23 hz24
      refine wpList_val rfl (.bool b0) (by simp [execOp, go_sem, Act.eval]) ?_
      simp only [Act.put, List.setIfInBounds_toArray, List.set_cons_succ, List.set_cons_zero]
      refine wpList_maybe b0 (by cases b0 <;> rfl) ((.pointer (some ⟨w.heap.size + 1, 3, none⟩))) (fun hd => by simp [execOp, go_sem, Act.eval]) ?_
      intro z25 hz25
      simp only [Act.put, List.setIfInBounds_toArray, List.set_cons_succ, List.set_cons_zero]
      refine wpList_maybe b0 (by cases b0 <;> rfl) ((.pointer (some ⟨w.heap.size + 1, 4, none⟩))) (fun hd => by simp [execOp, go_sem, Act.eval, hz25 hd]) ?_
      intro z26 hz26
      simp only [Act.put, List.setIfInBounds_toArray, List.set_cons_succ, List.set_cons_zero]
      refine wpList_maybe b0 (by cases b0 <;> rfl) (.int .i64 k.clip.y0) (fun hd => by simp [execOp, go_sem, Act.eval, e4, hz25 hd, hz26 hd]) ?_
      intro z27 hz27
      simp only [Act.put, List.setIfInBounds_toArray, List.set_cons_succ, List.set_cons_zero]
      refine wpList_maybe b0 (by cases b0 <;> rfl) (.bool (decide (-1048576 ≤ k.clip.y0))) (fun hd => by simp [execOp, go_sem, Act.eval, hz25 hd, hz26 hd, hz27 hd]) ?_
      intro z28 hz28
      simp only [Act.put, List.setIfInBounds_toArray, List.set_cons_succ, List.set_cons_zero]
      refine wpList_val rfl (.bool b1) (by
        rw [HB1.out]
        cases b0 with
        | true => simp [execOp, go_sem, Act.eval, hz28 rfl]
        | false => simp [execOp, go_sem, Act.eval]) ?_
      simp only [Act.put, List.setIfInBounds_toArray, List.set_cons_succ, List.set_cons_zero]
      clear hz25 hz26 hz27 hz28
      refine wpList_val rfl (.bool b1) (by simp [execOp, go_sem, Act.eval]) ?_
      simp only [Act.put, List.setIfInBounds_toArray, List.set_cons_succ, List.set_cons_zero]
      refine wpList_maybe b1 (by cases b1 <;> rfl) ((.pointer (some ⟨w.heap.size + 1, 3, none⟩))) (fun hd => by simp [execOp, go_sem, Act.eval]) ?_
      intro z29 hz29
      simp only [Act.put, List.setIfInBounds_toArray, List.set_cons_succ, List.set_cons_zero]
      refine wpList_maybe b1 (by cases b1 <;> rfl) ((.pointer (some ⟨w.heap.size + 1, 5, none⟩))) (fun hd => by simp [execOp, go_sem, Act.eval, hz29 hd]) ?_
      intro z30 hz30
      simp only [Act.put, List.setIfInBounds_toArray, List.set_cons_succ, List.set_cons_zero]
      refine wpList_maybe b1 (by cases b1 <;> rfl) (.int .i64 k.clip.x1) (fun hd => by simp [execOp, go_sem, Act.eval, e5, hz29 hd, hz30 hd]) ?_
      intro z31 hz31
      simp only [Act.put, List.setIfInBounds_toArray, List.set_cons_succ, List.set_cons_zero]
      refine wpList_maybe b1 (by cases b1 <;> rfl) (.bool (decide (k.clip.x1 ≤ 1048576))) (fun hd => by simp [execOp, go_sem, Act.eval, hz29 hd, hz30 hd, hz31 hd]) ?_
      intro z32 hz32
      simp only [Act.put, List.setIfInBounds_toArray, List.set_cons_succ, List.set_cons_zero]
      refine wpList_val rfl (.bool b2) (by
        rw [HB2.out]
        cases b1 with
        | true => simp [execOp, go_sem, Act.eval, hz32 rfl]
        | false => simp [execOp, go_sem, Act.eval]) ?_
      simp only [Act.put, List.setIfInBounds_toArray, List.set_cons_succ, List.set_cons_zero]
      clear hz29 hz30 hz31 hz32
      refine wpList_val rfl (.bool b2) (by simp [execOp, go_sem, Act.eval]) ?_
      simp only [Act.put, List.setIfInBounds_toArray, List.set_cons_succ, List.set_cons_zero]
      refine wpList_maybe b2 (by cases b2 <;> rfl) ((.pointer (some ⟨w.heap.size + 1, 3, none⟩))) (fun hd => by simp [execOp, go_sem, Act.eval]) ?_
      intro z33 hz33
      simp only [Act.put, List.setIfInBounds_toArray, List.set_cons_succ, List.set_cons_zero]
      refine wpList_maybe b2 (by cases b2 <;> rfl) ((.pointer (some ⟨w.heap.size + 1, 6, none⟩))) (fun hd => by simp [execOp, go_sem, Act.eval, hz33 hd]) ?_
      intro z34 hz34
      simp only [Act.put, List.setIfInBounds_toArray, List.set_cons_succ, List.set_cons_zero]
      refine wpList_maybe b2 (by cases b2 <;> rfl) (.int .i64 k.clip.y1) (fun hd => by simp [execOp, go_sem, Act.eval, e6, hz33 hd, hz34 hd]) ?_
      intro z35 hz35
      simp only [Act.put, List.setIfInBounds_toArray, List.set_cons_succ, List.set_cons_zero]
      refine wpList_maybe b2 (by cases b2 <;> rfl) (.bool (decide (k.clip.y1 ≤ 1048576))) (fun hd => by simp [execOp, go_sem, Act.eval, hz33 hd, hz34 hd, hz35 hd]) ?_
      intro z36 hz36
      simp only [Act.put, List.setIfInBounds_toArray, List.set_cons_succ, List.set_cons_zero]
      refine wpList_val rfl (.bool b3) (by
        rw [HB3.out]
        cases b2 with
        | true => simp [execOp, go_sem, Act.eval, hz36 rfl]
        | false => simp [execOp, go_sem, Act.eval]) ?_
      simp only [Act.put, List.setIfInBounds_toArray, List.set_cons_succ, List.set_cons_zero]
      clear hz33 hz34 hz35 hz36
      refine wpList_val rfl (.bool b3) (by simp [execOp, go_sem, Act.eval]) ?_
      simp only [Act.put, List.setIfInBounds_toArray, List.set_cons_succ, List.set_cons_zero]
      refine wpList_maybe b3 (by cases b3 <;> rfl) ((.pointer (some ⟨w.heap.size + 1, 3, none⟩))) (fun hd => by simp [execOp, go_sem, Act.eval]) ?_
      intro z37 hz37
      simp only [Act.put, List.setIfInBounds_toArray, List.set_cons_succ, List.set_cons_zero]
      refine wpList_maybe b3 (by cases b3 <;> rfl) ((.pointer (some ⟨w.heap.size + 1, 3, none⟩))) (fun hd => by simp [execOp, go_sem, Act.eval, hz37 hd]) ?_
      intro z38 hz38
      simp only [Act.put, List.setIfInBounds_toArray, List.set_cons_succ, List.set_cons_zero]
      refine wpList_maybe b3 (by cases b3 <;> rfl) (.int .i64 k.clip.x0) (fun hd => by simp [execOp, go_sem, Act.eval, e3, hz37 hd, hz38 hd]) ?_
      intro z39 hz39
      simp only [Act.put, List.setIfInBounds_toArray, List.set_cons_succ, List.set_cons_zero]
      refine wpList_maybe b3 (by cases b3 <;> rfl) (.bool (decide (k.clip.x0 ≤ 1048576))) (fun hd => by simp [execOp, go_sem, Act.eval, hz37 hd, hz38 hd, hz39 hd]) ?_
      intro z40 hz40
      simp only [Act.put, List.setIfInBounds_toArray, List.set_cons_succ, List.set_cons_zero]
      refine wpList_val rfl (.bool b4) (by
        rw [HB4.out]
        cases b3 with
        | true => simp [execOp, go_sem, Act.eval, hz40 rfl]
        | false => simp [execOp, go_sem, Act.eval]) ?_
      simp only [Act.put, List.setIfInBounds_toArray, List.set_cons_succ, List.set_cons_zero]
      clear hz37 hz38 hz39 hz40
      refine wpList_val rfl (.bool b4) (by simp [execOp, go_sem, Act.eval]) ?_
      simp only [Act.put, List.setIfInBounds_toArray, List.set_cons_succ, List.set_cons_zero]
      refine wpList_maybe b4 (by cases b4 <;> rfl) ((.pointer (some ⟨w.heap.size + 1, 3, none⟩))) (fun hd => by simp [execOp, go_sem, Act.eval]) ?_
      intro z41 hz41
      simp only [Act.put, List.setIfInBounds_toArray, List.set_cons_succ, List.set_cons_zero]
      refine wpList_maybe b4 (by cases b4 <;> rfl) ((.pointer (some ⟨w.heap.size + 1, 4, none⟩))) (fun hd => by simp [execOp, go_sem, Act.eval, hz41 hd]) ?_
      intro z42 hz42
      simp only [Act.put, List.setIfInBounds_toArray, List.set_cons_succ, List.set_cons_zero]
      refine wpList_maybe b4 (by cases b4 <;> rfl) (.int .i64 k.clip.y0) (fun hd => by simp [execOp, go_sem, Act.eval, e4, hz41 hd, hz42 hd]) ?_
      intro z43 hz43
      simp only [Act.put, List.setIfInBounds_toArray, List.set_cons_succ, List.set_cons_zero]
      refine wpList_maybe b4 (by cases b4 <;> rfl) (.bool (decide (k.clip.y0 ≤ 1048576))) (fun hd => by simp [execOp, go_sem, Act.eval, hz41 hd, hz42 hd, hz43 hd]) ?_
      intro z44 hz44
      simp only [Act.put, List.setIfInBounds_toArray, List.set_cons_succ, List.set_cons_zero]
      refine wpList_val rfl (.bool b5) (by
        rw [HB5.out]
        cases b4 with
        | true => simp [execOp, go_sem, Act.eval, hz44 rfl]
        | false => simp [execOp, go_sem, Act.eval]) ?_
      simp only [Act.put, List.setIfInBounds_toArray, List.set_cons_succ, List.set_cons_zero]
      clear hz41 hz42 hz43 hz44
      refine wpList_val rfl (.bool b5) (by simp [execOp, go_sem, Act.eval]) ?_
      simp only [Act.put, List.setIfInBounds_toArray, List.set_cons_succ, List.set_cons_zero]
      refine wpList_maybe b5 (by cases b5 <;> rfl) ((.pointer (some ⟨w.heap.size + 1, 3, none⟩))) (fun hd => by simp [execOp, go_sem, Act.eval]) ?_
      intro z45 hz45
      simp only [Act.put, List.setIfInBounds_toArray, List.set_cons_succ, List.set_cons_zero]
      refine wpList_maybe b5 (by cases b5 <;> rfl) ((.pointer (some ⟨w.heap.size + 1, 5, none⟩))) (fun hd => by simp [execOp, go_sem, Act.eval, hz45 hd]) ?_
      intro z46 hz46
      simp only [Act.put, List.setIfInBounds_toArray, List.set_cons_succ, List.set_cons_zero]
      refine wpList_maybe b5 (by cases b5 <;> rfl) (.int .i64 k.clip.x1) (fun hd => by simp [execOp, go_sem, Act.eval, e5, hz45 hd, hz46 hd]) ?_
      intro z47 hz47
      simp only [Act.put, List.setIfInBounds_toArray, List.set_cons_succ, List.set_cons_zero]
      refine wpList_maybe b5 (by cases b5 <;> rfl) (.bool (decide (-1048576 ≤ k.clip.x1))) (fun hd => by simp [execOp, go_sem, Act.eval, hz45 hd, hz46 hd, hz47 hd]) ?_
      intro z48 hz48
      simp only [Act.put, List.setIfInBounds_toArray, List.set_cons_succ, List.set_cons_zero]
      refine wpList_val rfl (.bool b6) (by
        rw [HB6.out]
        cases b5 with
        | true => simp [execOp, go_sem, Act.eval, hz48 rfl]
        | false => simp [execOp, go_sem, Act.eval]) ?_
      simp only [Act.put, List.setIfInBounds_toArray, List.set_cons_succ, List.set_cons_zero]
      clear hz45 hz46 hz47 hz48
      refine wpList_val rfl (.bool b6) (by simp [execOp, go_sem, Act.eval]) ?_
      simp only [Act.put, List.setIfInBounds_toArray, List.set_cons_succ, List.set_cons_zero]
      refine wpList_maybe b6 (by cases b6 <;> rfl) ((.pointer (some ⟨w.heap.size + 1, 3, none⟩))) (fun hd => by simp [execOp, go_sem, Act.eval]) ?_
      intro z49 hz49
      simp only [Act.put, List.setIfInBounds_toArray, List.set_cons_succ, List.set_cons_zero]
      refine wpList_maybe b6 (by cases b6 <;> rfl) ((.pointer (some ⟨w.heap.size + 1, 6, none⟩))) (fun hd => by simp [execOp, go_sem, Act.eval, hz49 hd]) ?_
      intro z50 hz50
      simp only [Act.put, List.setIfInBounds_toArray, List.set_cons_succ, List.set_cons_zero]
      refine wpList_maybe b6 (by cases b6 <;> rfl) (.int .i64 k.clip.y1) (fun hd => by simp [execOp, go_sem, Act.eval, e6, hz49 hd, hz50 hd]) ?_
      intro z51 hz51
      simp only [Act.put, List.setIfInBounds_toArray, List.set_cons_succ, List.set_cons_zero]
      refine wpList_maybe b6 (by cases b6 <;> rfl) (.bool (decide (-1048576 ≤ k.clip.y1))) (fun hd => by simp [execOp, go_sem, Act.eval, hz49 hd, hz50 hd, hz51 hd]) ?_
      intro z52 hz52
      simp only [Act.put, List.setIfInBounds_toArray, List.set_cons_succ, List.set_cons_zero]
      refine wpList_val rfl (.bool b7) (by
        rw [HB7.out]
        cases b6 with
        | true => simp [execOp, go_sem, Act.eval, hz52 rfl]
        | false => simp [execOp, go_sem, Act.eval]) ?_
      simp only [Act.put, List.setIfInBounds_toArray, List.set_cons_succ, List.set_cons_zero]
      clear hz49 hz50 hz51 hz52
      clear e3 e4 e5 e6
      go_wp2_with fail
      go_meet
      case rel => exact ⟨by rw [HF.out], H2.out⟩
  case rest =>
  obtain ⟨rfl, hbg⟩ := hcut
  obtain ⟨WB, hWA⟩ : ∃ x, x = wc := ⟨_, rfl⟩
  subst hWA
  have H3p : Hid (Bag w WB [(w.heap.size, [.int .i64 i0, .int .i64 i1, .int .i64 k.dx, .int .i64 k.dy, .bool k.hasC, .int .i64 k.clip.x0, .int .i64 k.clip.y0, .int .i64 k.clip.x1, .int .i64 k.clip.y1, .int .i64 k.opa, .int .i64 k.mode, .int .i64 k.ct.kind, .int .i64 k.ct.box.x0, .int .i64 k.ct.box.y0, .int .i64 k.ct.box.x1, .int .i64 k.ct.box.y1, .int .u8 k.ct.px.r, .int .u8 k.ct.px.g, .int .u8 k.ct.px.b, .int .u8 k.ct.px.a, .int .i64 k.ct.w, .int .i64 k.ct.h, .int .i64 k.ct.turn, .slice pa pn pc, .bool k.hasF, .slice fa fn fc, .int .i64 k.fil.out, .bool k.hasB, .slice ba bn bc, .int .i64 k.bak.out, .slice ka kn kc]), (w.heap.size + 1, [.int .i64 k.dx, .int .i64 k.dy, .bool k.hasC, .int .i64 k.clip.x0, .int .i64 k.clip.y0, .int .i64 k.clip.x1, .int .i64 k.clip.y1, .int .i64 k.opa, .int .i64 k.mode, .int .i64 k.ct.kind, .int .i64 k.ct.box.x0, .int .i64 k.ct.box.y0, .int .i64 k.ct.box.x1, .int .i64 k.ct.box.y1, .int .u8 k.ct.px.r, .int .u8 k.ct.px.g, .int .u8 k.ct.px.b, .int .u8 k.ct.px.a, .int .i64 k.ct.w, .int .i64 k.ct.h, .int .i64 k.ct.turn, .slice pa pn pc, .bool k.hasF, .slice fa fn fc, .int .i64 k.fil.out, .bool k.hasB, .slice ba bn bc, .int .i64 k.bak.out])]) := Lib.hid hbg
  have e22 := H3p.out.cell 1 rfl 22 rfl
  clear hbg H2 e2
  go_upto_if 112 with fail
  go_cut [6] from 8 (fun ov wx => ov = .bool o3 ∧ Bag w wx [(w.heap.size, [.int .i64 i0, .int .i64 i1, .int .i64 k.dx, .int .i64 k.dy, .bool k.hasC, .int .i64 k.clip.x0, .int .i64 k.clip.y0, .int .i64 k.clip.x1, .int .i64 k.clip.y1, .int .i64 k.opa, .int .i64 k.mode, .int .i64 k.ct.kind, .int .i64 k.ct.box.x0, .int .i64 k.ct.box.y0, .int .i64 k.ct.box.x1, .int .i64 k.ct.box.y1, .int .u8 k.ct.px.r, .int .u8 k.ct.px.g, .int .u8 k.ct.px.b, .int .u8 k.ct.px.a, .int .i64 k.ct.w, .int .i64 k.ct.h, .int .i64 k.ct.turn, .slice pa pn pc, .bool k.hasF, .slice fa fn fc, .int .i64 k.fil.out, .bool k.hasB, .slice ba bn bc, .int .i64 k.bak.out, .slice ka kn kc]), (w.heap.size + 1, [.int .i64 k.dx, .int .i64 k.dy, .bool k.hasC, .int .i64 k.clip.x0, .int .i64 k.clip.y0, .int .i64 k.clip.x1, .int .i64 k.clip.y1, .int .i64 k.opa, .int .i64 k.mode, .int .i64 k.ct.kind, .int .i64 k.ct.box.x0, .int .i64 k.ct.box.y0, .int .i64 k.ct.box.x1, .int .i64 k.ct.box.y1, .int .u8 k.ct.px.r, .int .u8 k.ct.px.g, .int .u8 k.ct.px.b, .int .u8 k.ct.px.a, .int .i64 k.ct.w, .int .i64 k.ct.h, .int .i64 k.ct.turn, .slice pa pn pc, .bool k.hasF, .slice fa fn fc, .int .i64 k.fil.out, .bool k.hasB, .slice ba bn bc, .int .i64 k.bak.out])])
  case first =>
    cases hC : k.hasF with
    | false =>
      have HF : Hid (o3 = o2) := by
        have : o3 = o2 := by rw [HO3.out, hC]; cases o2 <;> rfl
        exact this
      go_wp2_with fail
      go_meet
      case rel => exact ⟨by rw [HF.out], H3p.out⟩
    | true =>
      cases o2 with
      | false =>
        go_wp2_with fail
        go_meet
        case rel => exact ⟨by rw [HO3.out]; rfl, H3p.out⟩
      | true =>
        obtain ⟨fw, hfw⟩ : ∃ f, f = fewB k.fil.nds 7 := ⟨_, rfl⟩
        have HOc : Hid (o3 = filB k.fil) := by
          have : o3 = filB k.fil := by rw [HO3.out, hC]; rfl
          exact this
        have HGR : Hid (∀ W, Below w.heap.size w W → Gr B W (.slice fa fn fc) k.fil.nds ∧ B ≤ W.heap.size ∧ Tabs W) := fun W hb => ⟨(HA.out.1.same (Same.of_below hb fun b (hb : b < B) => Nat.lt_of_lt_of_le hb HA.out.2.1)).2.2.1, Nat.le_trans HA.out.2.1 hb.size, HA.out.2.2.below hb⟩
        have HFW : Hid (∀ W, Below w.heap.size w W → Calls Tryd.prog 13 #[.agg #[.slice fa fn fc, .int .i64 k.fil.out], .int .i64 7] W (PPost W (.bool fw))) := fun W hb => by
          rw [hfw]
          exact rfew_c B _ k.fil.nds k.fil.out 7 W (by omega) (HGR.out W hb).1
        have HFE : Hid (fw = fewB k.fil.nds 7) := Lib.hid hfw
        have e23 := H3p.out.cell 1 rfl 23 rfl
        have e24 := H3p.out.cell 1 rfl 24 rfl
        clear hfw hC
        go_wp2_with fail
        refine (HFW.out _ H3p.out.below).mono ?_; rintro e W4 ⟨rfl, hb4⟩
        have H4 : Hid (Bag w W4 [(w.heap.size, [.int .i64 i0, .int .i64 i1, .int .i64 k.dx, .int .i64 k.dy, .bool k.hasC, .int .i64 k.clip.x0, .int .i64 k.clip.y0, .int .i64 k.clip.x1, .int .i64 k.clip.y1, .int .i64 k.opa, .int .i64 k.mode, .int .i64 k.ct.kind, .int .i64 k.ct.box.x0, .int .i64 k.ct.box.y0, .int .i64 k.ct.box.x1, .int .i64 k.ct.box.y1, .int .u8 k.ct.px.r, .int .u8 k.ct.px.g, .int .u8 k.ct.px.b, .int .u8 k.ct.px.a, .int .i64 k.ct.w, .int .i64 k.ct.h, .int .i64 k.ct.turn, .slice pa pn pc, .bool k.hasF, .slice fa fn fc, .int .i64 k.fil.out, .bool k.hasB, .slice ba bn bc, .int .i64 k.bak.out, .slice ka kn kc]), (w.heap.size + 1, [.int .i64 k.dx, .int .i64 k.dy, .bool k.hasC, .int .i64 k.clip.x0, .int .i64 k.clip.y0, .int .i64 k.clip.x1, .int .i64 k.clip.y1, .int .i64 k.opa, .int .i64 k.mode, .int .i64 k.ct.kind, .int .i64 k.ct.box.x0, .int .i64 k.ct.box.y0, .int .i64 k.ct.box.x1, .int .i64 k.ct.box.y1, .int .u8 k.ct.px.r, .int .u8 k.ct.px.g, .int .u8 k.ct.px.b, .int .u8 k.ct.px.a, .int .i64 k.ct.w, .int .i64 k.ct.h, .int .i64 k.ct.turn, .slice pa pn pc, .bool k.hasF, .slice fa fn fc, .int .i64 k.fil.out, .bool k.hasB, .slice ba bn bc, .int .i64 k.bak.out])]) := H3p.out.call hb4
        clear hb4 H3p HFW e23 e24 e22
        cases fw with
        | false =>
          have HF : Hid (o3 = false) := by
            have : o3 = false := by rw [HOc.out]; unfold filB; rw [← HFE.out]; rfl
            exact this
          go_wp2_with fail
          go_meet
          case rel => exact ⟨by rw [HF.out], H4.out⟩
        | true =>
          obtain ⟨ck, hck⟩ : ∃ f, f = chkB k.fil.nds k.fil.out := ⟨_, rfl⟩
          have HCK : Hid (∀ W, Below w.heap.size w W → Calls Tryd.prog 14 #[.agg #[.slice fa fn fc, .int .i64 k.fil.out]] W (PPost W (.int .i64 ck))) := fun W hb => by
            obtain ⟨h1, h2⟩ := few_of HFE.out.symm (by omega)
            rw [hck]
            exact check_c B _ k.fil.nds k.fil.out W (by omega) h2 (HGR.out W hb).2.2 (HGR.out W hb).1 (HGR.out W hb).2.1
          have HF : Hid (o3 = (ck == 0)) := by
            have : o3 = (ck == 0) := by rw [HOc.out, hck]; unfold filB; rw [← HFE.out]; rfl
            exact this
          have e23 := H4.out.cell 1 rfl 23 rfl
          have e24 := H4.out.cell 1 rfl 24 rfl
          clear hck
          go_wp2_with fail
          refine (HCK.out _ H4.out.below).mono ?_; rintro e W5 ⟨rfl, hb5⟩
          have H5 : Hid (Bag w W5 [(w.heap.size, [.int .i64 i0, .int .i64 i1, .int .i64 k.dx, .int .i64 k.dy, .bool k.hasC, .int .i64 k.clip.x0, .int .i64 k.clip.y0, .int .i64 k.clip.x1, .int .i64 k.clip.y1, .int .i64 k.opa, .int .i64 k.mode, .int .i64 k.ct.kind, .int .i64 k.ct.box.x0, .int .i64 k.ct.box.y0, .int .i64 k.ct.box.x1, .int .i64 k.ct.box.y1, .int .u8 k.ct.px.r, .int .u8 k.ct.px.g, .int .u8 k.ct.px.b, .int .u8 k.ct.px.a, .int .i64 k.ct.w, .int .i64 k.ct.h, .int .i64 k.ct.turn, .slice pa pn pc, .bool k.hasF, .slice fa fn fc, .int .i64 k.fil.out, .bool k.hasB, .slice ba bn bc, .int .i64 k.bak.out, .slice ka kn kc]), (w.heap.size + 1, [.int .i64 k.dx, .int .i64 k.dy, .bool k.hasC, .int .i64 k.clip.x0, .int .i64 k.clip.y0, .int .i64 k.clip.x1, .int .i64 k.clip.y1, .int .i64 k.opa, .int .i64 k.mode, .int .i64 k.ct.kind, .int .i64 k.ct.box.x0, .int .i64 k.ct.box.y0, .int .i64 k.ct.box.x1, .int .i64 k.ct.box.y1, .int .u8 k.ct.px.r, .int .u8 k.ct.px.g, .int .u8 k.ct.px.b, .int .u8 k.ct.px.a, .int .i64 k.ct.w, .int .i64 k.ct.h, .int .i64 k.ct.turn, .slice pa pn pc, .bool k.hasF, .slice fa fn fc, .int .i64 k.fil.out, .bool k.hasB, .slice ba bn bc, .int .i64 k.bak.out])]) := H4.out.call hb5
          clear hb5 H4 HCK e23 e24
          go_wp2_with fail
          go_meet
          case rel => exact ⟨by rw [HF.out], H5.out⟩
  case rest =>
  obtain ⟨rfl, hbg⟩ := hcut
  obtain ⟨WC, hWA⟩ : ∃ x, x = wc := ⟨_, rfl⟩
  subst hWA
  have H3 : Hid (Bag w WC [(w.heap.size, [.int .i64 i0, .int .i64 i1, .int .i64 k.dx, .int .i64 k.dy, .bool k.hasC, .int .i64 k.clip.x0, .int .i64 k.clip.y0, .int .i64 k.clip.x1, .int .i64 k.clip.y1, .int .i64 k.opa, .int .i64 k.mode, .int .i64 k.ct.kind, .int .i64 k.ct.box.x0, .int .i64 k.ct.box.y0, .int .i64 k.ct.box.x1, .int .i64 k.ct.box.y1, .int .u8 k.ct.px.r, .int .u8 k.ct.px.g, .int .u8 k.ct.px.b, .int .u8 k.ct.px.a, .int .i64 k.ct.w, .int .i64 k.ct.h, .int .i64 k.ct.turn, .slice pa pn pc, .bool k.hasF, .slice fa fn fc, .int .i64 k.fil.out, .bool k.hasB, .slice ba bn bc, .int .i64 k.bak.out, .slice ka kn kc]), (w.heap.size + 1, [.int .i64 k.dx, .int .i64 k.dy, .bool k.hasC, .int .i64 k.clip.x0, .int .i64 k.clip.y0, .int .i64 k.clip.x1, .int .i64 k.clip.y1, .int .i64 k.opa, .int .i64 k.mode, .int .i64 k.ct.kind, .int .i64 k.ct.box.x0, .int .i64 k.ct.box.y0, .int .i64 k.ct.box.x1, .int .i64 k.ct.box.y1, .int .u8 k.ct.px.r, .int .u8 k.ct.px.g, .int .u8 k.ct.px.b, .int .u8 k.ct.px.a, .int .i64 k.ct.w, .int .i64 k.ct.h, .int .i64 k.ct.turn, .slice pa pn pc, .bool k.hasF, .slice fa fn fc, .int .i64 k.fil.out, .bool k.hasB, .slice ba bn bc, .int .i64 k.bak.out])]) := Lib.hid hbg
  have e25 := H3.out.cell 1 rfl 25 rfl
  clear hbg H3p e22
  go_upto_if 126 with fail
  go_cut [6] from 8 (fun ov wx => ov = .bool o4 ∧ Bag w wx [(w.heap.size, [.int .i64 i0, .int .i64 i1, .int .i64 k.dx, .int .i64 k.dy, .bool k.hasC, .int .i64 k.clip.x0, .int .i64 k.clip.y0, .int .i64 k.clip.x1, .int .i64 k.clip.y1, .int .i64 k.opa, .int .i64 k.mode, .int .i64 k.ct.kind, .int .i64 k.ct.box.x0, .int .i64 k.ct.box.y0, .int .i64 k.ct.box.x1, .int .i64 k.ct.box.y1, .int .u8 k.ct.px.r, .int .u8 k.ct.px.g, .int .u8 k.ct.px.b, .int .u8 k.ct.px.a, .int .i64 k.ct.w, .int .i64 k.ct.h, .int .i64 k.ct.turn, .slice pa pn pc, .bool k.hasF, .slice fa fn fc, .int .i64 k.fil.out, .bool k.hasB, .slice ba bn bc, .int .i64 k.bak.out, .slice ka kn kc]), (w.heap.size + 1, [.int .i64 k.dx, .int .i64 k.dy, .bool k.hasC, .int .i64 k.clip.x0, .int .i64 k.clip.y0, .int .i64 k.clip.x1, .int .i64 k.clip.y1, .int .i64 k.opa, .int .i64 k.mode, .int .i64 k.ct.kind, .int .i64 k.ct.box.x0, .int .i64 k.ct.box.y0, .int .i64 k.ct.box.x1, .int .i64 k.ct.box.y1, .int .u8 k.ct.px.r, .int .u8 k.ct.px.g, .int .u8 k.ct.px.b, .int .u8 k.ct.px.a, .int .i64 k.ct.w, .int .i64 k.ct.h, .int .i64 k.ct.turn, .slice pa pn pc, .bool k.hasF, .slice fa fn fc, .int .i64 k.fil.out, .bool k.hasB, .slice ba bn bc, .int .i64 k.bak.out])])
  case first =>
    cases hC : k.hasB with
    | false =>
      have HF : Hid (o4 = o3) := by
        have : o4 = o3 := by rw [HO4.out, hC]; cases o3 <;> rfl
        exact this
      go_wp2_with fail
      go_meet
      case rel => exact ⟨by rw [HF.out], H3.out⟩
    | true =>
      cases o3 with
      | false =>
        go_wp2_with fail
        go_meet
        case rel => exact ⟨by rw [HO4.out]; rfl, H3.out⟩
      | true =>
        obtain ⟨fw, hfw⟩ : ∃ f, f = fewB k.bak.nds 7 := ⟨_, rfl⟩
        have HOc : Hid (o4 = filB k.bak) := by
          have : o4 = filB k.bak := by rw [HO4.out, hC]; rfl
          exact this
        have HGR : Hid (∀ W, Below w.heap.size w W → Gr B W (.slice ba bn bc) k.bak.nds ∧ B ≤ W.heap.size ∧ Tabs W) := fun W hb => ⟨(HA.out.1.same (Same.of_below hb fun b (hb : b < B) => Nat.lt_of_lt_of_le hb HA.out.2.1)).2.2.2, Nat.le_trans HA.out.2.1 hb.size, HA.out.2.2.below hb⟩
        have HFW : Hid (∀ W, Below w.heap.size w W → Calls Tryd.prog 13 #[.agg #[.slice ba bn bc, .int .i64 k.bak.out], .int .i64 7] W (PPost W (.bool fw))) := fun W hb => by
          rw [hfw]
          exact rfew_c B _ k.bak.nds k.bak.out 7 W (by omega) (HGR.out W hb).1
        have HFE : Hid (fw = fewB k.bak.nds 7) := Lib.hid hfw
        have e26 := H3.out.cell 1 rfl 26 rfl
        have e27 := H3.out.cell 1 rfl 27 rfl
        clear hfw hC
        go_wp2_with fail
        refine (HFW.out _ H3.out.below).mono ?_; rintro e W4 ⟨rfl, hb4⟩
        have H4 : Hid (Bag w W4 [(w.heap.size, [.int .i64 i0, .int .i64 i1, .int .i64 k.dx, .int .i64 k.dy, .bool k.hasC, .int .i64 k.clip.x0, .int .i64 k.clip.y0, .int .i64 k.clip.x1, .int .i64 k.clip.y1, .int .i64 k.opa, .int .i64 k.mode, .int .i64 k.ct.kind, .int .i64 k.ct.box.x0, .int .i64 k.ct.box.y0, .int .i64 k.ct.box.x1, .int .i64 k.ct.box.y1, .int .u8 k.ct.px.r, .int .u8 k.ct.px.g, .int .u8 k.ct.px.b, .int .u8 k.ct.px.a, .int .i64 k.ct.w, .int .i64 k.ct.h, .int .i64 k.ct.turn, .slice pa pn pc, .bool k.hasF, .slice fa fn fc, .int .i64 k.fil.out, .bool k.hasB, .slice ba bn bc, .int .i64 k.bak.out, .slice ka kn kc]), (w.heap.size + 1, [.int .i64 k.dx, .int .i64 k.dy, .bool k.hasC, .int .i64 k.clip.x0, .int .i64 k.clip.y0, .int .i64 k.clip.x1, .int .i64 k.clip.y1, .int .i64 k.opa, .int .i64 k.mode, .int .i64 k.ct.kind, .int .i64 k.ct.box.x0, .int .i64 k.ct.box.y0, .int .i64 k.ct.box.x1, .int .i64 k.ct.box.y1, .int .u8 k.ct.px.r, .int .u8 k.ct.px.g, .int .u8 k.ct.px.b, .int .u8 k.ct.px.a, .int .i64 k.ct.w, .int .i64 k.ct.h, .int .i64 k.ct.turn, .slice pa pn pc, .bool k.hasF, .slice fa fn fc, .int .i64 k.fil.out, .bool k.hasB, .slice ba bn bc, .int .i64 k.bak.out])]) := H3.out.call hb4
        clear hb4 H3 HFW e26 e27 e25
        cases fw with
        | false =>
          have HF : Hid (o4 = false) := by
            have : o4 = false := by rw [HOc.out]; unfold filB; rw [← HFE.out]; rfl
            exact this
          go_wp2_with fail
          go_meet
          case rel => exact ⟨by rw [HF.out], H4.out⟩
        | true =>
          obtain ⟨ck, hck⟩ : ∃ f, f = chkB k.bak.nds k.bak.out := ⟨_, rfl⟩
          have HCK : Hid (∀ W, Below w.heap.size w W → Calls Tryd.prog 14 #[.agg #[.slice ba bn bc, .int .i64 k.bak.out]] W (PPost W (.int .i64 ck))) := fun W hb => by
            obtain ⟨h1, h2⟩ := few_of HFE.out.symm (by omega)
            rw [hck]
            exact check_c B _ k.bak.nds k.bak.out W (by omega) h2 (HGR.out W hb).2.2 (HGR.out W hb).1 (HGR.out W hb).2.1
          have HF : Hid (o4 = (ck == 0)) := by
            have : o4 = (ck == 0) := by rw [HOc.out, hck]; unfold filB; rw [← HFE.out]; rfl
            exact this
          have e26 := H4.out.cell 1 rfl 26 rfl
          have e27 := H4.out.cell 1 rfl 27 rfl
          clear hck
          go_wp2_with fail
          refine (HCK.out _ H4.out.below).mono ?_; rintro e W5 ⟨rfl, hb5⟩
          have H5 : Hid (Bag w W5 [(w.heap.size, [.int .i64 i0, .int .i64 i1, .int .i64 k.dx, .int .i64 k.dy, .bool k.hasC, .int .i64 k.clip.x0, .int .i64 k.clip.y0, .int .i64 k.clip.x1, .int .i64 k.clip.y1, .int .i64 k.opa, .int .i64 k.mode, .int .i64 k.ct.kind, .int .i64 k.ct.box.x0, .int .i64 k.ct.box.y0, .int .i64 k.ct.box.x1, .int .i64 k.ct.box.y1, .int .u8 k.ct.px.r, .int .u8 k.ct.px.g, .int .u8 k.ct.px.b, .int .u8 k.ct.px.a, .int .i64 k.ct.w, .int .i64 k.ct.h, .int .i64 k.ct.turn, .slice pa pn pc, .bool k.hasF, .slice fa fn fc, .int .i64 k.fil.out, .bool k.hasB, .slice ba bn bc, .int .i64 k.bak.out, .slice ka kn kc]), (w.heap.size + 1, [.int .i64 k.dx, .int .i64 k.dy, .bool k.hasC, .int .i64 k.clip.x0, .int .i64 k.clip.y0, .int .i64 k.clip.x1, .int .i64 k.clip.y1, .int .i64 k.opa, .int .i64 k.mode, .int .i64 k.ct.kind, .int .i64 k.ct.box.x0, .int .i64 k.ct.box.y0, .int .i64 k.ct.box.x1, .int .i64 k.ct.box.y1, .int .u8 k.ct.px.r, .int .u8 k.ct.px.g, .int .u8 k.ct.px.b, .int .u8 k.ct.px.a, .int .i64 k.ct.w, .int .i64 k.ct.h, .int .i64 k.ct.turn, .slice pa pn pc, .bool k.hasF, .slice fa fn fc, .int .i64 k.fil.out, .bool k.hasB, .slice ba bn bc, .int .i64 k.bak.out])]) := H4.out.call hb5
          clear hb5 H4 HCK e26 e27
          go_wp2_with fail
          go_meet
          case rel => exact ⟨by rw [HF.out], H5.out⟩
  case rest =>
  obtain ⟨rfl, hbg⟩ := hcut
  obtain ⟨WD, hWA⟩ : ∃ x, x = wc := ⟨_, rfl⟩
  subst hWA
  have H7 : Hid (Bag w WD [(w.heap.size, [.int .i64 i0, .int .i64 i1, .int .i64 k.dx, .int .i64 k.dy, .bool k.hasC, .int .i64 k.clip.x0, .int .i64 k.clip.y0, .int .i64 k.clip.x1, .int .i64 k.clip.y1, .int .i64 k.opa, .int .i64 k.mode, .int .i64 k.ct.kind, .int .i64 k.ct.box.x0, .int .i64 k.ct.box.y0, .int .i64 k.ct.box.x1, .int .i64 k.ct.box.y1, .int .u8 k.ct.px.r, .int .u8 k.ct.px.g, .int .u8 k.ct.px.b, .int .u8 k.ct.px.a, .int .i64 k.ct.w, .int .i64 k.ct.h, .int .i64 k.ct.turn, .slice pa pn pc, .bool k.hasF, .slice fa fn fc, .int .i64 k.fil.out, .bool k.hasB, .slice ba bn bc, .int .i64 k.bak.out, .slice ka kn kc]), (w.heap.size + 1, [.int .i64 k.dx, .int .i64 k.dy, .bool k.hasC, .int .i64 k.clip.x0, .int .i64 k.clip.y0, .int .i64 k.clip.x1, .int .i64 k.clip.y1, .int .i64 k.opa, .int .i64 k.mode, .int .i64 k.ct.kind, .int .i64 k.ct.box.x0, .int .i64 k.ct.box.y0, .int .i64 k.ct.box.x1, .int .i64 k.ct.box.y1, .int .u8 k.ct.px.r, .int .u8 k.ct.px.g, .int .u8 k.ct.px.b, .int .u8 k.ct.px.a, .int .i64 k.ct.w, .int .i64 k.ct.h, .int .i64 k.ct.turn, .slice pa pn pc, .bool k.hasF, .slice fa fn fc, .int .i64 k.fil.out, .bool k.hasB, .slice ba bn bc, .int .i64 k.bak.out])]) := Lib.hid hbg
  have e30 := H7.out.cell 0 rfl 30 rfl
  clear hbg H3 e25
  cases o4 with
  | false =>
    have HF : Hid (R = false) := by
      have : R = false := by rw [HRO.out]; rfl
      exact this
    go_wp2_with fail
    go_ret
    exact ⟨ret_b HF.out.symm, H7.out.below⟩
  | true =>
  by_cases t0 : 8 < d
  · have d0 : decide (8 < d) = true := decide_eq_true t0
    have HF : Hid (R = false) := by
      have : R = false := by rw [HRO.out, d0]; rfl
      exact this
    clear t0
    go_wp2_with fail
    go_ret
    exact ⟨ret_b HF.out.symm, H7.out.below⟩
  have d0 : decide (8 < d) = false := decide_eq_false t0
  by_cases t1 : 8 < kn
  · have d1 : decide (8 < kn) = true := decide_eq_true t1
    have d1' : decide (8 < (kn : Int)) = true := decide_eq_true (by omega)
    have HF : Hid (R = false) := by
      have : R = false := by rw [HRO.out, d0, d1]; rfl
      exact this
    clear t0 t1
    go_wp2_with fail
    go_ret
    exact ⟨ret_b HF.out.symm, H7.out.below⟩
  have d1 : decide (8 < kn) = false := decide_eq_false t1
  have d1' : decide (8 < (kn : Int)) = false := decide_eq_false (by omega)
  have HRK : Hid (R = ks.all (rightN n (d + 1))) := by
    have : R = ks.all (rightN n (d + 1)) := by rw [HRO.out, d0, d1]; rfl
    exact this
  clear HRO
  go_wp2_with fail
  go_loopw [7] (fun jv wr => ∃ j : Nat, j ≤ kn ∧ jv = .int .i64 j ∧ Bag w wr [(w.heap.size, [.int .i64 i0, .int .i64 i1, .int .i64 k.dx, .int .i64 k.dy, .bool k.hasC, .int .i64 k.clip.x0, .int .i64 k.clip.y0, .int .i64 k.clip.x1, .int .i64 k.clip.y1, .int .i64 k.opa, .int .i64 k.mode, .int .i64 k.ct.kind, .int .i64 k.ct.box.x0, .int .i64 k.ct.box.y0, .int .i64 k.ct.box.x1, .int .i64 k.ct.box.y1, .int .u8 k.ct.px.r, .int .u8 k.ct.px.g, .int .u8 k.ct.px.b, .int .u8 k.ct.px.a, .int .i64 k.ct.w, .int .i64 k.ct.h, .int .i64 k.ct.turn, .slice pa pn pc, .bool k.hasF, .slice fa fn fc, .int .i64 k.fil.out, .bool k.hasB, .slice ba bn bc, .int .i64 k.bak.out, .slice ka kn kc]), (w.heap.size + 1, [.int .i64 k.dx, .int .i64 k.dy, .bool k.hasC, .int .i64 k.clip.x0, .int .i64 k.clip.y0, .int .i64 k.clip.x1, .int .i64 k.clip.y1, .int .i64 k.opa, .int .i64 k.mode, .int .i64 k.ct.kind, .int .i64 k.ct.box.x0, .int .i64 k.ct.box.y0, .int .i64 k.ct.box.x1, .int .i64 k.ct.box.y1, .int .u8 k.ct.px.r, .int .u8 k.ct.px.g, .int .u8 k.ct.px.b, .int .u8 k.ct.px.a, .int .i64 k.ct.w, .int .i64 k.ct.h, .int .i64 k.ct.turn, .slice pa pn pc, .bool k.hasF, .slice fa fn fc, .int .i64 k.fil.out, .bool k.hasB, .slice ba bn bc, .int .i64 k.bak.out])] ∧ Hid (∀ q, q < j → ∀ x, ks[q]? = some x → rightN n (d + 1) x = true)) (fun jv _ => kn - (intOf jv).toNat)
  case atStart => exact ⟨0, by omega, rfl, H7.out, fun q hq => by omega⟩
  case round =>
    obtain ⟨j, hj, rfl, hr, hall⟩ := hrel
    have H8 : Hid (Bag w wr [(w.heap.size, [.int .i64 i0, .int .i64 i1, .int .i64 k.dx, .int .i64 k.dy, .bool k.hasC, .int .i64 k.clip.x0, .int .i64 k.clip.y0, .int .i64 k.clip.x1, .int .i64 k.clip.y1, .int .i64 k.opa, .int .i64 k.mode, .int .i64 k.ct.kind, .int .i64 k.ct.box.x0, .int .i64 k.ct.box.y0, .int .i64 k.ct.box.x1, .int .i64 k.ct.box.y1, .int .u8 k.ct.px.r, .int .u8 k.ct.px.g, .int .u8 k.ct.px.b, .int .u8 k.ct.px.a, .int .i64 k.ct.w, .int .i64 k.ct.h, .int .i64 k.ct.turn, .slice pa pn pc, .bool k.hasF, .slice fa fn fc, .int .i64 k.fil.out, .bool k.hasB, .slice ba bn bc, .int .i64 k.bak.out, .slice ka kn kc]), (w.heap.size + 1, [.int .i64 k.dx, .int .i64 k.dy, .bool k.hasC, .int .i64 k.clip.x0, .int .i64 k.clip.y0, .int .i64 k.clip.x1, .int .i64 k.clip.y1, .int .i64 k.opa, .int .i64 k.mode, .int .i64 k.ct.kind, .int .i64 k.ct.box.x0, .int .i64 k.ct.box.y0, .int .i64 k.ct.box.x1, .int .i64 k.ct.box.y1, .int .u8 k.ct.px.r, .int .u8 k.ct.px.g, .int .u8 k.ct.px.b, .int .u8 k.ct.px.a, .int .i64 k.ct.w, .int .i64 k.ct.h, .int .i64 k.ct.turn, .slice pa pn pc, .bool k.hasF, .slice fa fn fc, .int .i64 k.fil.out, .bool k.hasB, .slice ba bn bc, .int .i64 k.bak.out])]) := Lib.hid hr
    clear hr H7 e30
    have e30 := H8.out.cell 0 rfl 30 rfl
    by_cases hjl : j < kn
    · obtain ⟨x, hx⟩ : ∃ x, ks[j]? = some x := ⟨_, List.getElem?_eq_getElem (by rw [← HKN.out]; exact hjl)⟩
      obtain ⟨b, kof, cs, hka, hlies, hrl⟩ := HKE.out wr H8.out.below j x hx
      subst hka
      match n, IH, hrl, HKE, HRK, hall with
      | n + 1, IH, hrl, HKE, HRK, hall =>
      have hrl' := hrl
      obtain ⟨pk, fk, bk, kk, hcs, _, _, hAk, hKk⟩ := hrl'
      obtain ⟨dd, hdd⟩ : ∃ r, r = rightN (n + 1) (d + 1) x := ⟨_, rfl⟩
      have HC : Hid (Calls Tryd.prog 6 #[.agg cs.toArray, .int .i64 (d + 1)] wr (PPost wr (.bool dd))) := by
        rw [hdd]
        exact IH B x cs (d + 1) wr hrl (Nat.le_trans HA.out.2.1 H8.out.below.size) (HA.out.2.2.below H8.out.below) (by omega) (by omega)
      have HDD : Hid (dd = rightN (n + 1) (d + 1) x ∧ ks[j]? = some x) := ⟨hdd, hx⟩
      subst hcs
      have HLK : Hid (wr.rangeAt b (kof + j * 31) (lyc x.i0 x.i1 x.look pk fk bk kk)) := hlies
      have hj0 : (0 : Int) ≤ (j : Int) := by omega
      have hj1 : (j : Int) < (kn : Int) := by omega
      clear hrl hAk hKk hlies hx hdd
      go_wp2_with (with_reducible refine wpList_load_mid rfl 38 _ rfl b (kof + j * 31) rfl (lyc x.i0 x.i1 x.look pk fk bk kk) _ HLK.out Tryd.underlying38 rfl (by kernel_rfl) ?_; simp only [Act.put, List.setIfInBounds_toArray, List.set_cons_succ, List.set_cons_zero])
      refine HC.out.mono ?_; rintro e W9 ⟨rfl, hb9⟩
      have H9 : Hid (Bag w W9 [(w.heap.size, [.int .i64 i0, .int .i64 i1, .int .i64 k.dx, .int .i64 k.dy, .bool k.hasC, .int .i64 k.clip.x0, .int .i64 k.clip.y0, .int .i64 k.clip.x1, .int .i64 k.clip.y1, .int .i64 k.opa, .int .i64 k.mode, .int .i64 k.ct.kind, .int .i64 k.ct.box.x0, .int .i64 k.ct.box.y0, .int .i64 k.ct.box.x1, .int .i64 k.ct.box.y1, .int .u8 k.ct.px.r, .int .u8 k.ct.px.g, .int .u8 k.ct.px.b, .int .u8 k.ct.px.a, .int .i64 k.ct.w, .int .i64 k.ct.h, .int .i64 k.ct.turn, .slice pa pn pc, .bool k.hasF, .slice fa fn fc, .int .i64 k.fil.out, .bool k.hasB, .slice ba bn bc, .int .i64 k.bak.out, .slice (some ⟨b, kof, none⟩) kn kc]), (w.heap.size + 1, [.int .i64 k.dx, .int .i64 k.dy, .bool k.hasC, .int .i64 k.clip.x0, .int .i64 k.clip.y0, .int .i64 k.clip.x1, .int .i64 k.clip.y1, .int .i64 k.opa, .int .i64 k.mode, .int .i64 k.ct.kind, .int .i64 k.ct.box.x0, .int .i64 k.ct.box.y0, .int .i64 k.ct.box.x1, .int .i64 k.ct.box.y1, .int .u8 k.ct.px.r, .int .u8 k.ct.px.g, .int .u8 k.ct.px.b, .int .u8 k.ct.px.a, .int .i64 k.ct.w, .int .i64 k.ct.h, .int .i64 k.ct.turn, .slice pa pn pc, .bool k.hasF, .slice fa fn fc, .int .i64 k.fil.out, .bool k.hasB, .slice ba bn bc, .int .i64 k.bak.out])]) := H8.out.call hb9
      clear hb9 H8 HC HLK e30
      cases dd with
      | false =>
        have HF : Hid (R = false) := by
          have : R = false := by
            rw [HRK.out, List.all_eq_false]
            exact ⟨x, List.mem_of_getElem? HDD.out.2, by rw [← HDD.out.1]; simp⟩
          exact this
        go_wp2_with fail
        go_ret
        exact ⟨ret_b HF.out.symm, H9.out.below⟩
      | true =>
        have HAl : Hid (∀ q, q < j + 1 → ∀ y, ks[q]? = some y → rightN (n + 1) (d + 1) y = true) := fun q hq y hy => by
          by_cases e : q = j
          · subst e
            rw [HDD.out.2] at hy
            cases hy
            exact HDD.out.1.symm
          · exact hall.out q (by omega) y hy
        go_wp2_with fail
        go_roundw
        case rel => exact ⟨j + 1, by omega, by go_num, H9.out, HAl⟩
        case measure => simp [intOf]; omega
    · have ej : j = kn := by omega
      subst ej
      have HT : Hid (R = true) := by
        have : R = true := by
          rw [HRK.out, List.all_eq_true]
          intro x hx
          obtain ⟨q, hq⟩ := List.getElem?_of_mem hx
          exact hall.out q (by rw [HKN.out]; exact (List.getElem?_eq_some_iff.1 hq).1) x hq
        exact this
      go_wp2_with fail
      go_ret
      exact ⟨ret_b HT.out.symm, H8.out.below⟩
theorem right24_c : ∀ n, RghC n
  | 0 => fun B l cs d w h => h.elim
  | n + 1 => right_step n (right24_c n)
end Go.Proofs.YtgodhpampaleeaaDoor
