/- Texts joined: XEj. -/
import Derived.Test.YtgodhpampaleeaaDoorEi
set_option maxRecDepth 4000
/- Layer 24: extent.Group, Result. (Printed by mk_ei.py.) -/
namespace Go.Proofs.YtgodhpampaleeaaDoor
open Go.RowKit Go.Bx Go.Od Go.Hp
attribute [local go_sem ↓] Go.wp_at_zero Go.wp_at_succ
set_option linter.unusedVariables false

theorem alLayer (w : World) : (Instr.alloc 38 true (.tuple #[])).run Tryd.prog w = .ok (.pointer (some ⟨w.heap.size, 0, none⟩)) (w.alloc (.cells #[.int .i64 0, .int .i64 0, .int .i64 0, .int .i64 0, .bool false, .int .i64 0, .int .i64 0, .int .i64 0, .int .i64 0, .int .i64 0, .int .i64 0, .int .i64 0, .int .i64 0, .int .i64 0, .int .i64 0, .int .i64 0, .int .u8 0, .int .u8 0, .int .u8 0, .int .u8 0, .int .i64 0, .int .i64 0, .int .i64 0, .slice none 0 0, .bool false, .slice none 0 0, .int .i64 0, .bool false, .slice none 0 0, .int .i64 0, .slice none 0 0] 38)) := by kernel_rfl
theorem alLook (w : World) : (Instr.alloc 35 true (.tuple #[])).run Tryd.prog w = .ok (.pointer (some ⟨w.heap.size, 0, none⟩)) (w.alloc (.cells #[.int .i64 0, .int .i64 0, .bool false, .int .i64 0, .int .i64 0, .int .i64 0, .int .i64 0, .int .i64 0, .int .i64 0, .int .i64 0, .int .i64 0, .int .i64 0, .int .i64 0, .int .i64 0, .int .u8 0, .int .u8 0, .int .u8 0, .int .u8 0, .int .i64 0, .int .i64 0, .int .i64 0, .slice none 0 0, .bool false, .slice none 0 0, .int .i64 0, .bool false, .slice none 0 0, .int .i64 0] 35)) := by kernel_rfl
/-- what Result answers, at a depth -/
def ResC (n : Nat) : Prop := ∀ (B : Nat) (l : Ly) (cs : List Value) (w : World), RLy n (· < B) w cs l → B ≤ w.heap.size → LyOk n l → Calls Tryd.prog 11 #[.agg cs.toArray] w (PPost w (rv (resN n l)))
def GrpC (n : Nat) : Prop := ∀ (B : Nat) (l : Ly) (cs : List Value) (w : World), RLy (n + 1) (· < B) w cs l → B ≤ w.heap.size → LyOk (n + 1) l → Calls Tryd.prog 10 #[.agg cs.toArray] w (PPost w (rv (grpN n l)))
set_option maxRecDepth 8000 in
set_option maxHeartbeats 25600000 in
theorem group_step (n : Nat) (IH : ResC n) : GrpC n := by
  intro B l cs w hl hB hok
  obtain ⟨pv, fv, bv, kv, rfl, _, _, hA, hK⟩ := hl
  obtain ⟨R, hR⟩ : ∃ R, R = grpN n l := ⟨_, rfl⟩
  have HR : Hid (R = l.kids.foldl (stepR (resN n)) (ctR l.look.ct)) := by
    have : R = l.kids.foldl (stepR (resN n)) (ctR l.look.ct) := hR
    exact this
  rw [← hR]
  have HOK : Hid (LkOk l.look ∧ ∀ k ∈ l.kids, LyOk n k) := hok
  obtain ⟨k, hk⟩ : ∃ k, k = l.look := ⟨_, rfl⟩
  obtain ⟨i0, hi0⟩ : ∃ k, k = l.i0 := ⟨_, rfl⟩
  obtain ⟨i1, hi1⟩ : ∃ k, k = l.i1 := ⟨_, rfl⟩
  obtain ⟨ks, hks⟩ : ∃ k, k = l.kids := ⟨_, rfl⟩
  rw [← hk, ← hks] at HOK HR
  rw [← hk] at hA
  rw [← hks] at hK
  rw [← hk, ← hi0, ← hi1]
  clear hk hi0 hi1 hks hR hok
  obtain ⟨pa, pn, pc, rfl⟩ := sl_form hA.2.1
  have H0 : Hid (Bag w ((w.alloc (.cells #[.int .i64 i0, .int .i64 i1, .int .i64 k.dx, .int .i64 k.dy, .bool k.hasC, .int .i64 k.clip.x0, .int .i64 k.clip.y0, .int .i64 k.clip.x1, .int .i64 k.clip.y1, .int .i64 k.opa, .int .i64 k.mode, .int .i64 k.ct.kind, .int .i64 k.ct.box.x0, .int .i64 k.ct.box.y0, .int .i64 k.ct.box.x1, .int .i64 k.ct.box.y1, .int .u8 k.ct.px.r, .int .u8 k.ct.px.g, .int .u8 k.ct.px.b, .int .u8 k.ct.px.a, .int .i64 k.ct.w, .int .i64 k.ct.h, .int .i64 k.ct.turn, .slice pa pn pc, .bool k.hasF, fv, .int .i64 k.fil.out, .bool k.hasB, bv, .int .i64 k.bak.out, kv] 38)).alloc (.cells (cs4 0 0 0 0) 25)) [(w.heap.size, lyc i0 i1 k (.slice pa pn pc) fv bv kv), (w.heap.size + 1, cl4 ⟨0, 0, 0, 0⟩)]) := bag2 w (lyc i0 i1 k (.slice pa pn pc) fv bv kv) (cl4 ⟨0, 0, 0, 0⟩) _ _
  obtain ⟨ka, kc, hkv, hkcap, hkcm, hkel⟩ := hK
  subst hkv
  obtain ⟨m, hm⟩ : ∃ m, m = ks.length := ⟨_, rfl⟩
  have HM : Hid (m = ks.length) := Lib.hid hm
  rw [← hm] at hkcap H0 ⊢
  have HKE : Hid (∀ (W : World), Below w.heap.size w W → ∀ (j : Nat) (x : Ly), ks[j]? = some x → ∃ b o cs, ka = some ⟨b, o, none⟩ ∧ LiesAt W b (o + j * 31) cs ∧ RLy n (· < B) W cs x) := fun W hb j x hx => by
    rcases hkel with h | ⟨b, o, h1, h2, h3⟩
    · subst h; simp at hx
    · obtain ⟨cs, _, h4, h5⟩ := h3 j x hx
      have hsm : Same (· < B) w W := Same.of_below hb fun b (hb : b < B) => Nat.lt_of_lt_of_le hb hB
      exact ⟨b, o, cs, h1, h4.same hsm h2, (RLy.ok n).same hsm h5⟩
  have HBW : Hid (B ≤ w.heap.size) := hB
  unfold maxLen at hkcm
  have HCT : Hid (∀ W, Calls Tryd.prog 16 #[ctv k.ct (.slice pa pn pc)] W (PPost W (rv (ctR k.ct)))) := fun W => content_c k.ct _ W HOK.out.1.ct ⟨_, _, _, rfl⟩
  obtain ⟨c0, hc0⟩ : ∃ c0, c0 = ctR k.ct := ⟨_, rfl⟩
  have HC0 : Hid (RcP c0) := by
    have : RcP c0 := by rw [hc0]; exact ctR_pl HOK.out.1.ct
    exact this
  rw [← hc0] at HCT HR
  clear hA hkel hB hm hc0
  go_enter Tryd.func10, Tryd.ntmps10
  go_wp2_with fail
  generalize ((w.alloc (.cells #[.int .i64 i0, .int .i64 i1, .int .i64 k.dx, .int .i64 k.dy, .bool k.hasC, .int .i64 k.clip.x0, .int .i64 k.clip.y0, .int .i64 k.clip.x1, .int .i64 k.clip.y1, .int .i64 k.opa, .int .i64 k.mode, .int .i64 k.ct.kind, .int .i64 k.ct.box.x0, .int .i64 k.ct.box.y0, .int .i64 k.ct.box.x1, .int .i64 k.ct.box.y1, .int .u8 k.ct.px.r, .int .u8 k.ct.px.g, .int .u8 k.ct.px.b, .int .u8 k.ct.px.a, .int .i64 k.ct.w, .int .i64 k.ct.h, .int .i64 k.ct.turn, .slice pa pn pc, .bool k.hasF, fv, .int .i64 k.fil.out, .bool k.hasB, bv, .int .i64 k.bak.out, .slice ka m kc] 38)).alloc (.cells (cs4 0 0 0 0) 25)) = W0 at *
  have HL0 : Hid (W0.rangeAt w.heap.size 11 [.int .i64 k.ct.kind, .int .i64 k.ct.box.x0, .int .i64 k.ct.box.y0, .int .i64 k.ct.box.x1, .int .i64 k.ct.box.y1, .int .u8 k.ct.px.r, .int .u8 k.ct.px.g, .int .u8 k.ct.px.b, .int .u8 k.ct.px.a, .int .i64 k.ct.w, .int .i64 k.ct.h, .int .i64 k.ct.turn, .slice pa pn pc]) := H0.out.range 0 rfl 11 13
  go_wp2_with (with_reducible refine wpList_load_mid rfl 30 _ rfl w.heap.size 11 rfl [.int .i64 k.ct.kind, .int .i64 k.ct.box.x0, .int .i64 k.ct.box.y0, .int .i64 k.ct.box.x1, .int .i64 k.ct.box.y1, .int .u8 k.ct.px.r, .int .u8 k.ct.px.g, .int .u8 k.ct.px.b, .int .u8 k.ct.px.a, .int .i64 k.ct.w, .int .i64 k.ct.h, .int .i64 k.ct.turn, .slice pa pn pc] _ HL0.out Tryd.underlying30 rfl (by kernel_rfl) ?_; simp only [Act.put, List.setIfInBounds_toArray, List.set_cons_succ, List.set_cons_zero])
  refine (HCT.out W0).mono ?_; rintro e W1 ⟨rfl, hb1⟩
  have H1 := Lib.hid (H0.out.call hb1)
  have H2 : Hid (Bag w (W1.alloc (.cells #[.int .i64 c0.x0, .int .i64 c0.y0, .int .i64 c0.x1, .int .i64 c0.y1] 25)) [(w.heap.size, lyc i0 i1 k (.slice pa pn pc) fv bv (.slice ka m kc)), (w.heap.size + 1, cl4 ⟨0, 0, 0, 0⟩), (W1.heap.size, cl4 ((ks.take 0).foldl (stepR (resN n)) c0))]) := H1.out.alloc (cl4 c0) _
  have l30 := H2.out.cell 0 rfl 30 rfl
  clear hb1 H0 H1 HCT
  go_wp2_with fail
  go_loopw [13] (fun jv wr => ∃ j : Nat, j ≤ m ∧ jv = .int .i64 j ∧ Bag w wr [(w.heap.size, lyc i0 i1 k (.slice pa pn pc) fv bv (.slice ka m kc)), (w.heap.size + 1, cl4 ⟨0, 0, 0, 0⟩), (W1.heap.size, cl4 ((ks.take j).foldl (stepR (resN n)) c0))]) (fun jv _ => m - (intOf jv).toNat)
  case atStart => exact ⟨0, by omega, rfl, H2.out⟩
  case round =>
    obtain ⟨j, hj, rfl, hr⟩ := hrel
    obtain ⟨q, hq⟩ : ∃ q, q = (ks.take j).foldl (stepR (resN n)) c0 := ⟨_, rfl⟩
    have HQ : Hid (q = (ks.take j).foldl (stepR (resN n)) c0 ∧ RcP q) := ⟨hq, by rw [hq]; exact foldS_pl _ _ HC0.out fun x hx => HOK.out.2 x (List.mem_of_mem_take hx)⟩
    rw [← hq] at hr
    have H3 : Hid (Bag w wr [(w.heap.size, lyc i0 i1 k (.slice pa pn pc) fv bv (.slice ka m kc)), (w.heap.size + 1, cl4 ⟨0, 0, 0, 0⟩), (W1.heap.size, cl4 q)]) := Lib.hid hr
    clear hr hq H2 l30
    by_cases hjl : j < m
    · obtain ⟨x, hx⟩ : ∃ x, ks[j]? = some x := ⟨_, List.getElem?_eq_getElem (by rw [← HM.out]; exact hjl)⟩
      obtain ⟨b, kof, cs, hka, hlies, hrl⟩ := HKE.out wr H3.out.below j x hx
      subst hka
      have hxok : LyOk n x := HOK.out.2 x (List.mem_of_getElem? hx)
      have HRX : Hid (∀ W, Below w.heap.size w W → RLy n (· < B) W cs x) := by
        obtain ⟨b2, o2, cs2, e2, hl2, hr2⟩ := HKE.out w (Below.refl _ _) j x hx
        intro W hb
        obtain ⟨b3, o3, cs3, e3, hl3, hr3⟩ := HKE.out W hb j x hx
        have hsm : Same (· < B) wr w := fun b0 (hb0 : b0 < B) => (H3.out.below.block b0 (Nat.lt_of_lt_of_le hb0 HBW.out)).symm
        exact (RLy.ok n).same (Same.of_below hb fun b (hb : b < B) => Nat.lt_of_lt_of_le hb HBW.out) ((RLy.ok n).same hsm hrl)
      match n, IH, hrl, hxok, HRX with
      | n + 1, IH, hrl, hxok, HRX =>
        have hrl' := hrl
        obtain ⟨pk, fk, bk, kk, hcs, _, _, hAk, hKk⟩ := hrl'
        subst hcs
        obtain ⟨pk0, pk1, pk2, rfl⟩ := sl_form hAk.2.1
        obtain ⟨fk0, fk1, fk2, rfl⟩ := sl_form hAk.2.2.1
        obtain ⟨bk0, bk1, bk2, rfl⟩ := sl_form hAk.2.2.2
        obtain ⟨kk0, kk1, kk2, rfl⟩ := sl_form hKk
        obtain ⟨kl, hkl⟩ : ∃ k, k = x.look := ⟨_, rfl⟩
        obtain ⟨a0, ha0⟩ : ∃ k, k = x.i0 := ⟨_, rfl⟩
        obtain ⟨a1, ha1⟩ : ∃ k, k = x.i1 := ⟨_, rfl⟩
        rw [← hkl] at hAk hlies HRX
        rw [← ha0, ← ha1] at hlies HRX
        obtain ⟨be, hbe⟩ : ∃ r, r = belowR q kl := ⟨_, rfl⟩
        obtain ⟨rx, hrx⟩ : ∃ r, r = resN (n + 1) x := ⟨_, rfl⟩
        obtain ⟨z, hz⟩ : ∃ z, z = joinR be rx := ⟨_, rfl⟩
        have HZ : Hid (z = (ks.take (j + 1)).foldl (stepR (resN (n + 1))) c0) := by
          have : z = (ks.take (j + 1)).foldl (stepR (resN (n + 1))) c0 := by
            rw [hz, hbe, hrx, List.take_add_one, hx, HQ.out.1, hkl]
            simp [stepR]
          exact this
        have H4 : Hid (Bag w (wr.alloc (.cells #[.int .i64 a0, .int .i64 a1, .int .i64 kl.dx, .int .i64 kl.dy, .bool kl.hasC, .int .i64 kl.clip.x0, .int .i64 kl.clip.y0, .int .i64 kl.clip.x1, .int .i64 kl.clip.y1, .int .i64 kl.opa, .int .i64 kl.mode, .int .i64 kl.ct.kind, .int .i64 kl.ct.box.x0, .int .i64 kl.ct.box.y0, .int .i64 kl.ct.box.x1, .int .i64 kl.ct.box.y1, .int .u8 kl.ct.px.r, .int .u8 kl.ct.px.g, .int .u8 kl.ct.px.b, .int .u8 kl.ct.px.a, .int .i64 kl.ct.w, .int .i64 kl.ct.h, .int .i64 kl.ct.turn, .slice pk0 pk1 pk2, .bool kl.hasF, .slice fk0 fk1 fk2, .int .i64 kl.fil.out, .bool kl.hasB, .slice bk0 bk1 bk2, .int .i64 kl.bak.out, .slice kk0 kk1 kk2] 38)) [(w.heap.size, lyc i0 i1 k (.slice pa pn pc) fv bv (.slice (some ⟨b, kof, none⟩) m kc)), (w.heap.size + 1, cl4 ⟨0, 0, 0, 0⟩), (W1.heap.size, cl4 q), (wr.heap.size, lyc a0 a1 kl (.slice pk0 pk1 pk2) (.slice fk0 fk1 fk2) (.slice bk0 bk1 bk2) (.slice kk0 kk1 kk2))]) := H3.out.alloc (lyc a0 a1 kl (.slice pk0 pk1 pk2) (.slice fk0 fk1 fk2) (.slice bk0 bk1 bk2) (.slice kk0 kk1 kk2)) _
        have hj0 : (0 : Int) ≤ (j : Int) := by omega
        have hj1 : (j : Int) < (m : Int) := by omega
        have HAK : Hid (LkAt (· < B) wr kl (.slice pk0 pk1 pk2) (.slice fk0 fk1 fk2) (.slice bk0 bk1 bk2) ∧ LkOk kl) := ⟨hAk, by rw [hkl]; exact hxok.1⟩
        have HBE : Hid (be = belowR q kl ∧ rx = resN (n + 1) x ∧ z = joinR be rx ∧ LyOk (n + 1) x) := ⟨hbe, hrx, hz, hxok⟩
        have HWR : Hid (Below w.heap.size w wr) := H3.out.below
        have hlies2 : wr.rangeAt b (kof + j * 31) [.int .i64 a0, .int .i64 a1, .int .i64 kl.dx, .int .i64 kl.dy, .bool kl.hasC, .int .i64 kl.clip.x0, .int .i64 kl.clip.y0, .int .i64 kl.clip.x1, .int .i64 kl.clip.y1, .int .i64 kl.opa, .int .i64 kl.mode, .int .i64 kl.ct.kind, .int .i64 kl.ct.box.x0, .int .i64 kl.ct.box.y0, .int .i64 kl.ct.box.x1, .int .i64 kl.ct.box.y1, .int .u8 kl.ct.px.r, .int .u8 kl.ct.px.g, .int .u8 kl.ct.px.b, .int .u8 kl.ct.px.a, .int .i64 kl.ct.w, .int .i64 kl.ct.h, .int .i64 kl.ct.turn, .slice pk0 pk1 pk2, .bool kl.hasF, .slice fk0 fk1 fk2, .int .i64 kl.fil.out, .bool kl.hasB, .slice bk0 bk1 bk2, .int .i64 kl.bak.out, .slice kk0 kk1 kk2] := hlies
        clear hrl hxok hAk hKk hlies hx hkl ha0 ha1 hbe hrx hz H3
        have HLK : Hid (wr.rangeAt b (kof + j * 31) [.int .i64 a0, .int .i64 a1, .int .i64 kl.dx, .int .i64 kl.dy, .bool kl.hasC, .int .i64 kl.clip.x0, .int .i64 kl.clip.y0, .int .i64 kl.clip.x1, .int .i64 kl.clip.y1, .int .i64 kl.opa, .int .i64 kl.mode, .int .i64 kl.ct.kind, .int .i64 kl.ct.box.x0, .int .i64 kl.ct.box.y0, .int .i64 kl.ct.box.x1, .int .i64 kl.ct.box.y1, .int .u8 kl.ct.px.r, .int .u8 kl.ct.px.g, .int .u8 kl.ct.px.b, .int .u8 kl.ct.px.a, .int .i64 kl.ct.w, .int .i64 kl.ct.h, .int .i64 kl.ct.turn, .slice pk0 pk1 pk2, .bool kl.hasF, .slice fk0 fk1 fk2, .int .i64 kl.fil.out, .bool kl.hasB, .slice bk0 bk1 bk2, .int .i64 kl.bak.out, .slice kk0 kk1 kk2]) := hlies2
        clear hlies2
        go_wp2_with (first | (with_reducible refine wpList_load_mid rfl 38 _ rfl b (kof + j * 31) rfl [.int .i64 a0, .int .i64 a1, .int .i64 kl.dx, .int .i64 kl.dy, .bool kl.hasC, .int .i64 kl.clip.x0, .int .i64 kl.clip.y0, .int .i64 kl.clip.x1, .int .i64 kl.clip.y1, .int .i64 kl.opa, .int .i64 kl.mode, .int .i64 kl.ct.kind, .int .i64 kl.ct.box.x0, .int .i64 kl.ct.box.y0, .int .i64 kl.ct.box.x1, .int .i64 kl.ct.box.y1, .int .u8 kl.ct.px.r, .int .u8 kl.ct.px.g, .int .u8 kl.ct.px.b, .int .u8 kl.ct.px.a, .int .i64 kl.ct.w, .int .i64 kl.ct.h, .int .i64 kl.ct.turn, .slice pk0 pk1 pk2, .bool kl.hasF, .slice fk0 fk1 fk2, .int .i64 kl.fil.out, .bool kl.hasB, .slice bk0 bk1 bk2, .int .i64 kl.bak.out, .slice kk0 kk1 kk2] _ HLK.out Tryd.underlying38 rfl (by kernel_rfl) ?_; simp only [Act.put, List.setIfInBounds_toArray, List.set_cons_succ, List.set_cons_zero]) | (with_reducible refine wpList_alloc_store rfl rfl 38 rfl _ _ rfl _ #[.int .i64 a0, .int .i64 a1, .int .i64 kl.dx, .int .i64 kl.dy, .bool kl.hasC, .int .i64 kl.clip.x0, .int .i64 kl.clip.y0, .int .i64 kl.clip.x1, .int .i64 kl.clip.y1, .int .i64 kl.opa, .int .i64 kl.mode, .int .i64 kl.ct.kind, .int .i64 kl.ct.box.x0, .int .i64 kl.ct.box.y0, .int .i64 kl.ct.box.x1, .int .i64 kl.ct.box.y1, .int .u8 kl.ct.px.r, .int .u8 kl.ct.px.g, .int .u8 kl.ct.px.b, .int .u8 kl.ct.px.a, .int .i64 kl.ct.w, .int .i64 kl.ct.h, .int .i64 kl.ct.turn, .slice pk0 pk1 pk2, .bool kl.hasF, .slice fk0 fk1 fk2, .int .i64 kl.fil.out, .bool kl.hasB, .slice bk0 bk1 bk2, .int .i64 kl.bak.out, .slice kk0 kk1 kk2] alLayer rfl rfl (by kernel_rfl) (by kernel_rfl) (by simp [Value.oneCell']) ?_; simp only [Act.put, List.setIfInBounds_toArray, List.set_cons_succ, List.set_cons_zero]))
        generalize hW4 : wr.alloc (.cells #[.int .i64 a0, .int .i64 a1, .int .i64 kl.dx, .int .i64 kl.dy, .bool kl.hasC, .int .i64 kl.clip.x0, .int .i64 kl.clip.y0, .int .i64 kl.clip.x1, .int .i64 kl.clip.y1, .int .i64 kl.opa, .int .i64 kl.mode, .int .i64 kl.ct.kind, .int .i64 kl.ct.box.x0, .int .i64 kl.ct.box.y0, .int .i64 kl.ct.box.x1, .int .i64 kl.ct.box.y1, .int .u8 kl.ct.px.r, .int .u8 kl.ct.px.g, .int .u8 kl.ct.px.b, .int .u8 kl.ct.px.a, .int .i64 kl.ct.w, .int .i64 kl.ct.h, .int .i64 kl.ct.turn, .slice pk0 pk1 pk2, .bool kl.hasF, .slice fk0 fk1 fk2, .int .i64 kl.fil.out, .bool kl.hasB, .slice bk0 bk1 bk2, .int .i64 kl.bak.out, .slice kk0 kk1 kk2] 38) = W4 at *
        have HB4 : Hid (Below wr.heap.size wr W4) := by
          have : Below wr.heap.size wr W4 := by rw [← hW4]; exact below_new _ _
          exact this
        clear hW4
        have M0 : Hid (∀ s : Kept W4.heap.size W4, Calls Tryd.prog 22 #[.agg #[.int .i64 q.x0, .int .i64 q.y0, .int .i64 q.x1, .int .i64 q.y1], .agg #[.int .i64 kl.dx, .int .i64 kl.dy, .bool kl.hasC, .int .i64 kl.clip.x0, .int .i64 kl.clip.y0, .int .i64 kl.clip.x1, .int .i64 kl.clip.y1, .int .i64 kl.opa, .int .i64 kl.mode, .int .i64 kl.ct.kind, .int .i64 kl.ct.box.x0, .int .i64 kl.ct.box.y0, .int .i64 kl.ct.box.x1, .int .i64 kl.ct.box.y1, .int .u8 kl.ct.px.r, .int .u8 kl.ct.px.g, .int .u8 kl.ct.px.b, .int .u8 kl.ct.px.a, .int .i64 kl.ct.w, .int .i64 kl.ct.h, .int .i64 kl.ct.turn, .slice pk0 pk1 pk2, .bool kl.hasF, .slice fk0 fk1 fk2, .int .i64 kl.fil.out, .bool kl.hasB, .slice bk0 bk1 bk2, .int .i64 kl.bak.out]] s.w (PPost s.w (.agg #[.int .i64 be.x0, .int .i64 be.y0, .int .i64 be.x1, .int .i64 be.y1]))) := fun s => by
          rw [HBE.out.1]
          have hbl := HB4.out.trans (s.below.mono HB4.out.size)
          exact below_c B q kl (.slice pk0 pk1 pk2) (.slice fk0 fk1 fk2) (.slice bk0 bk1 bk2) s.w (HAK.out.1.same (Same.of_below hbl fun b (hb : b < B) => Nat.lt_of_lt_of_le hb (Nat.le_trans HBW.out HWR.out.size))) (Nat.le_trans HBW.out (Nat.le_trans HWR.out.size hbl.size)) HAK.out.2 HQ.out.2
        have M1 : Hid (∀ s : Kept W4.heap.size W4, Calls Tryd.prog 11 #[.agg #[.int .i64 a0, .int .i64 a1, .int .i64 kl.dx, .int .i64 kl.dy, .bool kl.hasC, .int .i64 kl.clip.x0, .int .i64 kl.clip.y0, .int .i64 kl.clip.x1, .int .i64 kl.clip.y1, .int .i64 kl.opa, .int .i64 kl.mode, .int .i64 kl.ct.kind, .int .i64 kl.ct.box.x0, .int .i64 kl.ct.box.y0, .int .i64 kl.ct.box.x1, .int .i64 kl.ct.box.y1, .int .u8 kl.ct.px.r, .int .u8 kl.ct.px.g, .int .u8 kl.ct.px.b, .int .u8 kl.ct.px.a, .int .i64 kl.ct.w, .int .i64 kl.ct.h, .int .i64 kl.ct.turn, .slice pk0 pk1 pk2, .bool kl.hasF, .slice fk0 fk1 fk2, .int .i64 kl.fil.out, .bool kl.hasB, .slice bk0 bk1 bk2, .int .i64 kl.bak.out, .slice kk0 kk1 kk2]] s.w (PPost s.w (.agg #[.int .i64 rx.x0, .int .i64 rx.y0, .int .i64 rx.x1, .int .i64 rx.y1]))) := fun s => by
          rw [HBE.out.2.1]
          have hbl := H4.out.below.trans (s.below.mono H4.out.below.size)
          exact IH B x _ s.w (HRX.out s.w hbl) (Nat.le_trans HBW.out hbl.size) HBE.out.2.2.2
        have M2 : Hid (∀ s : Kept W4.heap.size W4, Calls Tryd.prog 21 #[.agg #[.int .i64 be.x0, .int .i64 be.y0, .int .i64 be.x1, .int .i64 be.y1], .agg #[.int .i64 rx.x0, .int .i64 rx.y0, .int .i64 rx.x1, .int .i64 rx.y1]] s.w (PPost s.w (.agg #[.int .i64 z.x0, .int .i64 z.y0, .int .i64 z.x1, .int .i64 z.y1]))) := fun s => by rw [HBE.out.2.2.1]; exact join_c be rx s.w
        have q0 := fun s : Kept W4.heap.size W4 => s.at (H4.out.cell 2 rfl 0 rfl)
        have q1 := fun s : Kept W4.heap.size W4 => s.at (H4.out.cell 2 rfl 1 rfl)
        have q2 := fun s : Kept W4.heap.size W4 => s.at (H4.out.cell 2 rfl 2 rfl)
        have q3 := fun s : Kept W4.heap.size W4 => s.at (H4.out.cell 2 rfl 3 rfl)
        have HLD0 : Hid (∀ w', (∃ s : Kept W4.heap.size W4, w' = s.w) → w'.rangeAt wr.heap.size 2 [.int .i64 kl.dx, .int .i64 kl.dy, .bool kl.hasC, .int .i64 kl.clip.x0, .int .i64 kl.clip.y0, .int .i64 kl.clip.x1, .int .i64 kl.clip.y1, .int .i64 kl.opa, .int .i64 kl.mode, .int .i64 kl.ct.kind, .int .i64 kl.ct.box.x0, .int .i64 kl.ct.box.y0, .int .i64 kl.ct.box.x1, .int .i64 kl.ct.box.y1, .int .u8 kl.ct.px.r, .int .u8 kl.ct.px.g, .int .u8 kl.ct.px.b, .int .u8 kl.ct.px.a, .int .i64 kl.ct.w, .int .i64 kl.ct.h, .int .i64 kl.ct.turn, .slice pk0 pk1 pk2, .bool kl.hasF, .slice fk0 fk1 fk2, .int .i64 kl.fil.out, .bool kl.hasB, .slice bk0 bk1 bk2, .int .i64 kl.bak.out]) := fun w' ⟨s, hs⟩ => by rw [hs]; exact (H4.out.call s.below).range 3 rfl 2 28
        have HLD1 : Hid (∀ w', (∃ s : Kept W4.heap.size W4, w' = s.w) → w'.rangeAt wr.heap.size 0 [.int .i64 a0, .int .i64 a1, .int .i64 kl.dx, .int .i64 kl.dy, .bool kl.hasC, .int .i64 kl.clip.x0, .int .i64 kl.clip.y0, .int .i64 kl.clip.x1, .int .i64 kl.clip.y1, .int .i64 kl.opa, .int .i64 kl.mode, .int .i64 kl.ct.kind, .int .i64 kl.ct.box.x0, .int .i64 kl.ct.box.y0, .int .i64 kl.ct.box.x1, .int .i64 kl.ct.box.y1, .int .u8 kl.ct.px.r, .int .u8 kl.ct.px.g, .int .u8 kl.ct.px.b, .int .u8 kl.ct.px.a, .int .i64 kl.ct.w, .int .i64 kl.ct.h, .int .i64 kl.ct.turn, .slice pk0 pk1 pk2, .bool kl.hasF, .slice fk0 fk1 fk2, .int .i64 kl.fil.out, .bool kl.hasB, .slice bk0 bk1 bk2, .int .i64 kl.bak.out, .slice kk0 kk1 kk2]) := fun w' ⟨s, hs⟩ => by rw [hs]; exact (H4.out.call s.below).range 3 rfl 0 31
        refine wp_region_kept_last W4.heap.size 7 _ rfl rfl (by kernel_rfl) (by kernel_rfl) ?_
        simp only [List.take_succ_cons, List.take_zero]
        iterate 2 (go_big_quiet_step (first
          | (go_at_call 22; with_reducible exact Calls.kept _ (Nat.le_refl _) (M0.out _))
          | (go_at_call 11; with_reducible exact Calls.kept _ (Nat.le_refl _) (M1.out _))
          | (go_at_call 21; with_reducible exact Calls.kept _ (Nat.le_refl _) (M2.out _))))
        refine wpQuiet_load rfl 35 _ rfl wr.heap.size 2 rfl _ _ HLD0.out Tryd.underlying35 rfl (by kernel_rfl) ?_
        simp only [Act.put, List.setIfInBounds_toArray, List.set_cons_succ, List.set_cons_zero]
        (go_big_quiet_step (first
          | (go_at_call 22; with_reducible exact Calls.kept _ (Nat.le_refl _) (M0.out _))
          | (go_at_call 11; with_reducible exact Calls.kept _ (Nat.le_refl _) (M1.out _))
          | (go_at_call 21; with_reducible exact Calls.kept _ (Nat.le_refl _) (M2.out _))))
        refine wpQuiet_load rfl 38 _ rfl wr.heap.size 0 rfl _ _ HLD1.out Tryd.underlying38 rfl (by kernel_rfl) ?_
        simp only [Act.put, List.setIfInBounds_toArray, List.set_cons_succ, List.set_cons_zero]
        repeat (go_big_quiet_step (first
          | (go_at_call 22; with_reducible exact Calls.kept _ (Nat.le_refl _) (M0.out _))
          | (go_at_call 11; with_reducible exact Calls.kept _ (Nat.le_refl _) (M1.out _))
          | (go_at_call 21; with_reducible exact Calls.kept _ (Nat.le_refl _) (M2.out _))))
        refine wpQuiet_nil ?_
        intro s
        have H5 : Hid (Bag w s.w [(w.heap.size, lyc i0 i1 k (.slice pa pn pc) fv bv (.slice (some ⟨b, kof, none⟩) m kc)), (w.heap.size + 1, cl4 ⟨0, 0, 0, 0⟩), (W1.heap.size, cl4 q)]) := (H4.out.call s.below).take (List.Sublist.cons_cons _ (List.Sublist.cons_cons _ (List.Sublist.cons_cons _ (List.nil_sublist _))))
        clear q0 q1 q2 q3 H4
        obtain ⟨r0, r1, r2, r3⟩ := box4 (H5.out.box 2 rfl)
        have f0 := H5.out.frozen 2 rfl 0
        have f1 := H5.out.frozen 2 rfl 1
        have f2 := H5.out.frozen 2 rfl 2
        have f3 := H5.out.frozen 2 rfl 3
        have H6 : Hid (Bag w ((((s.w.setCell ⟨W1.heap.size, 0, none⟩ (.int .i64 z.x0)).setCell ⟨W1.heap.size, 1, none⟩ (.int .i64 z.y0)).setCell ⟨W1.heap.size, 2, none⟩ (.int .i64 z.x1)).setCell ⟨W1.heap.size, 3, none⟩ (.int .i64 z.y1)) [(w.heap.size, lyc i0 i1 k (.slice pa pn pc) fv bv (.slice (some ⟨b, kof, none⟩) m kc)), (w.heap.size + 1, cl4 ⟨0, 0, 0, 0⟩), (W1.heap.size, cl4 ((ks.take (j + 1)).foldl (stepR (resN (n + 1))) c0))]) := by
          rw [← HZ.out]
          exact H5.out.set4 2 rfl _ _ _ _
        refine ⟨steps_plain rfl (gives_mono (R := fun v w' => v = undef ∧ w' = (((s.w.setCell ⟨W1.heap.size, 0, none⟩ (.int .i64 z.x0)).setCell ⟨W1.heap.size, 1, none⟩ (.int .i64 z.y0)).setCell ⟨W1.heap.size, 2, none⟩ (.int .i64 z.x1)).setCell ⟨W1.heap.size, 3, none⟩ (.int .i64 z.y1)) (by simp [gives, go_sem, r0, r1, r2, r3, f0, f1, f2, f3]) ?_)⟩
        rintro _ _ ⟨rfl, rfl⟩
        clear r0 r1 r2 r3 f0 f1 f2 f3 M0 M1 M2 H5 HZ HBE HAK
        go_wp2_with fail
        go_roundw
        case rel => exact ⟨j + 1, by omega, by go_num, H6.out⟩
        case measure => simp [intOf]; omega
    · have ej : j = m := by omega
      subst ej
      have eR : R = q := by rw [HR.out, HQ.out.1, HM.out, List.take_length]
      have HER : Hid (R = q) := Lib.hid eR
      obtain ⟨q0, q1, q2, q3⟩ := box4 (H3.out.box 2 rfl)
      obtain ⟨r0, r1, r2, r3⟩ := box4 (H3.out.box 1 rfl)
      have f0 := H3.out.frozen 1 rfl 0
      have f1 := H3.out.frozen 1 rfl 1
      have f2 := H3.out.frozen 1 rfl 2
      have f3 := H3.out.frozen 1 rfl 3
      clear eR
      go_wp2_with fail
      have HF := H3.out.set4 1 rfl (.int .i64 q.x0) (.int .i64 q.y0) (.int .i64 q.x1) (.int .i64 q.y1)
      exact ret_rect (g := w.heap.size + 1) (r := q) rfl rfl (HF.box 1 rfl) rfl ⟨by rw [HER.out], HF.below⟩
end Go.Proofs.YtgodhpampaleeaaDoor
