/- Texts joined: XZd. -/
import Derived.Test.YtaoamkbcegadcaaGreatDoorZc
set_option maxRecDepth 4000
/- Layer 20: a prover in memory; a pass's last node and size, whether it goes point by point. -/
namespace Go.Proofs.YtaoamkbcegadcaaGreatDoor
open Go.RowKit Go.Bx Go.Od Go.Hp
attribute [local go_sem ↓] Go.wp_at_zero Go.wp_at_succ
set_option linter.unusedVariables false

/-- all blocks below n but block m lie as they lay -/
structure KpX (n m : Nat) (w w' : World) : Prop where
  os : w'.os = w.os
  tape : w'.tape = w.tape
  output : w'.output = w.output
  size : w.heap.size ≤ w'.heap.size
  block : ∀ k, k < n → k ≠ m → w'.heap[k]? = w.heap[k]?
theorem KpX.refl (n m : Nat) (w : World) : KpX n m w w := ⟨rfl, rfl, rfl, Nat.le_refl _, fun _ _ _ => rfl⟩
theorem KpX.trans {n m : Nat} {a b c : World} (h : KpX n m a b) (k : KpX n m b c) : KpX n m a c :=
  ⟨k.os.trans h.os, k.tape.trans h.tape, k.output.trans h.output, Nat.le_trans h.size k.size, fun i hi hn => (k.block i hi hn).trans (h.block i hi hn)⟩
theorem KpX.of {n m : Nat} {w w' : World} (h : Below n w w') : KpX n m w w' := ⟨h.os, h.tape, h.output, h.size, fun k hk _ => h.block k hk⟩
theorem KpX.call {n m : Nat} {a w w' : World} (h : KpX n m a w) (hb : Below w.heap.size w w') (hn : n ≤ w.heap.size) : KpX n m a w' := h.trans (KpX.of (hb.mono hn))
theorem KpX.grown {n m : Nat} {a w w' : World} (h : KpX n m a w) (hg : w.grownBy w' (some m)) (hn : n ≤ w.heap.size) : KpX n m a w' :=
  h.trans ⟨hg.os, hg.tape, hg.output, hg.size, fun k hk hne => hg.block k (by omega) (by simp; exact fun e => hne e)⟩
theorem KpX.below {n m B : Nat} {w w' : World} (h : KpX n m w w') (h1 : B ≤ n) (h2 : B ≤ m) : Below B w w' := ⟨h.os, h.tape, h.output, h.size, fun k hk => h.block k (by omega) (by omega)⟩
/-- a prover in memory: blocks below B hold graph and passes, q is its own block, m its map's -/
structure QM (B q m : Nat) (nv : Value) (nds : List Nd) (out : Int) (want : Rc) (c : Cf) (pv : Value) (p : Pn) (w : World) : Prop where
  box : Box w q (qcl nv out want c pv p.src p.sn p.pk m)
  gr : Gr B w nv nds
  gp : Gp B w pv p.ps
  bq : B ≤ q
  bm : B ≤ m
  ne : q ≠ m
  mlt : m < w.heap.size
theorem QM.call {B q m : Nat} {nv pv : Value} {nds : List Nd} {out : Int} {want : Rc} {c : Cf} {p : Pn} {w w' : World} (h : QM B q m nv nds out want c pv p w) (hb : Below w.heap.size w w') : QM B q m nv nds out want c pv p w' :=
  ⟨h.box.call hb, h.gr.below hb (by have := h.box.lt; have := h.bq; omega), h.gp.below hb (by have := h.box.lt; have := h.bq; omega), h.bq, h.bm, h.ne, Nat.lt_of_lt_of_le h.mlt hb.size⟩
theorem QM.hB {B q m : Nat} {nv pv : Value} {nds : List Nd} {out : Int} {want : Rc} {c : Cf} {p : Pn} {w : World} (h : QM B q m nv nds out want c pv p w) : B ≤ w.heap.size := by
  have := h.box.lt; have := h.bq; omega
theorem QM.kpx {B q m n : Nat} {nv pv : Value} {nds : List Nd} {out : Int} {want : Rc} {c : Cf} {p : Pn} {w w' : World} (h : QM B q m nv nds out want c pv p w) (hk : KpX n m w w') (hn : w.heap.size ≤ n) : QM B q m nv nds out want c pv p w' := by
  have hl := h.box.lt
  have hb : Below B w w' := hk.below (by have := h.hB; omega) h.bm
  exact ⟨h.box.of_block (hk.block q (by omega) h.ne), h.gr.same fun b hbl => hb.block b hbl, h.gp.same fun b hbl => hb.block b hbl, h.bq, h.bm, h.ne, Nat.lt_of_lt_of_le h.mlt hk.size⟩
theorem PC.below {W W' : World} {B g o : Nat} {s t : Value} {p : Ps} (h : PC W g o s t p) (hg : g < B) (hb : Below B W W') : PC W' g o s t p := by
  obtain ⟨h0, h1, h2, h3, h4, h5, h6, h7⟩ := h
  exact ⟨(hb.cell hg).trans h0, (hb.cell hg).trans h1, (hb.cell hg).trans h2, (hb.cell hg).trans h3, (hb.cell hg).trans h4, (hb.cell hg).trans h5, (hb.cell hg).trans h6, (hb.cell hg).trans h7⟩
theorem QM.sl {B q m : Nat} {nv pv : Value} {nds : List Nd} {out : Int} {want : Rc} {c : Cf} {p : Pn} {w : World} (h : QM B q m nv nds out want c pv p w) : ∃ a cap, pv = .slice a p.ps.length cap := h.gp.isSl
set_option maxHeartbeats 1600000 in
theorem qsize_c (na : Option Addr) (nn nc : Nat) (ra : Option Addr) (rn rc : Nat) (p : Ps) (w : World) (hr : RcP p.box) :
    Calls Tryz.prog 41 #[pvl na nn nc ra rn rc p] w (PPost w (.int .i64 (szP p))) := by
  obtain ⟨nodes, reads, ⟨x0, y0, x1, y1⟩, sl, la⟩ := p
  have HR : Hid (RcP ⟨x0, y0, x1, y1⟩) := hr
  have hb1 := below_new w (.cells (pcv na nn nc ra rn rc ⟨nodes, reads, ⟨x0, y0, x1, y1⟩, sl, la⟩) 37)
  clear hr
  go_enter Tryz.func41, Tryz.ntmps41
  go_wp2_with fail
  refine (area_c ⟨x0, y0, x1, y1⟩ _ HR.out).mono ?_; rintro e w2 ⟨rfl, hb2⟩
  have HB : Hid (Below w.heap.size w w2) := hb1.trans (hb2.mono hb1.size)
  have hbd := areaR_bd _ HR.out
  obtain ⟨a, ha⟩ : ∃ a, a = areaR ⟨x0, y0, x1, y1⟩ := ⟨_, rfl⟩
  have HA : Hid (szP ⟨nodes, reads, ⟨x0, y0, x1, y1⟩, sl, la⟩ = sz a) := by
    have : szP ⟨nodes, reads, ⟨x0, y0, x1, y1⟩, sl, la⟩ = sz a := by rw [ha]; rfl
    exact this
  rw [← ha] at hbd ⊢
  clear hb1 hb2 ha
  go_wp2_with fail
  refine (psize_c a w2 (by omega) (by omega)).mono ?_; rintro e w3 ⟨rfl, rfl⟩
  go_wp2_with fail
  go_ret
  exact ⟨by rw [HA.out]; rfl, HB.out⟩
set_option maxHeartbeats 1600000 in
theorem qresult_c {F : Nat → Prop} (na : Option Addr) (nn nc : Nat) (ra : Option Addr) (rn rc : Nat) (p : Ps) (w : World) (hn : nn = p.nodes.length) (h0 : 0 < nn) (hs : SlOf RInt 1 F w (.slice na nn nc) (ofN p.nodes)) :
    Calls Tryz.prog 40 #[pvl na nn nc ra rn rc p] w (PPost w (.int .i64 (resP p : Nat))) := by
  obtain ⟨nodes, reads, ⟨x0, y0, x1, y1⟩, sl, la⟩ := p
  dsimp only at hn hs
  obtain ⟨m, rfl⟩ : ∃ m, nn = m + 1 := ⟨nn - 1, by omega⟩
  have hle : m + 1 ≤ maxLen := by
    obtain ⟨_, c, hv, h1, h2, _⟩ := hs
    simp only [Value.slice.injEq] at hv
    rw [ofN_len] at h1
    omega
  unfold maxLen at hle
  obtain ⟨b, o, rfl, hc⟩ := sl_lastS hs (by rw [ofN_len]; exact hn.symm)
  rw [lstI_ofN] at hc
  have hb1 := below_new w (.cells (pcv (some ⟨b, o, none⟩) (m + 1) nc ra rn rc ⟨nodes, reads, ⟨x0, y0, x1, y1⟩, sl, la⟩) 37)
  have c1 := cell_alloc_lt hc (.cells (pcv (some ⟨b, o, none⟩) (m + 1) nc ra rn rc ⟨nodes, reads, ⟨x0, y0, x1, y1⟩, sl, la⟩) 37)
  obtain ⟨z, hz⟩ : ∃ z, z = lastN nodes := ⟨_, rfl⟩
  have HZ : Hid (resP ⟨nodes, reads, ⟨x0, y0, x1, y1⟩, sl, la⟩ = z) := by
    have : resP ⟨nodes, reads, ⟨x0, y0, x1, y1⟩, sl, la⟩ = z := by rw [hz]; rfl
    exact this
  rw [← hz] at c1
  have HB : Hid _ := hb1
  clear hn hs hc hz hb1 h0
  go_enter Tryz.func40, Tryz.ntmps40
  go_wp2_with fail
  go_ret
  exact ⟨by rw [HZ.out]; rfl, HB.out⟩
set_option maxHeartbeats 1600000 in
theorem qnpt_c (B M mb : Nat) (nv : Value) (nds : List Nd) (k : Nat) (w : World) (hk : k < nds.length) (hm : nds.length ≤ 1000) (h1 : w.cell? ⟨mb, 0, none⟩ = some (.pointer (some ⟨M, 0, none⟩))) (h2 : w.cell? ⟨M, 0, none⟩ = some nv) (hg : Gr B w nv nds) :
    Calls Tryz.prog 60 #[.int .i64 k, .pointer (some ⟨mb, 0, none⟩)] w (PPost w (.bool (npt nds k))) := by
  obtain ⟨b, o, cap, ia, ic, pa, pc, rfl, hbB, hcap, hcm, k0, k1, k2, s1, s2⟩ := hg.node hk
  obtain ⟨op, hop⟩ : ∃ op, op = (nds.getD k Nd.none).op := ⟨_, rfl⟩
  rw [← hop] at k0
  have HE : Hid (npt nds k = !byPt op) := by
    have : npt nds k = !byPt op := by unfold npt; rw [Int.toNat_natCast, hop]
    exact this
  have hk0 : (0 : Int) ≤ (k : Int) := by omega
  have hk1 : (k : Int) < (nds.length : Int) := by omega
  clear hg s1 s2 k1 k2 hop hcm
  go_enter Tryz.func60, Tryz.ntmps60
  go_wp2_with fail
  refine (bypoint_c op w).mono ?_; rintro e w2 ⟨rfl, rfl⟩
  go_wp2_with fail
  go_ret
  exact ⟨ret_b HE.out.symm, Below.refl _ _⟩
set_option maxHeartbeats 1600000 in
theorem qbyp_c (B M : Nat) (nv : Value) (nds : List Nd) (na : Option Addr) (nn nc : Nat) (ra : Option Addr) (rn rc : Nat) (p : Ps) (w : World) (hM : M < w.heap.size) (hm : nds.length ≤ 1000) (h2 : w.cell? ⟨M, 0, none⟩ = some nv) (hg : Gr B w nv nds) (hB : B ≤ w.heap.size) (hs : SlOf RInt 1 (· < B) w (.slice na nn nc) (ofN p.nodes)) (hk : ∀ k ∈ p.nodes, k < nds.length) :
    Calls Tryz.prog 36 #[.pointer (some ⟨M, 0, none⟩), pvl na nn nc ra rn rc p] w (PPost w (.bool (byP nds p))) := by
  have hE := npt_any nds p
  obtain ⟨nodes, reads, ⟨x0, y0, x1, y1⟩, sl, la⟩ := p
  have X := Box.new w [.pointer (some ⟨M, 0, none⟩)] 53
  have hb1 := below_new w (.cells #[.pointer (some ⟨M, 0, none⟩)] 53)
  have X2 := X.alloc (.cells (pcv na nn nc ra rn rc ⟨nodes, reads, ⟨x0, y0, x1, y1⟩, sl, la⟩) 37)
  have hb2 := hb1.alloc hb1.size (.cells (pcv na nn nc ra rn rc ⟨nodes, reads, ⟨x0, y0, x1, y1⟩, sl, la⟩) 37)
  have hcon := containsI_c (F := (· < B)) 60 #[.pointer (some ⟨w.heap.size, 0, none⟩)] (npt nds) (.slice na nn nc) (ofN nodes) ((w.alloc (.cells #[.pointer (some ⟨M, 0, none⟩)] 53)).alloc (.cells (pcv na nn nc ra rn rc ⟨nodes, reads, ⟨x0, y0, x1, y1⟩, sl, la⟩) 37)) (enters_of Tryz.func60 (by kernel_rfl) rfl) (sl_below hs (hb2.mono hB)) (fun W x hW hx => by
    obtain ⟨k, hkm, rfl⟩ := List.mem_map.1 hx
    have hbw : Below w.heap.size w W := hb2.trans (hW.mono hb2.size)
    exact qnpt_c B M w.heap.size nv nds k W (hk k hkm) hm ((X2.call hW).cell 0 rfl) ((hbw.cell hM).trans h2) (hg.below hbw hB))
  have HB : Hid (Below w.heap.size w ((w.alloc (.cells #[.pointer (some ⟨M, 0, none⟩)] 53)).alloc (.cells (pcv na nn nc ra rn rc ⟨nodes, reads, ⟨x0, y0, x1, y1⟩, sl, la⟩) 37))) := hb2
  have HC : Hid _ := hcon
  obtain ⟨q, hq⟩ : ∃ q, q = (ofN nodes).any (npt nds) := ⟨_, rfl⟩
  rw [← hq] at hcon
  have HE : Hid ((!q) = byP nds ⟨nodes, reads, ⟨x0, y0, x1, y1⟩, sl, la⟩) := by rw [hq]; exact hE
  clear X X2 hb1 hb2 hs hk hg h2 hq hE HC
  go_enter Tryz.func36, Tryz.ntmps36
  go_wp2_with fail
  refine hcon.mono ?_; rintro e w2 ⟨rfl, hb3⟩
  have HE2 : Hid (Below w.heap.size w w2) := HB.out.trans (hb3.mono HB.out.size)
  clear hcon hb3
  go_wp2_with fail
  go_ret
  exact ⟨ret_b HE.out, HE2.out⟩
end Go.Proofs.YtaoamkbcegadcaaGreatDoor
