/- Texts joined: XYd. -/
import Derived.Test.YtaoamkbcegadcaaGreatDoorYc
set_option maxRecDepth 4000
/- Layer 19: whether a pass goes point by point. -/
namespace Go.Proofs.YtaoamkbcegadcaaGreatDoor
open Go.RowKit Go.Bx Go.Od Go.Hp
attribute [local go_sem ↓] Go.wp_at_zero Go.wp_at_succ
set_option linter.unusedVariables false

theorem fIdx_any {α : Type} (f : α → Bool) (l : List α) : decide (0 ≤ fIdx f l) = l.any f := by
  rw [Bool.eq_iff_iff, decide_eq_true_eq, List.any_eq_true]
  unfold fIdx
  cases h : l.findIdx? f with
  | none =>
    rw [List.findIdx?_eq_none_iff] at h
    constructor
    · intro h'; exact absurd h' (by decide)
    · rintro ⟨x, hx, hf⟩; have := h x hx; rw [this] at hf; cases hf
  | some k =>
    rw [List.findIdx?_eq_some_iff_getElem] at h
    obtain ⟨hk, hf, _⟩ := h
    exact ⟨fun _ => ⟨_, List.getElem_mem hk, hf⟩, fun _ => by simp⟩
theorem fIdx_lt {α : Type} (f : α → Bool) (l : List α) : fIdx f l < l.length ∧ (-1 ≤ fIdx f l) := by
  unfold fIdx
  cases h : l.findIdx? f with
  | none => simp; omega
  | some k =>
    rw [List.findIdx?_eq_some_iff_getElem] at h
    obtain ⟨hk, _⟩ := h
    simp
    omega
set_option maxHeartbeats 1600000 in
theorem containsI_c {F : Nat → Prop} (g : Nat) (lb : Array Value) (p : Int → Bool) (v : Value) (xs : List Int) (w : World) (eg : ∀ args w, (callFunc g args).run Tryz.prog w = .ok (.enter g args) w) (hs : SlOf RInt 1 F w v xs)
    (hp : ∀ W x, Below w.heap.size w W → x ∈ xs → Calls Tryz.prog g (#[.int .i64 x] ++ lb) W (PPost W (.bool (p x)))) :
    Calls Tryz.prog 59 #[v, .func (.func g) #[] lb] w (PPost w (.bool (xs.any p))) := by
  have hc := idxI_c g lb p v xs w eg hs hp
  have he := fIdx_any p xs
  obtain ⟨a, c, rfl, _⟩ := hs
  obtain ⟨k, hk⟩ : ∃ k, k = fIdx p xs := ⟨_, rfl⟩
  have HE : Hid (decide (0 ≤ k) = xs.any p) := by rw [hk]; exact he
  rw [← hk] at hc
  clear hp he hk eg
  go_enter Tryz.func59, Tryz.ntmps59
  go_wp2_with fail
  refine hc.mono ?_; rintro e w2 ⟨rfl, hb2⟩
  clear hc
  go_wp2_with fail
  go_ret
  exact ⟨ret_b HE.out, hb2⟩
/-- what byPoint's function asks of one node -/
def npt (nds : List Nd) (x : Int) : Bool := !byPt (nds.getD x.toNat Nd.none).op
set_option maxHeartbeats 1600000 in
theorem npt_c (B M mb : Nat) (nv : Value) (nds : List Nd) (k : Nat) (w : World) (hk : k < nds.length) (hm : nds.length ≤ 1000) (h1 : w.cell? ⟨mb, 0, none⟩ = some (.pointer (some ⟨M, 0, none⟩))) (h2 : w.cell? ⟨M, 0, none⟩ = some nv) (hg : Gr B w nv nds) :
    Calls Tryz.prog 97 #[.int .i64 k, .pointer (some ⟨mb, 0, none⟩)] w (PPost w (.bool (npt nds k))) := by
  obtain ⟨b, o, cap, ia, ic, pa, pc, rfl, hbB, hcap, hcm, k0, k1, k2, s1, s2⟩ := hg.node hk
  obtain ⟨op, hop⟩ : ∃ op, op = (nds.getD k Nd.none).op := ⟨_, rfl⟩
  rw [← hop] at k0
  have HE : Hid (npt nds k = !byPt op) := by
    have : npt nds k = !byPt op := by unfold npt; rw [Int.toNat_natCast, hop]
    exact this
  have hk0 : (0 : Int) ≤ (k : Int) := by omega
  have hk1 : (k : Int) < (nds.length : Int) := by omega
  clear hg s1 s2 k1 k2 hop hcm
  go_enter Tryz.func97, Tryz.ntmps97
  go_wp2_with fail
  refine (bypoint_c op w).mono ?_; rintro e w2 ⟨rfl, rfl⟩
  go_wp2_with fail
  go_ret
  exact ⟨ret_b HE.out.symm, Below.refl _ _⟩
theorem npt_any (nds : List Nd) (p : Ps) : (!(ofN p.nodes).any (npt nds)) = byP nds p := by
  unfold byP ofN npt
  rw [List.any_map]
  induction p.nodes with
  | nil => rfl
  | cons x l ih =>
    simp only [List.any_cons, List.all_cons, Function.comp, Int.toNat_natCast, Bool.not_or, Bool.not_not]
    rw [← ih]
set_option maxHeartbeats 1600000 in
theorem byp_c (B M : Nat) (nv : Value) (nds : List Nd) (na : Option Addr) (nn nc : Nat) (ra : Option Addr) (rn rc : Nat) (p : Ps) (w : World) (hM : M < w.heap.size) (hm : nds.length ≤ 1000) (h2 : w.cell? ⟨M, 0, none⟩ = some nv) (hg : Gr B w nv nds) (hB : B ≤ w.heap.size) (hs : SlOf RInt 1 (· < B) w (.slice na nn nc) (ofN p.nodes)) (hk : ∀ k ∈ p.nodes, k < nds.length) :
    Calls Tryz.prog 75 #[.pointer (some ⟨M, 0, none⟩), pvl na nn nc ra rn rc p] w (PPost w (.bool (byP nds p))) := by
  have hE := npt_any nds p
  obtain ⟨nodes, reads, ⟨x0, y0, x1, y1⟩, sl, la⟩ := p
  have X := Box.new w [.pointer (some ⟨M, 0, none⟩)] 48
  have hb1 := below_new w (.cells #[.pointer (some ⟨M, 0, none⟩)] 48)
  have X2 := X.alloc (.cells (pcv na nn nc ra rn rc ⟨nodes, reads, ⟨x0, y0, x1, y1⟩, sl, la⟩) 37)
  have hb2 := hb1.alloc hb1.size (.cells (pcv na nn nc ra rn rc ⟨nodes, reads, ⟨x0, y0, x1, y1⟩, sl, la⟩) 37)
  have hcon := containsI_c (F := (· < B)) 97 #[.pointer (some ⟨w.heap.size, 0, none⟩)] (npt nds) (.slice na nn nc) (ofN nodes) ((w.alloc (.cells #[.pointer (some ⟨M, 0, none⟩)] 48)).alloc (.cells (pcv na nn nc ra rn rc ⟨nodes, reads, ⟨x0, y0, x1, y1⟩, sl, la⟩) 37)) (enters_of Tryz.func97 (by kernel_rfl) rfl) (sl_below hs (hb2.mono hB)) (fun W x hW hx => by
    obtain ⟨k, hkm, rfl⟩ := List.mem_map.1 hx
    have hbw : Below w.heap.size w W := hb2.trans (hW.mono hb2.size)
    exact npt_c B M w.heap.size nv nds k W (hk k hkm) hm ((X2.call hW).cell 0 rfl) ((hbw.cell hM).trans h2) (hg.below hbw hB))
  have HB : Hid (Below w.heap.size w ((w.alloc (.cells #[.pointer (some ⟨M, 0, none⟩)] 48)).alloc (.cells (pcv na nn nc ra rn rc ⟨nodes, reads, ⟨x0, y0, x1, y1⟩, sl, la⟩) 37))) := hb2
  have HC : Hid _ := hcon
  obtain ⟨q, hq⟩ : ∃ q, q = (ofN nodes).any (npt nds) := ⟨_, rfl⟩
  rw [← hq] at hcon
  have HE : Hid ((!q) = byP nds ⟨nodes, reads, ⟨x0, y0, x1, y1⟩, sl, la⟩) := by rw [hq]; exact hE
  clear X X2 hb1 hb2 hs hk hg h2 hq hE HC
  go_enter Tryz.func75, Tryz.ntmps75
  go_wp2_with fail
  refine hcon.mono ?_; rintro e w2 ⟨rfl, hb3⟩
  have HE2 : Hid (Below w.heap.size w w2) := HB.out.trans (hb3.mono HB.out.size)
  clear hcon hb3
  go_wp2_with fail
  go_ret
  exact ⟨ret_b HE.out, HE2.out⟩
end Go.Proofs.YtaoamkbcegadcaaGreatDoor
