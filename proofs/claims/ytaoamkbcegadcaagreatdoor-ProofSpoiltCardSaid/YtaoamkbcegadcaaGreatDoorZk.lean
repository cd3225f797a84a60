/- Texts joined: XZk. -/
import Derived.Test.YtaoamkbcegadcaaGreatDoorZj
import Derived.BigRegion
set_option maxRecDepth 4000
/- Layer 20: rule 5 (shared). -/
namespace Go.Proofs.YtaoamkbcegadcaaGreatDoor
open Go.RowKit Go.Bx Go.Od Go.Hp
attribute [local go_sem ↓] Go.wp_at_zero Go.wp_at_succ
set_option linter.unusedVariables false

theorem share {F Pm : Nat → Nat → World → Prop} {G : Prop} (h2 : Hid (∀ ba bb W,F ba bb W → Pm ba bb W) → G) (h1 : ∀ ba bb W,F ba bb W → Pm ba bb W) : G := h2 h1

set_option maxRecDepth 10000 in
set_option maxHeartbeats 6400000 in
theorem qshared_c {B q m : Nat} {nv pv : Value} {nds : List Nd} {out : Int} {want : Rc} {c : Cf} {p : Pn} (w : World) (hq : QM B q m nv nds out want c pv p w) (hg : GoodN nds out) (hP : p.ps.length ≤ 1000)
    (hok : ∀ y ∈ p.ps,POk y) (hk : ∀ y ∈ p.ps,∀ k ∈ y.nodes,k < nds.length) (i k : Nat) (hi : i < p.ps.length) (hkl : k < p.ps.length) :
    Calls Tryz.prog 42 #[.pointer (some ⟨q,0,none⟩),.int .i64 i,.int .i64 k] w (PPost w (.bool (shB nds c.al (p.ps.getD i Ps.none) (p.ps.getD k Ps.none) k))) := by
  obtain ⟨P,hPe⟩ : ∃ P,P = p.ps.length := ⟨_,rfl⟩
  have HPE : Hid (P = p.ps.length) := hPe
  obtain ⟨a,cap,rfl⟩ := hq.sl
  obtain ⟨x,hx⟩ : ∃ y,y = p.ps.getD i Ps.none := ⟨_,rfl⟩
  obtain ⟨y,hy⟩ : ∃ y,y = p.ps.getD k Ps.none := ⟨_,rfl⟩
  have q11 := hq.box.cell 11 rfl
  have q7 := hq.box.cell 7 rfl
  have q0 := hq.box.cell 0 rfl
  obtain ⟨b,o,na,nc,ra,rc,rfl,hbB,hpc,hs1,hs2⟩ := hq.gp.at hi hx
  obtain ⟨b',o',na',nc',ra',rc',hv,hbB',hpc',hs1',hs2'⟩ := hq.gp.at hkl hy
  simp only [Option.some.injEq,Addr.mk.injEq,and_true] at hv
  obtain ⟨rfl,rfl⟩ := hv
  obtain ⟨k0,k1,k2,k3,k4,k5,k6,k7⟩ := hpc
  obtain ⟨l0,l1,l2,l3,l4,l5,l6,l7⟩ := hpc'
  have HQ : Hid (QM B q m nv nds out want c (.slice (some ⟨b,o,none⟩) p.ps.length cap) p w) := hq
  have hqm := hq
  clear hq
  have hox := hok x (by rw [hx]; exact getD_mem _ hi)
  have hoy := hok y (by rw [hy]; exact getD_mem _ hkl)
  obtain ⟨zx,hzx⟩ : ∃ z,z = szP x := ⟨_,rfl⟩
  obtain ⟨zy,hzy⟩ : ∃ z,z = szP y := ⟨_,rfl⟩
  obtain ⟨lx,hlx⟩ : ∃ l,l = x.last := ⟨_,rfl⟩
  rw [← hlx] at k7
  obtain ⟨rz,hrz⟩ : ∃ z,z = resP x := ⟨_,rfl⟩
  obtain ⟨ct,hct⟩ : ∃ z,z = y.reads.contains (resP x : Int) := ⟨_,rfl⟩
  obtain ⟨bp,hbp⟩ : ∃ z,z = byP nds y := ⟨_,rfl⟩
  obtain ⟨be,hbe⟩ : ∃ z,z = rcEq x.box y.box := ⟨_,rfl⟩
  obtain ⟨al,hal⟩ : ∃ z,z = c.al := ⟨_,rfl⟩
  rw [← hal] at q7
  have hq : ∀ W,(binOp .eql 26 (.agg #[.int .i64 x.box.x0,.int .i64 x.box.y0,.int .i64 x.box.x1,.int .i64 x.box.y1]) (.agg #[.int .i64 y.box.x0,.int .i64 y.box.y0,.int .i64 y.box.x1,.int .i64 y.box.y1])).run Tryz.prog W = .ok (.bool be) W := fun W => by rw [hbe]; exact eqlRc x.box y.box W
  obtain ⟨r,hr⟩ : ∃ r,r = shB nds c.al (p.ps.getD i Ps.none) (p.ps.getD k Ps.none) k := ⟨_,rfl⟩
  have HR : Hid (r = (al && (decide (zx = zy) && (decide (lx < (k : Int)) || (decide (lx = (k : Int)) && (be && (ct && bp))))))) := by
    have : r = (al && (decide (zx = zy) && (decide (lx < (k : Int)) || (decide (lx = (k : Int)) && (be && (ct && bp)))))) := by rw [hr,← hx,← hy,hal,hzx,hzy,hlx,hbe,hct,hbp]; rfl
    exact this
  rw [← hr]
  have HSX : Hid (∀ W,Calls Tryz.prog 41 #[.agg #[.slice na x.nodes.length nc,.slice ra x.reads.length rc,.int .i64 x.box.x0,.int .i64 x.box.y0,.int .i64 x.box.x1,.int .i64 x.box.y1,.int .i64 x.slot,.int .i64 lx]] W (PPost W (.int .i64 zx))) := fun W => by rw [hzx,hlx]; exact qsize_c _ _ _ _ _ _ x W hox.2.2.2
  have HSY : Hid (∀ W,Calls Tryz.prog 41 #[.agg #[.slice na' y.nodes.length nc',.slice ra' y.reads.length rc',.int .i64 y.box.x0,.int .i64 y.box.y0,.int .i64 y.box.x1,.int .i64 y.box.y1,.int .i64 y.slot,.int .i64 y.last]] W (PPost W (.int .i64 zy))) := fun W => by rw [hzy]; exact qsize_c _ _ _ _ _ _ y W hoy.2.2.2
  have HRX : Hid (∀ W,Below w.heap.size w W → Calls Tryz.prog 40 #[.agg #[.slice na x.nodes.length nc,.slice ra x.reads.length rc,.int .i64 x.box.x0,.int .i64 x.box.y0,.int .i64 x.box.x1,.int .i64 x.box.y1,.int .i64 x.slot,.int .i64 lx]] W (PPost W (.int .i64 (rz : Nat)))) := fun W hW => by rw [hrz,hlx]; exact qresult_c _ _ _ _ _ _ x W rfl hox.1 (sl_below hs1 (hW.mono hqm.hB))
  have HCT : Hid (∀ W,Below w.heap.size w W → Calls Tryz.prog 50 #[.slice ra' y.reads.length rc',.int .i64 (rz : Nat)] W (PPost W (.bool ct))) := fun W hW => by
    rw [hrz,hct]
    exact (contains_c (sl_below hs2' (hW.mono hqm.hB)) (resP x : Int)).mono fun e w' h => ⟨h.1,by rw [h.2]; exact Below.refl _ _⟩
  have HBY : Hid (∀ W,Below w.heap.size w W → Calls Tryz.prog 36 #[.pointer (some ⟨q,0,none⟩),.agg #[.slice na' y.nodes.length nc',.slice ra' y.reads.length rc',.int .i64 y.box.x0,.int .i64 y.box.y0,.int .i64 y.box.x1,.int .i64 y.box.y1,.int .i64 y.slot,.int .i64 y.last]] W (PPost W (.bool bp))) := fun W hW => by
    rw [hbp]
    exact qbyp_c B q nv nds _ _ _ _ _ _ y W ((hqm.call hW).box.lt) (by have := hg.few; omega) ((hqm.call hW).box.cell 0 rfl) (hqm.call hW).gr (hqm.call hW).hB (sl_below hs1' (hW.mono hqm.hB)) (hk y (by rw [hy]; exact getD_mem _ (by omega)))
  have HZ : Hid (zx = szP x ∧ zy = szP y) := ⟨hzx,hzy⟩
  have HXY : Hid (x = p.ps.getD i Ps.none ∧ y = p.ps.getD k Ps.none) := ⟨hx,hy⟩
  have hql : q < w.heap.size := HQ.out.box.lt
  have hbl : b < w.heap.size := lt_of_cell k0
  rw [← hPe] at q11 hi hkl hP
  have hi0 : (0 : Int) ≤ (i : Int) := by omega
  have hi1 : (i : Int) < (P : Int) := by omega
  have hk0 : (0 : Int) ≤ (k : Int) := by omega
  have hk1 : (k : Int) < (P : Int) := by omega
  clear hqm hg hx hy hs1 hs2 hs1' hs2' hok hk hox hoy hzx hzy hlx hrz hct hbp hbe hal hr hPe
  go_enter Tryz.func42,Tryz.ntmps42
  go_wp2_with fail
  apply share (F := fun ba bb W => Box W ba [.slice na x.nodes.length nc,.slice ra x.reads.length rc,.int .i64 x.box.x0,.int .i64 x.box.y0,.int .i64 x.box.x1,.int .i64 x.box.y1,.int .i64 x.slot,.int .i64 lx] ∧ Box W bb [.slice na' y.nodes.length nc',.slice ra' y.reads.length rc',.int .i64 y.box.x0,.int .i64 y.box.y0,.int .i64 y.box.x1,.int .i64 y.box.y1,.int .i64 y.slot,.int .i64 y.last] ∧ Below w.heap.size w W)
  case h2 =>
    intro HS
    go_region
    · have XA : Box (((w.alloc (.cells #[.slice na x.nodes.length nc,.slice ra x.reads.length rc,.int .i64 x.box.x0,.int .i64 x.box.y0,.int .i64 x.box.x1,.int .i64 x.box.y1,.int .i64 x.slot,.int .i64 lx] 37)).alloc (.cells #[.slice na' y.nodes.length nc',.slice ra' y.reads.length rc',.int .i64 y.box.x0,.int .i64 y.box.y0,.int .i64 y.box.x1,.int .i64 y.box.y1,.int .i64 y.slot,.int .i64 y.last] 37)).drew) (w.heap.size) [.slice na x.nodes.length nc,.slice ra x.reads.length rc,.int .i64 x.box.x0,.int .i64 x.box.y0,.int .i64 x.box.x1,.int .i64 x.box.y1,.int .i64 x.slot,.int .i64 lx] := by
        have h := (Box.new w [.slice na x.nodes.length nc,.slice ra x.reads.length rc,.int .i64 x.box.x0,.int .i64 x.box.y0,.int .i64 x.box.x1,.int .i64 x.box.y1,.int .i64 x.slot,.int .i64 lx] 37).alloc (.cells #[.slice na' y.nodes.length nc',.slice ra' y.reads.length rc',.int .i64 y.box.x0,.int .i64 y.box.y0,.int .i64 y.box.x1,.int .i64 y.box.y1,.int .i64 y.slot,.int .i64 y.last] 37)
        try rw [size_alloc] at h
        exact h
      have XB : Box (((w.alloc (.cells #[.slice na x.nodes.length nc,.slice ra x.reads.length rc,.int .i64 x.box.x0,.int .i64 x.box.y0,.int .i64 x.box.x1,.int .i64 x.box.y1,.int .i64 x.slot,.int .i64 lx] 37)).alloc (.cells #[.slice na' y.nodes.length nc',.slice ra' y.reads.length rc',.int .i64 y.box.x0,.int .i64 y.box.y0,.int .i64 y.box.x1,.int .i64 y.box.y1,.int .i64 y.slot,.int .i64 y.last] 37)).drew) (w.heap.size + 1) [.slice na' y.nodes.length nc',.slice ra' y.reads.length rc',.int .i64 y.box.x0,.int .i64 y.box.y0,.int .i64 y.box.x1,.int .i64 y.box.y1,.int .i64 y.slot,.int .i64 y.last] := by
        have h := Box.new (w.alloc (.cells #[.slice na x.nodes.length nc,.slice ra x.reads.length rc,.int .i64 x.box.x0,.int .i64 x.box.y0,.int .i64 x.box.x1,.int .i64 x.box.y1,.int .i64 x.slot,.int .i64 lx] 37)) [.slice na' y.nodes.length nc',.slice ra' y.reads.length rc',.int .i64 y.box.x0,.int .i64 y.box.y0,.int .i64 y.box.x1,.int .i64 y.box.y1,.int .i64 y.slot,.int .i64 y.last] 37
        try rw [size_alloc] at h
        exact h
      have HB : Below w.heap.size w (((w.alloc (.cells #[.slice na x.nodes.length nc,.slice ra x.reads.length rc,.int .i64 x.box.x0,.int .i64 x.box.y0,.int .i64 x.box.x1,.int .i64 x.box.y1,.int .i64 x.slot,.int .i64 lx] 37)).alloc (.cells #[.slice na' y.nodes.length nc',.slice ra' y.reads.length rc',.int .i64 y.box.x0,.int .i64 y.box.y0,.int .i64 y.box.x1,.int .i64 y.box.y1,.int .i64 y.slot,.int .i64 y.last] 37)).drew) := ((below_new w _).alloc (by rw [size_alloc]; omega) _).drew
      have HF := HS.out _ _ _ ⟨XA,XB,HB⟩
      clear HS
      generalize (((w.alloc (.cells #[.slice na x.nodes.length nc,.slice ra x.reads.length rc,.int .i64 x.box.x0,.int .i64 x.box.y0,.int .i64 x.box.x1,.int .i64 x.box.y1,.int .i64 x.slot,.int .i64 lx] 37)).alloc (.cells #[.slice na' y.nodes.length nc',.slice ra' y.reads.length rc',.int .i64 y.box.x0,.int .i64 y.box.y0,.int .i64 y.box.x1,.int .i64 y.box.y1,.int .i64 y.slot,.int .i64 y.last] 37)).drew) = W at HF ⊢
      generalize w.heap.size + 1 = bb at HF ⊢
      generalize w.heap.size = ba at HF ⊢
      exact HF
    · have XA : Box (((w.alloc (.cells #[.slice na' y.nodes.length nc',.slice ra' y.reads.length rc',.int .i64 y.box.x0,.int .i64 y.box.y0,.int .i64 y.box.x1,.int .i64 y.box.y1,.int .i64 y.slot,.int .i64 y.last] 37)).alloc (.cells #[.slice na x.nodes.length nc,.slice ra x.reads.length rc,.int .i64 x.box.x0,.int .i64 x.box.y0,.int .i64 x.box.x1,.int .i64 x.box.y1,.int .i64 x.slot,.int .i64 lx] 37)).drew) (w.heap.size + 1) [.slice na x.nodes.length nc,.slice ra x.reads.length rc,.int .i64 x.box.x0,.int .i64 x.box.y0,.int .i64 x.box.x1,.int .i64 x.box.y1,.int .i64 x.slot,.int .i64 lx] := by
        have h := Box.new (w.alloc (.cells #[.slice na' y.nodes.length nc',.slice ra' y.reads.length rc',.int .i64 y.box.x0,.int .i64 y.box.y0,.int .i64 y.box.x1,.int .i64 y.box.y1,.int .i64 y.slot,.int .i64 y.last] 37)) [.slice na x.nodes.length nc,.slice ra x.reads.length rc,.int .i64 x.box.x0,.int .i64 x.box.y0,.int .i64 x.box.x1,.int .i64 x.box.y1,.int .i64 x.slot,.int .i64 lx] 37
        try rw [size_alloc] at h
        exact h
      have XB : Box (((w.alloc (.cells #[.slice na' y.nodes.length nc',.slice ra' y.reads.length rc',.int .i64 y.box.x0,.int .i64 y.box.y0,.int .i64 y.box.x1,.int .i64 y.box.y1,.int .i64 y.slot,.int .i64 y.last] 37)).alloc (.cells #[.slice na x.nodes.length nc,.slice ra x.reads.length rc,.int .i64 x.box.x0,.int .i64 x.box.y0,.int .i64 x.box.x1,.int .i64 x.box.y1,.int .i64 x.slot,.int .i64 lx] 37)).drew) (w.heap.size) [.slice na' y.nodes.length nc',.slice ra' y.reads.length rc',.int .i64 y.box.x0,.int .i64 y.box.y0,.int .i64 y.box.x1,.int .i64 y.box.y1,.int .i64 y.slot,.int .i64 y.last] := by
        have h := (Box.new w [.slice na' y.nodes.length nc',.slice ra' y.reads.length rc',.int .i64 y.box.x0,.int .i64 y.box.y0,.int .i64 y.box.x1,.int .i64 y.box.y1,.int .i64 y.slot,.int .i64 y.last] 37).alloc (.cells #[.slice na x.nodes.length nc,.slice ra x.reads.length rc,.int .i64 x.box.x0,.int .i64 x.box.y0,.int .i64 x.box.x1,.int .i64 x.box.y1,.int .i64 x.slot,.int .i64 lx] 37)
        try rw [size_alloc] at h
        exact h
      have HB : Below w.heap.size w (((w.alloc (.cells #[.slice na' y.nodes.length nc',.slice ra' y.reads.length rc',.int .i64 y.box.x0,.int .i64 y.box.y0,.int .i64 y.box.x1,.int .i64 y.box.y1,.int .i64 y.slot,.int .i64 y.last] 37)).alloc (.cells #[.slice na x.nodes.length nc,.slice ra x.reads.length rc,.int .i64 x.box.x0,.int .i64 x.box.y0,.int .i64 x.box.x1,.int .i64 x.box.y1,.int .i64 x.slot,.int .i64 lx] 37)).drew) := ((below_new w _).alloc (by rw [size_alloc]; omega) _).drew
      have HF := HS.out _ _ _ ⟨XA,XB,HB⟩
      clear HS
      generalize (((w.alloc (.cells #[.slice na' y.nodes.length nc',.slice ra' y.reads.length rc',.int .i64 y.box.x0,.int .i64 y.box.y0,.int .i64 y.box.x1,.int .i64 y.box.y1,.int .i64 y.slot,.int .i64 y.last] 37)).alloc (.cells #[.slice na x.nodes.length nc,.slice ra x.reads.length rc,.int .i64 x.box.x0,.int .i64 x.box.y0,.int .i64 x.box.x1,.int .i64 x.box.y1,.int .i64 x.slot,.int .i64 lx] 37)).drew) = W at HF ⊢
      generalize w.heap.size + 1 = ba at HF ⊢
      generalize w.heap.size = bb at HF ⊢
      exact HF
  case h1 =>
    intro ba bb W
    rintro ⟨XA,XB,HB'⟩
    have HB : Hid (Below w.heap.size w W) := HB'
    clear HB'
    have x0 := XA.cell 0 rfl
    have x1 := XA.cell 1 rfl
    have x2 := XA.cell 2 rfl
    have x3 := XA.cell 3 rfl
    have x4 := XA.cell 4 rfl
    have x5 := XA.cell 5 rfl
    have x6 := XA.cell 6 rfl
    have x7 := XA.cell 7 rfl
    have y0 := XB.cell 0 rfl
    have y1 := XB.cell 1 rfl
    have y2 := XB.cell 2 rfl
    have y3 := XB.cell 3 rfl
    have y4 := XB.cell 4 rfl
    have y5 := XB.cell 5 rfl
    have y6 := XB.cell 6 rfl
    have y7 := XB.cell 7 rfl
    have c7 := (HB.out.cell hql).trans q7
    have c0 := (HB.out.cell hql).trans q0
    have kk0 := fun s : Kept W.heap.size W => s.at x0
    have kk1 := fun s : Kept W.heap.size W => s.at x1
    have kk2 := fun s : Kept W.heap.size W => s.at x2
    have kk3 := fun s : Kept W.heap.size W => s.at x3
    have kk4 := fun s : Kept W.heap.size W => s.at x4
    have kk5 := fun s : Kept W.heap.size W => s.at x5
    have kk6 := fun s : Kept W.heap.size W => s.at x6
    have kk7 := fun s : Kept W.heap.size W => s.at x7
    have kk8 := fun s : Kept W.heap.size W => s.at y0
    have kk9 := fun s : Kept W.heap.size W => s.at y1
    have kk10 := fun s : Kept W.heap.size W => s.at y2
    have kk11 := fun s : Kept W.heap.size W => s.at y3
    have kk12 := fun s : Kept W.heap.size W => s.at y4
    have kk13 := fun s : Kept W.heap.size W => s.at y5
    have kk14 := fun s : Kept W.heap.size W => s.at y6
    have kk15 := fun s : Kept W.heap.size W => s.at y7
    have kk16 := fun s : Kept W.heap.size W => s.at c7
    have kk17 := fun s : Kept W.heap.size W => s.at c0
    have HA1 : Hid (∀ s : Kept W.heap.size W,Calls Tryz.prog 41 #[.agg #[.slice na x.nodes.length nc,.slice ra x.reads.length rc,.int .i64 x.box.x0,.int .i64 x.box.y0,.int .i64 x.box.x1,.int .i64 x.box.y1,.int .i64 x.slot,.int .i64 lx]] s.w (PPost s.w (.int .i64 zx))) := fun s => HSX.out s.w
    have HA2 : Hid (∀ s : Kept W.heap.size W,Calls Tryz.prog 41 #[.agg #[.slice na' y.nodes.length nc',.slice ra' y.reads.length rc',.int .i64 y.box.x0,.int .i64 y.box.y0,.int .i64 y.box.x1,.int .i64 y.box.y1,.int .i64 y.slot,.int .i64 y.last]] s.w (PPost s.w (.int .i64 zy))) := fun s => HSY.out s.w
    clear XA XB
    cases al with
    | false =>
      have HE : Hid (r = false) := by
        have : r = false := by rw [HR.out,Bool.false_and]
        exact this
      go_wp2_with fail
      refine wp_region_kept W.heap.size (by kernel_rfl) (by kernel_rfl) ?_
      repeat (go_big_quiet_step (first | (go_at_call 41; with_reducible exact Calls.kept _ (Nat.le_refl _) (HA1.out _)) | (go_at_call 41; with_reducible exact Calls.kept _ (Nat.le_refl _) (HA2.out _))))
      refine wpQuiet_nil ?_
      rintro _ ⟨s,rfl⟩
      have HB5 : Hid (Below w.heap.size w s.w) := HB.out.trans (s.below.mono HB.out.size)
      clear kk0 kk1 kk2 kk3 kk4 kk5 kk6 kk7 kk8 kk9 kk10 kk11 kk12 kk13 kk14 kk15 kk16 kk17 HA1 HA2
      go_wp2_with fail
      go_ret
      exact ⟨ret_b HE.out.symm,HB5.out⟩
    | true =>
      by_cases h1 : zx = zy
      · have h1b : (zx == zy) = true := beq_iff_eq.2 h1
        have H1 : Hid (zx = zy) := h1
        clear h1
        go_wp2_with fail
        refine wp_region_kept W.heap.size (by kernel_rfl) (by kernel_rfl) ?_
        repeat (go_big_quiet_step (first | (go_at_call 41; with_reducible exact Calls.kept _ (Nat.le_refl _) (HA1.out _)) | (go_at_call 41; with_reducible exact Calls.kept _ (Nat.le_refl _) (HA2.out _))))
        refine wpQuiet_nil ?_
        rintro _ ⟨s,rfl⟩
        have HB5 : Hid (Below w.heap.size w s.w) := HB.out.trans (s.below.mono HB.out.size)
        have zx0 := s.at x0
        have zx1 := s.at x1
        have zx2 := s.at x2
        have zx3 := s.at x3
        have zx4 := s.at x4
        have zx5 := s.at x5
        have zx6 := s.at x6
        have zx7 := s.at x7
        have zy0 := s.at y0
        have zy1 := s.at y1
        have zy2 := s.at y2
        have zy3 := s.at y3
        have zy4 := s.at y4
        have zy5 := s.at y5
        have zy6 := s.at y6
        have zy7 := s.at y7
        have zc7 := s.at c7
        have zc0 := s.at c0
        clear kk0 kk1 kk2 kk3 kk4 kk5 kk6 kk7 kk8 kk9 kk10 kk11 kk12 kk13 kk14 kk15 kk16 kk17 HA1 HA2 x0 x1 x2 x3 x4 x5 x6 x7 y0 y1 y2 y3 y4 y5 y6 y7 c7 c0
        have HB2 : Hid (Below w.heap.size w s.w) := HB5.out
        generalize s.w = W2 at *
        clear HB HB5 s
        have HB := HB2
        clear HB2
        have x0 := zx0
        have x1 := zx1
        have x2 := zx2
        have x3 := zx3
        have x4 := zx4
        have x5 := zx5
        have x6 := zx6
        have x7 := zx7
        have y0 := zy0
        have y1 := zy1
        have y2 := zy2
        have y3 := zy3
        have y4 := zy4
        have y5 := zy5
        have y6 := zy6
        have y7 := zy7
        have c7 := zc7
        have c0 := zc0
        clear zx0 zx1 zx2 zx3 zx4 zx5 zx6 zx7 zy0 zy1 zy2 zy3 zy4 zy5 zy6 zy7 zc7 zc0
        have HB5 : Hid (Below w.heap.size w W2) := HB.out
        by_cases h2 : lx < (k : Int)
        · have hd : decide (lx < (k : Int)) = true := decide_eq_true h2
          have HE : Hid (r = true) := by
            have : r = true := by rw [HR.out,decide_eq_true H1.out,decide_eq_true h2]; rfl
            exact this
          go_wp2_with fail
          go_ret
          exact ⟨ret_b HE.out.symm,HB5.out⟩
        · have hd : decide (lx < (k : Int)) = false := decide_eq_false h2
          have HA3 : Hid (∀ s : Kept W2.heap.size W2,Calls Tryz.prog 40 #[.agg #[.slice na x.nodes.length nc,.slice ra x.reads.length rc,.int .i64 x.box.x0,.int .i64 x.box.y0,.int .i64 x.box.x1,.int .i64 x.box.y1,.int .i64 x.slot,.int .i64 lx]] s.w (PPost s.w (.int .i64 (rz : Nat)))) := fun s => HRX.out s.w (HB.out.trans (s.below.mono HB.out.size))
          have HA4 : Hid (∀ s : Kept W2.heap.size W2,Calls Tryz.prog 50 #[.slice ra' y.reads.length rc',.int .i64 (rz : Nat)] s.w (PPost s.w (.bool ct))) := fun s => HCT.out s.w (HB.out.trans (s.below.mono HB.out.size))
          have HA5 : Hid (∀ s : Kept W2.heap.size W2,Calls Tryz.prog 36 #[.pointer (some ⟨q,0,none⟩),.agg #[.slice na' y.nodes.length nc',.slice ra' y.reads.length rc',.int .i64 y.box.x0,.int .i64 y.box.y0,.int .i64 y.box.x1,.int .i64 y.box.y1,.int .i64 y.slot,.int .i64 y.last]] s.w (PPost s.w (.bool bp))) := fun s => HBY.out s.w (HB.out.trans (s.below.mono HB.out.size))
          have kk0 := fun s : Kept W2.heap.size W2 => s.at x0
          have kk1 := fun s : Kept W2.heap.size W2 => s.at x1
          have kk2 := fun s : Kept W2.heap.size W2 => s.at x2
          have kk3 := fun s : Kept W2.heap.size W2 => s.at x3
          have kk4 := fun s : Kept W2.heap.size W2 => s.at x4
          have kk5 := fun s : Kept W2.heap.size W2 => s.at x5
          have kk6 := fun s : Kept W2.heap.size W2 => s.at x6
          have kk7 := fun s : Kept W2.heap.size W2 => s.at x7
          have kk8 := fun s : Kept W2.heap.size W2 => s.at y0
          have kk9 := fun s : Kept W2.heap.size W2 => s.at y1
          have kk10 := fun s : Kept W2.heap.size W2 => s.at y2
          have kk11 := fun s : Kept W2.heap.size W2 => s.at y3
          have kk12 := fun s : Kept W2.heap.size W2 => s.at y4
          have kk13 := fun s : Kept W2.heap.size W2 => s.at y5
          have kk14 := fun s : Kept W2.heap.size W2 => s.at y6
          have kk15 := fun s : Kept W2.heap.size W2 => s.at y7
          have kk16 := fun s : Kept W2.heap.size W2 => s.at c7
          have kk17 := fun s : Kept W2.heap.size W2 => s.at c0
          by_cases h3 : lx = (k : Int)
          · have h3b : (lx == (k : Int)) = true := beq_iff_eq.2 h3
            have H3 : Hid (lx = (k : Int)) := h3
            clear h3
            cases be with
            | false =>
              have HE : Hid (r = false) := by
                have : r = false := by rw [HR.out,decide_eq_true H1.out,decide_eq_false h2,decide_eq_true H3.out]; rfl
                exact this
              go_wp2_with fail
              refine wp_region_kept W2.heap.size (by kernel_rfl) (by kernel_rfl) ?_
              repeat (go_big_quiet_step (first | (go_at_call 40; with_reducible exact Calls.kept _ (Nat.le_refl _) (HA3.out _)) | (go_at_call 50; with_reducible exact Calls.kept _ (Nat.le_refl _) (HA4.out _)) | (go_at_call 36; with_reducible exact Calls.kept _ (Nat.le_refl _) (HA5.out _))))
              refine wpQuiet_nil ?_
              rintro _ ⟨s,rfl⟩
              have HB5 : Hid (Below w.heap.size w s.w) := HB.out.trans (s.below.mono HB.out.size)
              clear kk0 kk1 kk2 kk3 kk4 kk5 kk6 kk7 kk8 kk9 kk10 kk11 kk12 kk13 kk14 kk15 kk16 kk17 HA3 HA4 HA5
              go_wp2_with fail
              go_ret
              exact ⟨ret_b HE.out.symm,HB5.out⟩
            | true =>
              cases ct with
              | false =>
                have HE : Hid (r = false) := by
                  have : r = false := by rw [HR.out,decide_eq_true H1.out,decide_eq_false h2,decide_eq_true H3.out]; rfl
                  exact this
                go_wp2_with fail
                refine wp_region_kept W2.heap.size (by kernel_rfl) (by kernel_rfl) ?_
                repeat (go_big_quiet_step (first | (go_at_call 40; with_reducible exact Calls.kept _ (Nat.le_refl _) (HA3.out _)) | (go_at_call 50; with_reducible exact Calls.kept _ (Nat.le_refl _) (HA4.out _)) | (go_at_call 36; with_reducible exact Calls.kept _ (Nat.le_refl _) (HA5.out _))))
                refine wpQuiet_nil ?_
                rintro _ ⟨s,rfl⟩
                have HB5 : Hid (Below w.heap.size w s.w) := HB.out.trans (s.below.mono HB.out.size)
                clear kk0 kk1 kk2 kk3 kk4 kk5 kk6 kk7 kk8 kk9 kk10 kk11 kk12 kk13 kk14 kk15 kk16 kk17 HA3 HA4 HA5
                go_wp2_with fail
                go_ret
                exact ⟨ret_b HE.out.symm,HB5.out⟩
              | true =>
                have HE : Hid (r = bp) := by
                  have : r = bp := by rw [HR.out,decide_eq_true H1.out,decide_eq_false h2,decide_eq_true H3.out]; simp
                  exact this
                go_wp2_with fail
                refine wp_region_kept W2.heap.size (by kernel_rfl) (by kernel_rfl) ?_
                repeat (go_big_quiet_step (first | (go_at_call 40; with_reducible exact Calls.kept _ (Nat.le_refl _) (HA3.out _)) | (go_at_call 50; with_reducible exact Calls.kept _ (Nat.le_refl _) (HA4.out _)) | (go_at_call 36; with_reducible exact Calls.kept _ (Nat.le_refl _) (HA5.out _))))
                refine wpQuiet_nil ?_
                rintro _ ⟨s,rfl⟩
                have HB5 : Hid (Below w.heap.size w s.w) := HB.out.trans (s.below.mono HB.out.size)
                clear kk0 kk1 kk2 kk3 kk4 kk5 kk6 kk7 kk8 kk9 kk10 kk11 kk12 kk13 kk14 kk15 kk16 kk17 HA3 HA4 HA5
                go_wp2_with fail
                go_ret
                exact ⟨ret_b HE.out.symm,HB5.out⟩
          · have h3b : (lx == (k : Int)) = false := beq_eq_false_iff_ne.2 h3
            have H3 : Hid (¬ lx = (k : Int)) := h3
            clear h3
            have HE : Hid (r = false) := by
              have : r = false := by rw [HR.out,decide_eq_true H1.out,decide_eq_false h2,decide_eq_false H3.out]; rfl
              exact this
            go_wp2_with fail
            refine wp_region_kept W2.heap.size (by kernel_rfl) (by kernel_rfl) ?_
            repeat (go_big_quiet_step (first | (go_at_call 40; with_reducible exact Calls.kept _ (Nat.le_refl _) (HA3.out _)) | (go_at_call 50; with_reducible exact Calls.kept _ (Nat.le_refl _) (HA4.out _)) | (go_at_call 36; with_reducible exact Calls.kept _ (Nat.le_refl _) (HA5.out _))))
            refine wpQuiet_nil ?_
            rintro _ ⟨s,rfl⟩
            have HB5 : Hid (Below w.heap.size w s.w) := HB.out.trans (s.below.mono HB.out.size)
            clear kk0 kk1 kk2 kk3 kk4 kk5 kk6 kk7 kk8 kk9 kk10 kk11 kk12 kk13 kk14 kk15 kk16 kk17 HA3 HA4 HA5
            go_wp2_with fail
            go_ret
            exact ⟨ret_b HE.out.symm,HB5.out⟩
      · have h1b : (zx == zy) = false := beq_eq_false_iff_ne.2 h1
        have HE : Hid (r = false) := by
          have : r = false := by rw [HR.out,decide_eq_false h1]; rfl
          exact this
        go_wp2_with fail
        refine wp_region_kept W.heap.size (by kernel_rfl) (by kernel_rfl) ?_
        repeat (go_big_quiet_step (first | (go_at_call 41; with_reducible exact Calls.kept _ (Nat.le_refl _) (HA1.out _)) | (go_at_call 41; with_reducible exact Calls.kept _ (Nat.le_refl _) (HA2.out _))))
        refine wpQuiet_nil ?_
        rintro _ ⟨s,rfl⟩
        have HB5 : Hid (Below w.heap.size w s.w) := HB.out.trans (s.below.mono HB.out.size)
        clear kk0 kk1 kk2 kk3 kk4 kk5 kk6 kk7 kk8 kk9 kk10 kk11 kk12 kk13 kk14 kk15 kk16 kk17 HA1 HA2
        go_wp2_with fail
        go_ret
        exact ⟨ret_b HE.out.symm,HB5.out⟩
end Go.Proofs.YtaoamkbcegadcaaGreatDoor
