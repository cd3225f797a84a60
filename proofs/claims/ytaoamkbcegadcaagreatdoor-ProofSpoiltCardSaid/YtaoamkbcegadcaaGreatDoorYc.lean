/- Texts joined: XYc XYd. -/
import Derived.Test.YtaoamkbcegadcaaGreatDoorPs
import Derived.Test.YtaoamkbcegadcaaGreatDoorAg
set_option maxRecDepth 4000
/- Layer 19: a pass's size, its last node, whether it goes point by point. -/
namespace Go.Proofs.YtaoamkbcegadcaaGreatDoor
open Go.RowKit Go.Bx Go.Od Go.Hp
attribute [local go_sem ↓] Go.wp_at_zero Go.wp_at_succ
set_option linter.unusedVariables false

abbrev pvl (na : Option Addr) (nn nc : Nat) (ra : Option Addr) (rn rc : Nat) (p : Ps) : Value := .agg #[.slice na nn nc,.slice ra rn rc,.int .i64 p.box.x0,.int .i64 p.box.y0,.int .i64 p.box.x1,.int .i64 p.box.y1,.int .i64 p.slot,.int .i64 p.last]
abbrev pcv (na : Option Addr) (nn nc : Nat) (ra : Option Addr) (rn rc : Nat) (p : Ps) : Array Value := #[.slice na nn nc,.slice ra rn rc,.int .i64 p.box.x0,.int .i64 p.box.y0,.int .i64 p.box.x1,.int .i64 p.box.y1,.int .i64 p.slot,.int .i64 p.last]
set_option maxHeartbeats 1600000 in
theorem size_c (na : Option Addr) (nn nc : Nat) (ra : Option Addr) (rn rc : Nat) (p : Ps) (w : World) (hr : RcP p.box) :
    Calls Tryz.prog 31 #[pvl na nn nc ra rn rc p] w (PPost w (.int .i64 (szP p))) := by
  obtain ⟨nodes,reads,⟨x0,y0,x1,y1⟩,sl,la⟩ := p
  have HR : Hid (RcP ⟨x0,y0,x1,y1⟩) := hr
  have hb1 := below_new w (.cells (pcv na nn nc ra rn rc ⟨nodes,reads,⟨x0,y0,x1,y1⟩,sl,la⟩) 37)
  clear hr
  go_enter Tryz.func31,Tryz.ntmps31
  go_wp2_with fail
  refine (area_c ⟨x0,y0,x1,y1⟩ _ HR.out).mono ?_; rintro e w2 ⟨rfl,hb2⟩
  have HB : Hid (Below w.heap.size w w2) := hb1.trans (hb2.mono hb1.size)
  have hbd := areaR_bd _ HR.out
  obtain ⟨a,ha⟩ : ∃ a,a = areaR ⟨x0,y0,x1,y1⟩ := ⟨_,rfl⟩
  have HA : Hid (szP ⟨nodes,reads,⟨x0,y0,x1,y1⟩,sl,la⟩ = sz a) := by
    have : szP ⟨nodes,reads,⟨x0,y0,x1,y1⟩,sl,la⟩ = sz a := by rw [ha]; rfl
    exact this
  rw [← ha] at hbd ⊢
  clear hb1 hb2 ha
  go_wp2_with fail
  refine (psize_c a w2 (by omega) (by omega)).mono ?_; rintro e w3 ⟨rfl,rfl⟩
  go_wp2_with fail
  go_ret
  exact ⟨by rw [HA.out]; rfl,HB.out⟩
set_option maxHeartbeats 1600000 in
theorem result_c {F : Nat → Prop} (na : Option Addr) (nn nc : Nat) (ra : Option Addr) (rn rc : Nat) (p : Ps) (w : World) (hn : nn = p.nodes.length) (h0 : 0 < nn) (hs : SlOf RInt 1 F w (.slice na nn nc) (ofN p.nodes)) :
    Calls Tryz.prog 77 #[pvl na nn nc ra rn rc p] w (PPost w (.int .i64 (resP p : Nat))) := by
  obtain ⟨nodes,reads,⟨x0,y0,x1,y1⟩,sl,la⟩ := p
  dsimp only at hn hs
  obtain ⟨m,rfl⟩ : ∃ m,nn = m + 1 := ⟨nn - 1,by omega⟩
  have hle : m + 1 ≤ maxLen := by
    obtain ⟨_,c,hv,h1,h2,_⟩ := hs
    simp only [Value.slice.injEq] at hv
    rw [ofN_len] at h1
    omega
  unfold maxLen at hle
  obtain ⟨b,o,rfl,hc⟩ := sl_lastS hs (by rw [ofN_len]; exact hn.symm)
  rw [lstI_ofN] at hc
  have hb1 := below_new w (.cells (pcv (some ⟨b,o,none⟩) (m + 1) nc ra rn rc ⟨nodes,reads,⟨x0,y0,x1,y1⟩,sl,la⟩) 37)
  have c1 := cell_alloc_lt hc (.cells (pcv (some ⟨b,o,none⟩) (m + 1) nc ra rn rc ⟨nodes,reads,⟨x0,y0,x1,y1⟩,sl,la⟩) 37)
  obtain ⟨z,hz⟩ : ∃ z,z = lastN nodes := ⟨_,rfl⟩
  have HZ : Hid (resP ⟨nodes,reads,⟨x0,y0,x1,y1⟩,sl,la⟩ = z) := by
    have : resP ⟨nodes,reads,⟨x0,y0,x1,y1⟩,sl,la⟩ = z := by rw [hz]; rfl
    exact this
  rw [← hz] at c1
  have HB : Hid _ := hb1
  clear hn hs hc hz hb1 h0
  go_enter Tryz.func77,Tryz.ntmps77
  go_wp2_with fail
  go_ret
  exact ⟨by rw [HZ.out]; rfl,HB.out⟩
/-! ### functions handed over -/
theorem fIdx_none {α : Type} {f : α → Bool} {l : List α} (h : ∀ x ∈ l,f x = false) : fIdx f l = -1 := by
  have : l.findIdx? f = none := List.findIdx?_eq_none_iff.2 h
  simp [fIdx,this]
theorem fIdx_some {α : Type} {f : α → Bool} {l : List α} {k : Nat} (hk : k < l.length) (h : f l[k] = true) (hb : ∀ j (hj : j < k),f (l[j]'(by omega)) = false) : fIdx f l = k := by
  have : l.findIdx? f = some k := by
    rw [List.findIdx?_eq_some_iff_getElem]
    exact ⟨hk,h,fun j hj => by have := hb j hj; simpa using this⟩
  simp [fIdx,this]
set_option maxHeartbeats 1600000 in
theorem idxI_c {F : Nat → Prop} (g : Nat) (lb : Array Value) (p : Int → Bool) (v : Value) (xs : List Int) (w : World) (eg : ∀ args w,(callFunc g args).run Tryz.prog w = .ok (.enter g args) w) (hs : SlOf RInt 1 F w v xs)
    (hp : ∀ W x,Below w.heap.size w W → x ∈ xs → Calls Tryz.prog g (#[.int .i64 x] ++ lb) W (PPost W (.bool (p x)))) :
    Calls Tryz.prog 79 #[v,.func (.func g) #[] lb] w (PPost w (.int .i64 (fIdx p xs))) := by
  obtain ⟨a,cap,rfl,hcap,hcm,hin,hcell⟩ := hs.ints
  unfold maxLen at hcm
  have HC : Hid (∀ j,j < xs.length → ∃ b o,a = some ⟨b,o,none⟩ ∧ w.cell? ⟨b,o + j,none⟩ = some (.int .i64 (xs.getD j 0))) := fun j hj => by
    obtain ⟨b',o',h1,h2,h3⟩ := hcell j hj
    exact ⟨b',o',h1,h3 j hj⟩
  have HP : Hid (∀ W x,Below w.heap.size w W → x ∈ xs → Calls Tryz.prog g (#[.int .i64 x] ++ lb) W (PPost W (.bool (p x)))) := hp
  clear hs hin hcell hp
  go_enter Tryz.func79,Tryz.ntmps79
  go_wp2_with fail
  go_loopw [8] (fun jv wr => ∃ j : Nat,j ≤ xs.length ∧ jv = .int .i64 j ∧ Hid (∀ q,q < j → p (xs.getD q 0) = false) ∧ Below w.heap.size w wr) (fun jv _ => xs.length - (intOf jv).toNat)
  case atStart => exact ⟨0,by omega,rfl,(fun j hj => by omega),Below.refl _ _⟩
  case round =>
    obtain ⟨j,hj,rfl,hall,hb⟩ := hrel
    have HB : Hid (Below w.heap.size w wr) := hb
    by_cases h1 : j < xs.length
    · obtain ⟨b',o',rfl,hc0⟩ := HC.out j h1
      have hc := (hb.cell (lt_of_cell hc0)).trans hc0
      obtain ⟨z,hz⟩ : ∃ z,z = xs.getD j 0 := ⟨_,rfl⟩
      rw [← hz] at hc
      have HZ : Hid (z = xs.getD j 0) := hz
      have hm : z ∈ xs := by rw [hz]; simp [h1]
      have hcall := HP.out wr z hb hm
      obtain ⟨q,hq⟩ : ∃ q,q = p z := ⟨_,rfl⟩
      rw [← hq] at hcall
      have HQ : Hid (q = p z) := hq
      have hj0 : (0 : Int) ≤ (j : Int) := by omega
      have hj1 : (j : Int) < (xs.length : Int) := by omega
      clear hz hc0 hq hb hm
      cases q with
      | true =>
        have HE : Hid (fIdx p xs = j) := by
          have : fIdx p xs = j := fIdx_some h1 (by rw [← show z = xs[j] by rw [HZ.out]; simp [h1]]; exact HQ.out.symm) fun i hi => by
            have := hall.out i hi
            simpa [show i < xs.length by omega] using this
          exact this
        go_wp2_with (go_at_fn g; refine hcall.mono ?_; rintro e w5 ⟨rfl,hb5⟩)
        go_ret
        exact ⟨by rw [HE.out]; rfl,HB.out.trans (hb5.mono HB.out.size)⟩
      | false =>
        have HA : Hid (∀ q,q < j + 1 → p (xs.getD q 0) = false) := fun q hq => by
          by_cases e : q = j
          · subst e; rw [← HZ.out]; exact HQ.out.symm
          · exact hall.out q (by omega)
        go_wp2_with (go_at_fn g; refine hcall.mono ?_; rintro e w5 ⟨rfl,hb5⟩)
        go_roundw
        case rel => exact ⟨j + 1,by omega,by go_num,HA,HB.out.trans (hb5.mono HB.out.size)⟩
        case measure => simp [intOf]; omega
    · have ej : j = xs.length := by omega
      subst ej
      have HE : Hid (fIdx p xs = -1) := by
        have : fIdx p xs = -1 := fIdx_none fun x hx => by
          obtain ⟨i,hi,rfl⟩ := List.mem_iff_getElem.1 hx
          have := hall.out i hi
          simpa [hi] using this
        exact this
      clear hb
      go_wp2_with fail
      go_ret
      exact ⟨by rw [HE.out]; rfl,HB.out⟩
end Go.Proofs.YtaoamkbcegadcaaGreatDoor
/- Layer 19: whether a pass goes point by point. -/
namespace Go.Proofs.YtaoamkbcegadcaaGreatDoor
open Go.RowKit Go.Bx Go.Od Go.Hp
attribute [local go_sem ↓] Go.wp_at_zero Go.wp_at_succ
set_option linter.unusedVariables false

theorem fIdx_any {α : Type} (f : α → Bool) (l : List α) : decide (0 ≤ fIdx f l) = l.any f := by
  rw [Bool.eq_iff_iff,decide_eq_true_eq,List.any_eq_true]
  unfold fIdx
  cases h : l.findIdx? f with
  | none =>
    rw [List.findIdx?_eq_none_iff] at h
    constructor
    · intro h'; exact absurd h' (by decide)
    · rintro ⟨x,hx,hf⟩; have := h x hx; rw [this] at hf; cases hf
  | some k =>
    rw [List.findIdx?_eq_some_iff_getElem] at h
    obtain ⟨hk,hf,_⟩ := h
    exact ⟨fun _ => ⟨_,List.getElem_mem hk,hf⟩,fun _ => by simp⟩
theorem fIdx_lt {α : Type} (f : α → Bool) (l : List α) : fIdx f l < l.length ∧ (-1 ≤ fIdx f l) := by
  unfold fIdx
  cases h : l.findIdx? f with
  | none => simp; omega
  | some k =>
    rw [List.findIdx?_eq_some_iff_getElem] at h
    obtain ⟨hk,_⟩ := h
    simp
    omega
set_option maxHeartbeats 1600000 in
theorem containsI_c {F : Nat → Prop} (g : Nat) (lb : Array Value) (p : Int → Bool) (v : Value) (xs : List Int) (w : World) (eg : ∀ args w,(callFunc g args).run Tryz.prog w = .ok (.enter g args) w) (hs : SlOf RInt 1 F w v xs)
    (hp : ∀ W x,Below w.heap.size w W → x ∈ xs → Calls Tryz.prog g (#[.int .i64 x] ++ lb) W (PPost W (.bool (p x)))) :
    Calls Tryz.prog 59 #[v,.func (.func g) #[] lb] w (PPost w (.bool (xs.any p))) := by
  have hc := idxI_c g lb p v xs w eg hs hp
  have he := fIdx_any p xs
  obtain ⟨a,c,rfl,_⟩ := hs
  obtain ⟨k,hk⟩ : ∃ k,k = fIdx p xs := ⟨_,rfl⟩
  have HE : Hid (decide (0 ≤ k) = xs.any p) := by rw [hk]; exact he
  rw [← hk] at hc
  clear hp he hk eg
  go_enter Tryz.func59,Tryz.ntmps59
  go_wp2_with fail
  refine hc.mono ?_; rintro e w2 ⟨rfl,hb2⟩
  clear hc
  go_wp2_with fail
  go_ret
  exact ⟨ret_b HE.out,hb2⟩
def npt (nds : List Nd) (x : Int) : Bool := !byPt (nds.getD x.toNat Nd.none).op
set_option maxHeartbeats 1600000 in
theorem npt_c (B M mb : Nat) (nv : Value) (nds : List Nd) (k : Nat) (w : World) (hk : k < nds.length) (hm : nds.length ≤ 1000) (h1 : w.cell? ⟨mb,0,none⟩ = some (.pointer (some ⟨M,0,none⟩))) (h2 : w.cell? ⟨M,0,none⟩ = some nv) (hg : Gr B w nv nds) :
    Calls Tryz.prog 97 #[.int .i64 k,.pointer (some ⟨mb,0,none⟩)] w (PPost w (.bool (npt nds k))) := by
  obtain ⟨b,o,cap,ia,ic,pa,pc,rfl,hbB,hcap,hcm,k0,k1,k2,s1,s2⟩ := hg.node hk
  obtain ⟨op,hop⟩ : ∃ op,op = (nds.getD k Nd.none).op := ⟨_,rfl⟩
  rw [← hop] at k0
  have HE : Hid (npt nds k = !byPt op) := by
    have : npt nds k = !byPt op := by unfold npt; rw [Int.toNat_natCast,hop]
    exact this
  have hk0 : (0 : Int) ≤ (k : Int) := by omega
  have hk1 : (k : Int) < (nds.length : Int) := by omega
  clear hg s1 s2 k1 k2 hop hcm
  go_enter Tryz.func97,Tryz.ntmps97
  go_wp2_with fail
  refine (bypoint_c op w).mono ?_; rintro e w2 ⟨rfl,rfl⟩
  go_wp2_with fail
  go_ret
  exact ⟨ret_b HE.out.symm,Below.refl _ _⟩
theorem npt_any (nds : List Nd) (p : Ps) : (!(ofN p.nodes).any (npt nds)) = byP nds p := by
  unfold byP ofN npt
  rw [List.any_map]
  induction p.nodes with
  | nil => rfl
  | cons x l ih =>
    simp only [List.any_cons,List.all_cons,Function.comp,Int.toNat_natCast,Bool.not_or,Bool.not_not]
    rw [← ih]
set_option maxHeartbeats 1600000 in
theorem byp_c (B M : Nat) (nv : Value) (nds : List Nd) (na : Option Addr) (nn nc : Nat) (ra : Option Addr) (rn rc : Nat) (p : Ps) (w : World) (hM : M < w.heap.size) (hm : nds.length ≤ 1000) (h2 : w.cell? ⟨M,0,none⟩ = some nv) (hg : Gr B w nv nds) (hB : B ≤ w.heap.size) (hs : SlOf RInt 1 (· < B) w (.slice na nn nc) (ofN p.nodes)) (hk : ∀ k ∈ p.nodes,k < nds.length) :
    Calls Tryz.prog 75 #[.pointer (some ⟨M,0,none⟩),pvl na nn nc ra rn rc p] w (PPost w (.bool (byP nds p))) := by
  have hE := npt_any nds p
  obtain ⟨nodes,reads,⟨x0,y0,x1,y1⟩,sl,la⟩ := p
  have X := Box.new w [.pointer (some ⟨M,0,none⟩)] 48
  have hb1 := below_new w (.cells #[.pointer (some ⟨M,0,none⟩)] 48)
  have X2 := X.alloc (.cells (pcv na nn nc ra rn rc ⟨nodes,reads,⟨x0,y0,x1,y1⟩,sl,la⟩) 37)
  have hb2 := hb1.alloc hb1.size (.cells (pcv na nn nc ra rn rc ⟨nodes,reads,⟨x0,y0,x1,y1⟩,sl,la⟩) 37)
  have hcon := containsI_c (F := (· < B)) 97 #[.pointer (some ⟨w.heap.size,0,none⟩)] (npt nds) (.slice na nn nc) (ofN nodes) ((w.alloc (.cells #[.pointer (some ⟨M,0,none⟩)] 48)).alloc (.cells (pcv na nn nc ra rn rc ⟨nodes,reads,⟨x0,y0,x1,y1⟩,sl,la⟩) 37)) (enters_of Tryz.func97 (by kernel_rfl) rfl) (sl_below hs (hb2.mono hB)) (fun W x hW hx => by
    obtain ⟨k,hkm,rfl⟩ := List.mem_map.1 hx
    have hbw : Below w.heap.size w W := hb2.trans (hW.mono hb2.size)
    exact npt_c B M w.heap.size nv nds k W (hk k hkm) hm ((X2.call hW).cell 0 rfl) ((hbw.cell hM).trans h2) (hg.below hbw hB))
  have HB : Hid (Below w.heap.size w ((w.alloc (.cells #[.pointer (some ⟨M,0,none⟩)] 48)).alloc (.cells (pcv na nn nc ra rn rc ⟨nodes,reads,⟨x0,y0,x1,y1⟩,sl,la⟩) 37))) := hb2
  have HC : Hid _ := hcon
  obtain ⟨q,hq⟩ : ∃ q,q = (ofN nodes).any (npt nds) := ⟨_,rfl⟩
  rw [← hq] at hcon
  have HE : Hid ((!q) = byP nds ⟨nodes,reads,⟨x0,y0,x1,y1⟩,sl,la⟩) := by rw [hq]; exact hE
  clear X X2 hb1 hb2 hs hk hg h2 hq hE HC
  go_enter Tryz.func75,Tryz.ntmps75
  go_wp2_with fail
  refine hcon.mono ?_; rintro e w2 ⟨rfl,hb3⟩
  have HE2 : Hid (Below w.heap.size w w2) := HB.out.trans (hb3.mono HB.out.size)
  clear hcon hb3
  go_wp2_with fail
  go_ret
  exact ⟨ret_b HE.out,HE2.out⟩
end Go.Proofs.YtaoamkbcegadcaaGreatDoor
