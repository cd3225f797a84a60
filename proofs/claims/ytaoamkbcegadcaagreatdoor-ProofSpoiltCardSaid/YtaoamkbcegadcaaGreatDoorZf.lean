/- Texts joined: XZf XZg. -/
import Derived.Test.YtaoamkbcegadcaaGreatDoorZa
import Derived.Test.YtaoamkbcegadcaaGreatDoorZe
set_option maxRecDepth 4000
/- Layer 20: slices.Index, slices.Equal of ints. -/
namespace Go.Proofs.YtaoamkbcegadcaaGreatDoor
open Go.RowKit Go.Bx Go.Od Go.Hp
attribute [local go_sem ↓] Go.wp_at_zero Go.wp_at_succ
set_option linter.unusedVariables false

set_option maxHeartbeats 1600000 in
theorem equalS_c {F G : Nat → Prop} (av bv : Value) (xs ys : List Int) (w : World) (h1 : SlOf RInt 1 F w av xs) (h2 : SlOf RInt 1 G w bv ys) :
    Calls Tryz.prog 38 #[av,bv] w (PPost w (.bool (decide (xs = ys)))) := by
  obtain ⟨a,cap,rfl,hcap,hcm,hin,hcell⟩ := h1.ints
  obtain ⟨a2,cap2,rfl,hcap2,hcm2,hin2,hcell2⟩ := h2.ints
  unfold maxLen at hcm hcm2
  by_cases hl : xs.length = ys.length
  · have HC : Hid (∀ j,j < xs.length → ∃ b o b2 o2,a = some ⟨b,o,none⟩ ∧ a2 = some ⟨b2,o2,none⟩ ∧ w.cell? ⟨b,o + j,none⟩ = some (.int .i64 (xs.getD j 0)) ∧ w.cell? ⟨b2,o2 + j,none⟩ = some (.int .i64 (ys.getD j 0))) := fun j hj => by
      obtain ⟨b,o,e,_,e2⟩ := hcell j hj
      obtain ⟨b',o',e3,_,e4⟩ := hcell2 j (by omega)
      exact ⟨b,o,b',o',e,e3,e2 j hj,e4 j (by omega)⟩
    have HL : Hid (xs.length = ys.length) := hl
    rw [← hl]
    clear hcell hcell2 hin hin2 h1 h2 hl
    go_enter Tryz.func38,Tryz.ntmps38
    go_wp2_with fail
    go_loopw [13] (fun jv wr => ∃ j : Nat,j ≤ xs.length ∧ jv = .int .i64 j ∧ Hid (∀ q,q < j → xs.getD q 0 = ys.getD q 0) ∧ Below w.heap.size w wr) (fun jv _ => xs.length - (intOf jv).toNat)
    case atStart => exact ⟨0,by omega,rfl,(fun j hj => by omega),Below.refl _ _⟩
    case round =>
      obtain ⟨j,hj,rfl,hall,hbel⟩ := hrel
      by_cases hjl : j < xs.length
      · obtain ⟨b,o,b2,o2,rfl,rfl,e1,e2⟩ := HC.out j hjl
        have d1 := (hbel.cell (lt_of_cell e1)).trans e1
        have d2 := (hbel.cell (lt_of_cell e2)).trans e2
        obtain ⟨z,hz⟩ : ∃ z,z = xs.getD j 0 := ⟨_,rfl⟩
        obtain ⟨y,hy⟩ : ∃ y,y = ys.getD j 0 := ⟨_,rfl⟩
        rw [← hz] at d1
        rw [← hy] at d2
        have HZ : Hid (z = xs.getD j 0 ∧ y = ys.getD j 0) := ⟨hz,hy⟩
        have HB : Hid (Below w.heap.size w wr) := hbel
        clear hz hy e1 e2 hbel
        have hj0 : (0 : Int) ≤ (j : Int) := by omega
        have hj1 : (j : Int) < (xs.length : Int) := by omega
        by_cases h2 : z = y
        · have h3 : (z == y) = true := by simp [h2]
          have H5 : Hid (∀ q,q < j + 1 → xs.getD q 0 = ys.getD q 0) := fun q hq => by
            by_cases e : q = j
            · subst e; rw [← HZ.out.1,← HZ.out.2]; exact h2
            · exact hall.out q (by omega)
          clear h2
          go_wp2_with fail
          go_quiet (fail)
          go_wp2_with fail
          go_roundw
          case rel => exact ⟨j + 1,by omega,by go_num,H5,below_drewN HB.out _⟩
          case measure => simp [intOf]; omega
        · have h3 : (z == y) = false := by simp [h2]
          have HE : Hid (decide (xs = ys) = false) := decide_eq_false fun e => h2 (by rw [HZ.out.1,HZ.out.2,e])
          clear h2
          go_wp2_with fail
          go_quiet (fail)
          go_wp2_with fail
          go_ret
          exact ⟨ret_b HE.out.symm,below_drewN HB.out _⟩
      · have ej : j = xs.length := by omega
        subst ej
        have HE : Hid (decide (xs = ys) = true) := by
          refine decide_eq_true (List.ext_getElem HL.out fun q hq hq2 => ?_)
          have := hall.out q hq
          simpa [hq,hq2] using this
        go_wp2_with fail
        go_ret
        exact ⟨ret_b HE.out.symm,hbel⟩
  · have HE : Hid (decide (xs = ys) = false) := decide_eq_false fun e => hl (by rw [e])
    have h3 : ((xs.length : Int) == (ys.length : Int)) = false := by simp; omega
    clear hcell hcell2 hin hin2 h1 h2
    go_enter Tryz.func38,Tryz.ntmps38
    go_wp2_with fail
    go_ret
    exact ⟨ret_b HE.out.symm,Below.refl _ _⟩
set_option maxHeartbeats 1600000 in
theorem idxV_c {F : Nat → Prop} (k : Int) (v : Value) (xs : List Int) (w : World) (hs : SlOf RInt 1 F w v xs) :
    Calls Tryz.prog 62 #[v,.int .i64 k] w (PPost w (.int .i64 (fIdx (fun y => y == k) xs))) := by
  obtain ⟨a,cap,rfl,hcap,hcm,hin,hcell⟩ := hs.ints
  unfold maxLen at hcm
  have HC : Hid (∀ j,j < xs.length → ∃ b o,a = some ⟨b,o,none⟩ ∧ w.cell? ⟨b,o + j,none⟩ = some (.int .i64 (xs.getD j 0))) := fun j hj => by
    obtain ⟨b',o',h1,h2,h3⟩ := hcell j hj
    exact ⟨b',o',h1,h3 j hj⟩
  clear hs hin hcell
  obtain ⟨L,hL⟩ : ∃ L,L = xs.length := ⟨_,rfl⟩
  have HL : Hid (L = xs.length) := hL
  rw [← hL] at hcap HC ⊢
  obtain ⟨A,hA⟩ : ∃ A,A = fIdx (fun y => y == k) xs := ⟨_,rfl⟩
  have HA : Hid (A = fIdx (fun y => y == k) xs) := hA
  rw [← hA]
  clear hL hA
  go_enter Tryz.func62,Tryz.ntmps62
  go_wp2_with fail
  go_loopw [8] (fun jv wr => ∃ j : Nat,j ≤ L ∧ jv = .int .i64 j ∧ Hid (∀ q,q < j → (xs.getD q 0 == k) = false) ∧ Below w.heap.size w wr) (fun jv _ => L - (intOf jv).toNat)
  case atStart => exact ⟨0,by omega,rfl,(fun j hj => by omega),Below.refl _ _⟩
  case round =>
    obtain ⟨j,hj,rfl,hall,hb⟩ := hrel
    have HB : Hid (Below w.heap.size w wr) := hb
    by_cases h1 : j < L
    · obtain ⟨b',o',rfl,hc0⟩ := HC.out j h1
      have hc := (hb.cell (lt_of_cell hc0)).trans hc0
      obtain ⟨z,hz⟩ : ∃ z,z = xs.getD j 0 := ⟨_,rfl⟩
      rw [← hz] at hc
      have HZ : Hid (z = xs.getD j 0) := hz
      have hj0 : (0 : Int) ≤ (j : Int) := by omega
      have hj1 : (j : Int) < (L : Int) := by omega
      clear hz hc0 hb
      cases hq : (z == k) with
      | true =>
        have HE : Hid (A = j) := by
          have : A = j := by
            rw [HA.out]
            have hx : j < xs.length := by rw [← HL.out]; exact h1
            exact fIdx_some hx (by rw [← show z = xs[j] by rw [HZ.out]; simp [hx]]; exact hq) fun i hi => by
              have := hall.out i hi
              simpa [show i < xs.length by omega] using this
          exact this
        have e : k = z := (eq_of_beq hq).symm
        subst e
        clear hq
        go_wp2_with fail
        go_ret
        exact ⟨by rw [HE.out]; rfl,HB.out⟩
      | false =>
        have HA : Hid (∀ q,q < j + 1 → (xs.getD q 0 == k) = false) := fun q hq' => by
          by_cases e : q = j
          · subst e; rw [← HZ.out]; exact hq
          · exact hall.out q (by omega)
        have hq2 : (k == z) = false := by
          rw [beq_eq_false_iff_ne] at hq ⊢
          exact fun e => hq e.symm
        clear hq
        go_wp2_with fail
        go_roundw
        case rel => exact ⟨j + 1,by omega,by go_num,HA,HB.out⟩
        case measure => simp [intOf]; omega
    · have ej : j = L := by omega
      subst ej
      have HE : Hid (A = -1) := by
        have : A = -1 := by
          rw [HA.out]
          exact fIdx_none fun x hx => by
            obtain ⟨i,hi,rfl⟩ := List.mem_iff_getElem.1 hx
            have := hall.out i (by rw [HL.out]; exact hi)
            simpa [hi] using this
        exact this
      clear hb
      go_wp2_with fail
      go_ret
      exact ⟨by rw [HE.out]; rfl,HB.out⟩
end Go.Proofs.YtaoamkbcegadcaaGreatDoor
/- Layer 20: rule 2 (ahead, groups). -/
namespace Go.Proofs.YtaoamkbcegadcaaGreatDoor
open Go.RowKit Go.Bx Go.Od Go.Hp
attribute [local go_sem ↓] Go.wp_at_zero Go.wp_at_succ
set_option linter.unusedVariables false

set_option maxRecDepth 4000 in
set_option maxHeartbeats 6400000 in
theorem qahead_c {B q m : Nat} {nv pv : Value} {nds : List Nd} {out : Int} {want : Rc} {c : Cf} {p : Pn} (w : World) (hq : QM B q m nv nds out want c pv p w) (mp : Nat → Option Nat) (hm : MapI w m 1000 1000 mp)
    (hP : p.ps.length ≤ 1000) (hok : ∀ y ∈ p.ps,0 < y.nodes.length) (hmp : ∀ k v,mp k = some v → v < p.ps.length) (i at_ : Nat) (x : Int) (hi : i < p.ps.length) (hx : -1 ≤ x ∧ x < 1000) :
    Calls Tryz.prog 37 #[.pointer (some ⟨q,0,none⟩),.int .i64 i,.int .i64 at_,.int .i64 x] w (PPost w (.bool (ahB p.ps mp i at_ x))) := by
  obtain ⟨r,hr⟩ : ∃ r,r = ahB p.ps mp i at_ x := ⟨_,rfl⟩
  have HR : Hid (r = ahB p.ps mp i at_ x) := hr
  rw [← hr]
  clear hr
  by_cases h1 : x = -1
  · have HE : Hid (r = true) := by
      have : r = true := by rw [HR.out]; unfold ahB; rw [if_pos h1]
      exact this
    have hx1 : (x == -1) = true := by rw [h1]; rfl
    clear hq hm hx hmp
    go_enter Tryz.func37,Tryz.ntmps37
    go_wp2_with fail
    go_ret
    exact ⟨ret_b HE.out.symm,Below.refl _ _⟩
  · obtain ⟨k,rfl⟩ : ∃ k : Nat,x = k := ⟨x.toNat,by omega⟩
    have hk : k < 1000 := by omega
    have hx1 : ((k : Int) == -1) = false := beq_eq_false_iff_ne.2 h1
    have hlook := hm.look hk
    obtain ⟨f,hf⟩ : ∃ f,f = (mp k).getD 0 := ⟨_,rfl⟩
    rw [← hf] at hlook
    have hfP : f < p.ps.length := by
      rw [hf]
      cases e : mp k with
      | none => simp; omega
      | some v => exact hmp k v e
    have HR2 : Hid (r = if f = i then decide (fIdx (fun y => y == (k : Int)) (ofN (p.ps.getD i Ps.none).nodes) < at_) else decide (f < i) && ((resP (p.ps.getD f Ps.none) : Int) == k)) := by
      have : r = if f = i then decide (fIdx (fun y => y == (k : Int)) (ofN (p.ps.getD i Ps.none).nodes) < at_) else decide (f < i) && ((resP (p.ps.getD f Ps.none) : Int) == k) := by
        rw [HR.out]
        unfold ahB
        rw [if_neg h1,Int.toNat_natCast,← hf]
      exact this
    obtain ⟨P,hPe⟩ : ∃ P,P = p.ps.length := ⟨_,rfl⟩
    obtain ⟨a,cap,rfl⟩ := hq.sl
    have q11 := hq.box.cell 11 rfl
    have q18 := hq.box.cell 18 rfl
    obtain ⟨y,hy⟩ : ∃ y,y = p.ps.getD f Ps.none := ⟨_,rfl⟩
    have hym : y ∈ p.ps := by rw [hy]; exact getD_mem _ hfP
    have hy0 := hok y hym
    obtain ⟨b,o,na,nc,ra,rc,rfl,hbB,hpc,hs1,hs2⟩ := hq.gp.at hfP hy
    obtain ⟨k0,k1,k2,k3,k4,k5,k6,k7⟩ := hpc
    rw [← hPe] at q11 hfP hP hi
    have hf0 : (0 : Int) ≤ (f : Int) := by omega
    have hf1 : (f : Int) < (P : Int) := by omega
    by_cases h2 : f = i
    · subst h2
      have HE : Hid (r = decide (fIdx (fun y => y == (k : Int)) (ofN y.nodes) < at_)) := by
        have : r = decide (fIdx (fun y => y == (k : Int)) (ofN y.nodes) < at_) := by rw [HR2.out,if_pos rfl,hy]
        exact this
      have hcall := idxV_c (k : Int) _ _ w hs1
      have hbd := fIdx_lt (fun y => y == (k : Int)) (ofN y.nodes)
      obtain ⟨z,hz⟩ : ∃ z,z = fIdx (fun y => y == (k : Int)) (ofN y.nodes) := ⟨_,rfl⟩
      rw [← hz] at hcall HE hbd
      clear hq hm hx hmp hf hPe hym hy0 hs1 hs2 hy HR2 HR hz h1
      go_enter Tryz.func37,Tryz.ntmps37
      go_wp2_with fail
      refine hcall.mono ?_; rintro e w2 ⟨rfl,hb2⟩
      go_wp2_with fail
      go_ret
      exact ⟨ret_b HE.out.symm,hb2⟩
    · have h2b : (f : Int) ≠ (i : Int) := by omega
      have h2c : ((f : Int) == (i : Int)) = false := beq_eq_false_iff_ne.2 h2b
      by_cases h3 : f < i
      · have hd : decide ((f : Int) < (i : Int)) = true := decide_eq_true (by omega)
        have HE : Hid (r = ((resP y : Int) == k)) := by
          have : r = ((resP y : Int) == k) := by rw [HR2.out,if_neg h2,decide_eq_true h3,Bool.true_and,hy]
          exact this
        have hcall := qresult_c na y.nodes.length nc ra y.reads.length rc y w rfl hy0 hs1
        obtain ⟨z,hz⟩ : ∃ z,z = resP y := ⟨_,rfl⟩
        rw [← hz] at hcall HE
        clear hq hm hx hmp hf hPe hym hy0 hs1 hs2 hy HR2 HR hz h1
        go_enter Tryz.func37,Tryz.ntmps37
        go_wp2_with fail
        refine hcall.mono ?_; rintro e w2 ⟨rfl,hb2⟩
        go_wp2_with fail
        go_ret
        exact ⟨ret_b HE.out.symm,hb2⟩
      · have hd : decide ((f : Int) < (i : Int)) = false := decide_eq_false (by omega)
        have HE : Hid (r = false) := by
          have : r = false := by rw [HR2.out,if_neg h2,decide_eq_false h3,Bool.false_and]
          exact this
        clear hq hm hx hmp hf hPe hym hy0 hs1 hs2 hy HR2 HR h1
        go_enter Tryz.func37,Tryz.ntmps37
        go_wp2_with fail
        go_ret
        exact ⟨ret_b HE.out.symm,Below.refl _ _⟩
end Go.Proofs.YtaoamkbcegadcaaGreatDoor
