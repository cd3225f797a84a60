/- Texts joined: XZl. -/
import Derived.Test.YtaoamkbcegadcaaGreatDoorZk
import Derived.Test.YtaoamkbcegadcaaGreatDoorZh
set_option maxRecDepth 4000
/- Layer 20: rule 5 (slots). -/
namespace Go.Proofs.YtaoamkbcegadcaaGreatDoor
open Go.RowKit Go.Bx Go.Od Go.Hp
attribute [local go_sem ↓] Go.wp_at_zero Go.wp_at_succ
set_option linter.unusedVariables false

set_option maxRecDepth 4000 in
set_option maxHeartbeats 6400000 in
theorem qslots_c {B q m : Nat} {nv pv : Value} {nds : List Nd} {out : Int} {want : Rc} {c : Cf} {p : Pn} (w : World) (hq : QM B q m nv nds out want c pv p w) (hg : GoodN nds out) (hP : p.ps.length ≤ 1000)
    (hok : ∀ y ∈ p.ps,POk y) (hk : ∀ y ∈ p.ps,∀ k ∈ y.nodes,k < nds.length) :
    Calls Tryz.prog 20 #[.pointer (some ⟨q,0,none⟩)] w (PPost w (.bool (ck5 nds c.al p))) := by
  obtain ⟨R,hR⟩ : ∃ R,R = ck5 nds c.al p := ⟨_,rfl⟩
  have HNO : Hid (∀ i,i < p.ps.length → slotB nds c.al p i = false → R = false) := fun i hi h => by rw [hR]; exact all_false (List.mem_range.2 hi) h
  have HYES : Hid ((∀ i,i < p.ps.length → slotB nds c.al p i = true) → R = true) := fun h => by rw [hR]; exact all_true h
  rw [← hR]
  have HSH : Hid (∀ W i k,Below w.heap.size w W → i < p.ps.length → k < p.ps.length → Calls Tryz.prog 42 #[.pointer (some ⟨q,0,none⟩),.int .i64 (i : Nat),.int .i64 (k : Nat)] W (PPost W (.bool (shB nds c.al (p.ps.getD i Ps.none) (p.ps.getD k Ps.none) k)))) :=
    fun W i k hW hi hkl => qshared_c W (hq.call hW) hg hP hok hk i k hi hkl
  obtain ⟨P,hPe⟩ : ∃ P,P = p.ps.length := ⟨_,rfl⟩
  have HPE : Hid (P = p.ps.length) := hPe
  obtain ⟨a,cap,rfl⟩ := hq.sl
  have q11 := hq.box.cell 11 rfl
  have q16 := hq.box.cell 16 rfl
  have hcap : p.ps.length ≤ cap ∧ cap ≤ maxLen := by
    obtain ⟨_,cc,hv,h1,h2,_⟩ := hq.gp
    simp only [Value.slice.injEq] at hv
    obtain ⟨_,_,rfl⟩ := hv
    exact ⟨h1,h2⟩
  unfold maxLen at hcap
  obtain ⟨hcap1,hcap2⟩ := hcap
  rw [← hPe] at q11 hP hcap1
  have HQ : Hid (QM B q m nv nds out want c (.slice a p.ps.length cap) p w) := hq
  have HOK : Hid (∀ y ∈ p.ps,POk y) := hok
  obtain ⟨sn,hsn⟩ : ∃ z,z = p.sn := ⟨_,rfl⟩
  have HSN : Hid (sn = p.sn) := hsn
  rw [← hsn] at q16
  clear hq hg hok hk hR hPe hsn
  go_enter Tryz.func20,Tryz.ntmps20
  go_wp2_with fail
  go_loopw [13] (fun iv wr => ∃ k : Nat,k ≤ P ∧ iv = .int .i64 k ∧ Hid (∀ u,u < k → slotB nds c.al p u = true) ∧ Hid (Below w.heap.size w wr)) (fun iv _ => P - (intOf iv).toNat)
  case atStart => exact ⟨0,by omega,rfl,(fun u hu => by omega),Below.refl _ _⟩
  case round =>
    obtain ⟨k,hk,rfl,hall,hbw⟩ := hrel
    by_cases h1 : k < P
    · have hip : k < p.ps.length := by rw [← HPE.out]; exact h1
      obtain ⟨y,hy⟩ : ∃ y,y = p.ps.getD k Ps.none := ⟨_,rfl⟩
      have hym : y ∈ p.ps := by rw [hy]; exact getD_mem _ hip
      have HY : Hid (y = p.ps.getD k Ps.none ∧ k < p.ps.length ∧ y ∈ p.ps) := ⟨hy,hip,hym⟩
      have HQ1 : Hid (QM B q m nv nds out want c (.slice a p.ps.length cap) p wr) := HQ.out.call hbw.out
      obtain ⟨b,o,na,nc,ra,rc,rfl,hbB,hpc,hs1,hs2⟩ := HQ1.out.gp.at hip hy
      obtain ⟨k0,k1,k2,k3,k4,k5,k6,k7⟩ := hpc
      have r16 := HQ1.out.box.cell 16 rfl
      rw [← HSN.out] at r16
      have r11 := HQ1.out.box.cell 11 rfl
      rw [← HPE.out] at r11
      obtain ⟨sl,hsl⟩ : ∃ z,z = y.slot := ⟨_,rfl⟩
      obtain ⟨z,hz⟩ : ∃ z,z = szP y := ⟨_,rfl⟩
      rw [← hsl] at k6
      have X := Box.new wr [.slice na y.nodes.length nc,.slice ra y.reads.length rc,.int .i64 y.box.x0,.int .i64 y.box.y0,.int .i64 y.box.x1,.int .i64 y.box.y1,.int .i64 sl,.int .i64 y.last] 37
      have hbn := below_new wr (.cells #[.slice na y.nodes.length nc,.slice ra y.reads.length rc,.int .i64 y.box.x0,.int .i64 y.box.y0,.int .i64 y.box.x1,.int .i64 y.box.y1,.int .i64 sl,.int .i64 y.last] 37)
      have hsz := fun W => qsize_c na y.nodes.length nc ra y.reads.length rc y W (HOK.out y hym).2.2.2
      unfold pvl at hsz
      rw [← hsl,← hz] at hsz
      have HSB : Hid (slotB nds c.al p k = if z = 0 then decide (sl = -1) else decide (0 ≤ sl) && (decide (sl < sn) && (List.range k).all fun i => !decide ((p.ps.getD i Ps.none).slot = sl) || shB nds c.al (p.ps.getD i Ps.none) (p.ps.getD k Ps.none) k)) := by
        have : slotB nds c.al p k = if z = 0 then decide (sl = -1) else decide (0 ≤ sl) && (decide (sl < sn) && (List.range k).all fun i => !decide ((p.ps.getD i Ps.none).slot = sl) || shB nds c.al (p.ps.getD i Ps.none) (p.ps.getD k Ps.none) k) := by
          unfold slotB; rw [← hy,← hsl,← hz,HSN.out]
        exact this
      have x0 := X.cell 0 rfl
      have x1 := X.cell 1 rfl
      have x2 := X.cell 2 rfl
      have x3 := X.cell 3 rfl
      have x4 := X.cell 4 rfl
      have x5 := X.cell 5 rfl
      have x6 := X.cell 6 rfl
      have x7 := X.cell 7 rfl
      have HXB : Hid (Box (wr.alloc (.cells #[.slice na y.nodes.length nc,.slice ra y.reads.length rc,.int .i64 y.box.x0,.int .i64 y.box.y0,.int .i64 y.box.x1,.int .i64 y.box.y1,.int .i64 sl,.int .i64 y.last] 37)) wr.heap.size [.slice na y.nodes.length nc,.slice ra y.reads.length rc,.int .i64 y.box.x0,.int .i64 y.box.y0,.int .i64 y.box.x1,.int .i64 y.box.y1,.int .i64 sl,.int .i64 y.last]) := X
      have HBN : Hid (Below wr.heap.size wr (wr.alloc (.cells #[.slice na y.nodes.length nc,.slice ra y.reads.length rc,.int .i64 y.box.x0,.int .i64 y.box.y0,.int .i64 y.box.x1,.int .i64 y.box.y1,.int .i64 sl,.int .i64 y.last] 37))) := hbn
      have hk0 : (0 : Int) ≤ (k : Int) := by omega
      have hk1 : (k : Int) < (P : Int) := by omega
      have HSZ : Hid _ := hsz
      clear hy hip hym hs1 hs2 hsl hz X hbn q11 q16
      go_wp2_with fail
      refine (HSZ.out _).mono ?_; rintro e w2 ⟨rfl,hb2⟩
      clear HSZ hsz
      have X2 := HXB.out.call hb2
      have HB2 : Hid (Below w.heap.size w w2) := hbw.out.trans ((HBN.out.trans (hb2.mono HBN.out.size)).mono hbw.out.size)
      have HX2 : Hid (Box w2 wr.heap.size [.slice na y.nodes.length nc,.slice ra y.reads.length rc,.int .i64 y.box.x0,.int .i64 y.box.y0,.int .i64 y.box.x1,.int .i64 y.box.y1,.int .i64 sl,.int .i64 y.last]) := X2
      have s11 := (HQ.out.call HB2.out).box.cell 11 rfl
      have s16 := (HQ.out.call HB2.out).box.cell 16 rfl
      rw [← HPE.out] at s11
      rw [← HSN.out] at s16
      have z6 := X2.cell 6 rfl
      clear x0 x1 x2 x3 x4 x5 x6 x7 HXB HBN hb2 X2 k0 k1 k2 k3 k4 k5 k6 k7 r11 r16
      by_cases hz0 : z = 0
      · have hz0b : (z == 0) = true := beq_iff_eq.2 hz0
        have HZ : Hid (z = 0) := hz0
        clear hz0
        by_cases hs : sl = -1
        · have hsb : (sl == -1) = true := beq_iff_eq.2 hs
          have HALL : Hid (∀ u,u < k + 1 → slotB nds c.al p u = true) := fun u hu => by
            by_cases e : u = k
            · subst e; rw [HSB.out,if_pos HZ.out,decide_eq_true hs]
            · exact hall.out u (by omega)
          clear hs
          go_wp2_with fail
          go_roundw
          case rel => exact ⟨k + 1,by omega,by go_num,HALL,HB2⟩
          case measure => simp [intOf]; omega
        · have hsb : (sl == -1) = false := beq_eq_false_iff_ne.2 hs
          have HE : Hid (R = false) := HNO.out k HY.out.2.1 (by rw [HSB.out,if_pos HZ.out,decide_eq_false hs])
          clear hs
          go_wp2_with fail
          go_ret
          exact ⟨ret_b HE.out.symm,HB2.out⟩
      · have hz0b : (z == 0) = false := beq_eq_false_iff_ne.2 hz0
        have HZ : Hid (¬ z = 0) := hz0
        clear hz0
        have zc := fun s : Kept w2.heap.size w2 => s.at z6
        have zs := fun s : Kept w2.heap.size w2 => s.at s16
        by_cases hs : sl < 0
        · have HE : Hid (R = false) := HNO.out k HY.out.2.1 (by rw [HSB.out,if_neg HZ.out,decide_eq_false (by omega)]; rfl)
          have hd : decide (sl < 0) = true := decide_eq_true hs
          go_wp2_with fail
          refine wp_region_kept w2.heap.size (by kernel_rfl) (by kernel_rfl) ?_
          repeat (go_big_quiet_step (fail))
          refine wpQuiet_nil ?_
          rintro _ ⟨s,rfl⟩
          have HB5 : Hid (Below w.heap.size w s.w) := HB2.out.trans (s.below.mono HB2.out.size)
          clear zc zs
          go_wp2_with fail
          go_ret
          exact ⟨ret_b HE.out.symm,HB5.out⟩
        · have hd : decide (sl < 0) = false := decide_eq_false hs
          by_cases hs1 : sn ≤ sl
          · have HE : Hid (R = false) := HNO.out k HY.out.2.1 (by rw [HSB.out,if_neg HZ.out,decide_eq_true (by omega : 0 ≤ sl),decide_eq_false (by omega : ¬ sl < sn)]; rfl)
            have hd1 : decide (sn ≤ sl) = true := decide_eq_true hs1
            go_wp2_with fail
            refine wp_region_kept w2.heap.size (by kernel_rfl) (by kernel_rfl) ?_
            repeat (go_big_quiet_step (fail))
            refine wpQuiet_nil ?_
            rintro _ ⟨s,rfl⟩
            have HB5 : Hid (Below w.heap.size w s.w) := HB2.out.trans (s.below.mono HB2.out.size)
            clear zc zs
            go_wp2_with fail
            go_ret
            exact ⟨ret_b HE.out.symm,HB5.out⟩
          · have hd1 : decide (sn ≤ sl) = false := decide_eq_false hs1
            have HSB2 : Hid (slotB nds c.al p k = (List.range k).all fun i => !decide ((p.ps.getD i Ps.none).slot = sl) || shB nds c.al (p.ps.getD i Ps.none) (p.ps.getD k Ps.none) k) := by
              have : slotB nds c.al p k = (List.range k).all fun i => !decide ((p.ps.getD i Ps.none).slot = sl) || shB nds c.al (p.ps.getD i Ps.none) (p.ps.getD k Ps.none) k := by
                rw [HSB.out,if_neg HZ.out,decide_eq_true (by omega : 0 ≤ sl),decide_eq_true (by omega : sl < sn)]; rfl
              exact this
            go_wp2_with fail
            refine wp_region_kept w2.heap.size (by kernel_rfl) (by kernel_rfl) ?_
            repeat (go_big_quiet_step (fail))
            refine wpQuiet_nil ?_
            rintro _ ⟨s,rfl⟩
            have HB5 : Hid (Below w.heap.size w s.w) := HB2.out.trans (s.below.mono HB2.out.size)
            have HX5 : Hid (Box s.w wr.heap.size [.slice na y.nodes.length nc,.slice ra y.reads.length rc,.int .i64 y.box.x0,.int .i64 y.box.y0,.int .i64 y.box.x1,.int .i64 y.box.y1,.int .i64 sl,.int .i64 y.last]) := HX2.out.call s.below
            have t11 := s.at s11
            have hk2 : ¬ (k : Int) < 0 := by omega
            have hk3 : ¬ (cap : Int) < (k : Int) := by omega
            clear zc zs HX2 s11 s16 z6
            go_wp2_with fail
            generalize s.w = w5 at *
            go_loopw [45] (fun jv wr' => ∃ i : Nat,i ≤ k ∧ jv = .int .i64 i ∧ Hid (∀ u,u < i → (!decide ((p.ps.getD u Ps.none).slot = sl) || shB nds c.al (p.ps.getD u Ps.none) (p.ps.getD k Ps.none) k) = true) ∧ Hid (Below w5.heap.size w5 wr')) (fun jv _ => k - (intOf jv).toNat)
            case atStart => exact ⟨0,by omega,rfl,(fun u hu => by omega),Below.refl _ _⟩
            case round =>
              rename World => wr3
              obtain ⟨i,hi,rfl,hall2,hbw3⟩ := hrel
              have HB6 : Hid (Below w.heap.size w wr3) := HB5.out.trans (hbw3.out.mono HB5.out.size)
              by_cases h3 : i < k
              · have hil : i < p.ps.length := by have := HY.out.2.1; omega
                obtain ⟨v,hv⟩ : ∃ v,v = p.ps.getD i Ps.none := ⟨_,rfl⟩
                have HV : Hid (v = p.ps.getD i Ps.none) := hv
                obtain ⟨b',o',na',nc',ra',rc',hv',hbB',hpc',hs1',hs2'⟩ := (HQ.out.call HB6.out).gp.at hil hv
                simp only [Option.some.injEq,Addr.mk.injEq,and_true] at hv'
                obtain ⟨rfl,rfl⟩ := hv'
                obtain ⟨l0,l1,l2,l3,l4,l5,l6,l7⟩ := hpc'
                obtain ⟨sv,hsv⟩ : ∃ z,z = v.slot := ⟨_,rfl⟩
                rw [← hsv] at l6
                have HSV : Hid (sv = (p.ps.getD i Ps.none).slot) := by
                  have : sv = (p.ps.getD i Ps.none).slot := by rw [hsv,hv]
                  exact this
                have Y := Box.new wr3 [.slice na' v.nodes.length nc',.slice ra' v.reads.length rc',.int .i64 v.box.x0,.int .i64 v.box.y0,.int .i64 v.box.x1,.int .i64 v.box.y1,.int .i64 sv,.int .i64 v.last] 37
                have hbn := below_new wr3 (.cells #[.slice na' v.nodes.length nc',.slice ra' v.reads.length rc',.int .i64 v.box.x0,.int .i64 v.box.y0,.int .i64 v.box.x1,.int .i64 v.box.y1,.int .i64 sv,.int .i64 v.last] 37)
                have y6 := Y.cell 6 rfl
                have x6 := ((HX5.out.call hbw3.out).call hbn).cell 6 rfl
                have HB7 : Hid (Below w5.heap.size w5 (wr3.alloc (.cells #[.slice na' v.nodes.length nc',.slice ra' v.reads.length rc',.int .i64 v.box.x0,.int .i64 v.box.y0,.int .i64 v.box.x1,.int .i64 v.box.y1,.int .i64 sv,.int .i64 v.last] 37))) := hbw3.out.trans (hbn.mono hbw3.out.size)
                have HB8 : Hid (Below w.heap.size w (wr3.alloc (.cells #[.slice na' v.nodes.length nc',.slice ra' v.reads.length rc',.int .i64 v.box.x0,.int .i64 v.box.y0,.int .i64 v.box.x1,.int .i64 v.box.y1,.int .i64 sv,.int .i64 v.last] 37))) := HB6.out.trans (hbn.mono HB6.out.size)
                have hi0 : (0 : Int) ≤ (i : Int) := by omega
                have hi1 : (i : Int) < (k : Int) := by omega
                obtain ⟨t,ht⟩ : ∃ t,t = shB nds c.al (p.ps.getD i Ps.none) (p.ps.getD k Ps.none) k := ⟨_,rfl⟩
                have HT : Hid (t = shB nds c.al (p.ps.getD i Ps.none) (p.ps.getD k Ps.none) k) := ht
                have HA1 : Hid (Calls Tryz.prog 42 #[.pointer (some ⟨q,0,none⟩),.int .i64 (i : Nat),.int .i64 (k : Nat)] (wr3.alloc (.cells #[.slice na' v.nodes.length nc',.slice ra' v.reads.length rc',.int .i64 v.box.x0,.int .i64 v.box.y0,.int .i64 v.box.x1,.int .i64 v.box.y1,.int .i64 sv,.int .i64 v.last] 37)) (PPost (wr3.alloc (.cells #[.slice na' v.nodes.length nc',.slice ra' v.reads.length rc',.int .i64 v.box.x0,.int .i64 v.box.y0,.int .i64 v.box.x1,.int .i64 v.box.y1,.int .i64 sv,.int .i64 v.last] 37)) (.bool t))) := by
                  rw [ht]; exact HSH.out _ i k HB8.out hil HY.out.2.1
                clear ht hil hv hsv hs1' hs2' Y hbn
                by_cases he : sv = sl
                · have heb : (sv == sl) = true := beq_iff_eq.2 he
                  have HEQ : Hid (sv = sl) := he
                  clear he
                  go_wp2_with fail
                  refine HA1.out.mono ?_; rintro e w7 ⟨rfl,hb7⟩
                  have HB9 : Hid (Below w5.heap.size w5 w7) := HB7.out.trans (hb7.mono HB7.out.size)
                  have HB10 : Hid (Below w.heap.size w w7) := HB8.out.trans (hb7.mono HB8.out.size)
                  clear hb7 HA1
                  cases t with
                  | false =>
                    have HE : Hid (R = false) := HNO.out k HY.out.2.1 (by
                      rw [HSB2.out]
                      refine all_false (List.mem_range.2 h3) ?_
                      rw [← HSV.out,decide_eq_true HEQ.out,← HT.out]; rfl)
                    go_wp2_with fail
                    go_ret
                    exact ⟨ret_b HE.out.symm,HB10.out⟩
                  | true =>
                    have HALL : Hid (∀ u,u < i + 1 → (!decide ((p.ps.getD u Ps.none).slot = sl) || shB nds c.al (p.ps.getD u Ps.none) (p.ps.getD k Ps.none) k) = true) := fun u hu => by
                      by_cases e : u = i
                      · subst e; rw [← HT.out]; simp
                      · exact hall2.out u (by omega)
                    go_wp2_with fail
                    go_roundw
                    case rel => exact ⟨i + 1,by omega,by go_num,HALL,HB9⟩
                    case measure => simp [intOf]; omega
                · have heb : (sv == sl) = false := beq_eq_false_iff_ne.2 he
                  have HEQ : Hid (¬ sv = sl) := he
                  clear he
                  have HALL : Hid (∀ u,u < i + 1 → (!decide ((p.ps.getD u Ps.none).slot = sl) || shB nds c.al (p.ps.getD u Ps.none) (p.ps.getD k Ps.none) k) = true) := fun u hu => by
                    by_cases e : u = i
                    · subst e; rw [← HSV.out,decide_eq_false HEQ.out]; rfl
                    · exact hall2.out u (by omega)
                  clear HA1
                  go_wp2_with fail
                  go_roundw
                  case rel => exact ⟨i + 1,by omega,by go_num,HALL,HB7⟩
                  case measure => simp [intOf]; omega
              · have ej : i = k := by omega
                have HALL : Hid (∀ u,u < k + 1 → slotB nds c.al p u = true) := fun u hu => by
                  by_cases e : u = k
                  · subst e
                    rw [HSB2.out]
                    exact all_true fun u hu => hall2.out u (by omega)
                  · exact hall.out u (by omega)
                have h3b : ¬ (i : Int) < (k : Int) := by omega
                clear ej
                go_wp2_with fail
                go_roundw
                case rel => exact ⟨k + 1,by omega,by go_num,HALL,HB6⟩
                case measure => simp [intOf]; omega
    · have ei : k = P := by omega
      subst ei
      have HE : Hid (R = true) := HYES.out fun u hu => hall.out u (by rw [HPE.out]; exact hu)
      go_wp2_with fail
      go_ret
      exact ⟨ret_b HE.out.symm,hbw.out⟩
end Go.Proofs.YtaoamkbcegadcaaGreatDoor
