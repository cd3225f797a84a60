/- Texts joined: XZh. -/
import Derived.Test.YtaoamkbcegadcaaGreatDoorZf
set_option maxRecDepth 4000
/- Layer 20: rule 2 (groups). -/
namespace Go.Proofs.YtaoamkbcegadcaaGreatDoor
open Go.RowKit Go.Bx Go.Od Go.Hp
attribute [local go_sem ↓] Go.wp_at_zero Go.wp_at_succ
set_option linter.unusedVariables false

theorem all_false {α : Type} {f : α → Bool} {l : List α} {x : α} (hx : x ∈ l) (h : f x = false) : l.all f = false := by
  cases e : l.all f with
  | false => rfl
  | true => rw [List.all_eq_true] at e; rw [e x hx] at h; cases h
theorem all_true {f : Nat → Bool} {n : Nat} (h : ∀ k,k < n → f k = true) : (List.range n).all f = true := List.all_eq_true.2 fun k hk => h k (List.mem_range.1 hk)
theorem allD_true {f : Int → Bool} {l : List Int} (h : ∀ k,k < l.length → f (l.getD k 0) = true) : l.all f = true := List.all_eq_true.2 fun x hx => by
  obtain ⟨i,hi,rfl⟩ := List.mem_iff_getElem.1 hx
  have := h i hi
  simpa [hi] using this
set_option maxRecDepth 4000 in
set_option maxHeartbeats 6400000 in
theorem qgroups_c {B q m : Nat} {nv pv : Value} {nds : List Nd} {out : Int} {want : Rc} {c : Cf} {p : Pn} (w : World) (hq : QM B q m nv nds out want c pv p w) (mp : Nat → Option Nat) (hm : MapI w m 1000 1000 mp) (hg : GoodN nds out)
    (hP : p.ps.length ≤ 1000) (hok : ∀ y ∈ p.ps,0 < y.nodes.length) (hk : ∀ y ∈ p.ps,∀ k ∈ y.nodes,k < nds.length) (hmp : ∀ k v,mp k = some v → v < p.ps.length) :
    Calls Tryz.prog 17 #[.pointer (some ⟨q,0,none⟩)] w (PPost w (.bool ((List.range p.ps.length).all (passB nds p.ps mp)))) := by
  obtain ⟨R,hR⟩ : ∃ R,R = (List.range p.ps.length).all (passB nds p.ps mp) := ⟨_,rfl⟩
  have HNO : Hid (∀ i,i < p.ps.length → passB nds p.ps mp i = false → R = false) := fun i hi h => by rw [hR]; exact all_false (List.mem_range.2 hi) h
  have HYES : Hid ((∀ i,i < p.ps.length → passB nds p.ps mp i = true) → R = true) := fun h => by rw [hR]; exact all_true h
  rw [← hR]
  have HA : Hid (∀ W i at_ x,Below w.heap.size w W → i < p.ps.length → -1 ≤ x ∧ x < 1000 → Calls Tryz.prog 37 #[.pointer (some ⟨q,0,none⟩),.int .i64 (i : Nat),.int .i64 (at_ : Nat),.int .i64 x] W (PPost W (.bool (ahB p.ps mp i at_ x)))) :=
    fun W i at_ x hW hi hx => qahead_c W (hq.call hW) mp (hm.kept ⟨hW.os,hW.tape,hW.output,hW.size,fun k h _ => hW.block k h⟩ (row := none) (by simp)) hP hok hmp i at_ x hi hx
  obtain ⟨P,hPe⟩ : ∃ P,P = p.ps.length := ⟨_,rfl⟩
  have HPE : Hid (P = p.ps.length) := hPe
  obtain ⟨a,cap,rfl⟩ := hq.sl
  obtain ⟨ga,gc,rfl⟩ := hq.gr.isSl
  have q0 := hq.box.cell 0 rfl
  have q11 := hq.box.cell 11 rfl
  rw [← hPe] at q11 hP
  have HQ : Hid (QM B q m (.slice ga nds.length gc) nds out want c (.slice a p.ps.length cap) p w) := hq
  obtain ⟨n,hn⟩ : ∃ n,n = nds.length := ⟨_,rfl⟩
  have HN : Hid (n = nds.length) := hn
  have hn9 : n ≤ 100 := by have := hg.few; omega
  have HH : Hid ((∀ y ∈ p.ps,0 < y.nodes.length) ∧ (∀ y ∈ p.ps,∀ k ∈ y.nodes,k < nds.length) ∧ ∀ i,i < nds.length → ∀ x ∈ (nds.getD i Nd.none).ins,-1 ≤ x ∧ x < nds.length) := ⟨hok,hk,hg.rng⟩
  rw [← hn] at q0
  clear hq hm hg hok hk hmp hn hR hPe
  go_enter Tryz.func17,Tryz.ntmps17
  go_wp2_with fail
  go_loopw [15] (fun iv wr => ∃ i : Nat,i ≤ P ∧ iv = .int .i64 i ∧ Hid (∀ u,u < i → passB nds p.ps mp u = true) ∧ Hid (Below w.heap.size w wr)) (fun iv _ => P - (intOf iv).toNat)
  case atStart => exact ⟨0,by omega,rfl,(fun u hu => by omega),Below.refl _ _⟩
  case round =>
    obtain ⟨i,hi,rfl,hall,hbw⟩ := hrel
    by_cases h1 : i < P
    · have hip : i < p.ps.length := by rw [← HPE.out]; exact h1
      obtain ⟨y,hy⟩ : ∃ y,y = p.ps.getD i Ps.none := ⟨_,rfl⟩
      have hym : y ∈ p.ps := by rw [hy]; exact getD_mem _ hip
      have HY : Hid (y = p.ps.getD i Ps.none ∧ i < p.ps.length ∧ y ∈ p.ps) := ⟨hy,hip,hym⟩
      have HQ1 : Hid (QM B q m (.slice ga nds.length gc) nds out want c (.slice a p.ps.length cap) p wr) := HQ.out.call hbw.out
      obtain ⟨b,o,na,nc,ra,rc,rfl,hbB,hpc,hs1,hs2⟩ := HQ1.out.gp.at hip hy
      obtain ⟨k0,k1,k2,k3,k4,k5,k6,k7⟩ := hpc
      obtain ⟨L,hL⟩ : ∃ L,L = y.nodes.length := ⟨_,rfl⟩
      have HL : Hid (L = y.nodes.length) := hL
      have hLm : L ≤ maxLen := by
        obtain ⟨_,cc,hv,hz1,hz2,_⟩ := hs1
        rw [ofN_len] at hz1
        omega
      unfold maxLen at hLm
      rw [← hL] at k0 hs1
      have hs0 : SlOf RInt 1 (· < B) w (.slice na L nc) (ofN y.nodes) := hs1.same RInt.ok fun z hz => ((hbw.out.block z (by have : z < B := hz; have := HQ.out.hB; omega)).symm)
      have HPB : Hid (passB nds p.ps mp i = ((!(decide (1 < L) && !byP nds y)) && (List.range L).all (nodeB nds p.ps mp i))) := by
        have : passB nds p.ps mp i = ((!(decide (1 < L) && !byP nds y)) && (List.range L).all (nodeB nds p.ps mp i)) := by unfold passB; rw [← hy,← hL]
        exact this
      have HNB : Hid (∀ at_,nodeB nds p.ps mp i at_ = (nds.getD (y.nodes.getD at_ 0) Nd.none).ins.all (ahB p.ps mp i at_)) := fun at_ => by unfold nodeB; rw [← hy]
      obtain ⟨rl,hrl⟩ : ∃ l,l = y.reads.length := ⟨_,rfl⟩
      rw [← hrl] at k1
      have hbyp := fun W (hW : Below wr.heap.size wr W) => qbyp_c B q (.slice ga nds.length gc) nds na y.nodes.length nc ra y.reads.length rc y W (Nat.lt_of_lt_of_le HQ1.out.box.lt hW.size) (by rw [← HN.out]; omega) ((HQ1.out.call hW).box.cell 0 rfl) (HQ1.out.call hW).gr (HQ1.out.call hW).hB (by rw [← hL]; exact (sl_below hs1 (hW.mono HQ1.out.hB))) (HH.out.2.1 y hym)
      rw [← hL,← hrl] at hbyp
      have X := Box.new wr [.slice na L nc,.slice ra rl rc,.int .i64 y.box.x0,.int .i64 y.box.y0,.int .i64 y.box.x1,.int .i64 y.box.y1,.int .i64 y.slot,.int .i64 y.last] 37
      have hbn := below_new wr (.cells #[.slice na L nc,.slice ra rl rc,.int .i64 y.box.x0,.int .i64 y.box.y0,.int .i64 y.box.x1,.int .i64 y.box.y1,.int .i64 y.slot,.int .i64 y.last] 37)
      have HS : Hid (SlOf RInt 1 (· < B) w (.slice na L nc) (ofN y.nodes)) := hs0
      have x0 := X.cell 0 rfl
      obtain ⟨bp,hbp⟩ : ∃ t,t = byP nds y := ⟨_,rfl⟩
      have HBP : Hid (bp = byP nds y) := hbp
      have HX : Hid (∀ W,Below (wr.alloc (.cells #[.slice na L nc,.slice ra rl rc,.int .i64 y.box.x0,.int .i64 y.box.y0,.int .i64 y.box.x1,.int .i64 y.box.y1,.int .i64 y.slot,.int .i64 y.last] 37)).heap.size (wr.alloc (.cells #[.slice na L nc,.slice ra rl rc,.int .i64 y.box.x0,.int .i64 y.box.y0,.int .i64 y.box.x1,.int .i64 y.box.y1,.int .i64 y.slot,.int .i64 y.last] 37)) W → W.cell? ⟨wr.heap.size,0,none⟩ = some (.slice na L nc)) := fun W hW => (X.call hW).cell 0 rfl
      have HBN : Hid (Below wr.heap.size wr (wr.alloc (.cells #[.slice na L nc,.slice ra rl rc,.int .i64 y.box.x0,.int .i64 y.box.y0,.int .i64 y.box.x1,.int .i64 y.box.y1,.int .i64 y.slot,.int .i64 y.last] 37))) := hbn
      have hb1 := hbyp _ hbn
      rw [← hbp] at hb1
      have xs := fun k u (h : ([.slice na L nc,.slice ra rl rc,.int .i64 y.box.x0,.int .i64 y.box.y0,.int .i64 y.box.x1,.int .i64 y.box.y1,.int .i64 y.slot,.int .i64 y.last] : List Value)[k]? = some u) => X.cell k h
      have x1 := xs 1 _ rfl
      have x2 := xs 2 _ rfl
      have x3 := xs 3 _ rfl
      have x4 := xs 4 _ rfl
      have x5 := xs 5 _ rfl
      have x6 := xs 6 _ rfl
      have x7 := xs 7 _ rfl
      have hi0 : (0 : Int) ≤ (i : Int) := by omega
      have hi1 : (i : Int) < (P : Int) := by omega
      clear hy hip hym hs1 hs2 hbyp hbp hrl hL X hbn xs
      by_cases hL1 : 1 < L
      · cases bp with
        | false =>
          have HE : Hid (R = false) := HNO.out i HY.out.2.1 (by rw [HPB.out,← HBP.out,decide_eq_true hL1]; rfl)
          go_wp2_with fail
          refine hb1.mono ?_; rintro e w3 ⟨rfl,hb3⟩
          go_wp2_with fail
          go_ret
          have h3 := HBN.out.trans (hb3.mono HBN.out.size)
          exact ⟨ret_b HE.out.symm,hbw.out.trans (h3.mono hbw.out.size)⟩
        | true =>
          have HFST : Hid ((!(decide (1 < L) && !byP nds y)) = true) := by
            have : (!(decide (1 < L) && !byP nds y)) = true := by rw [← HBP.out]; simp
            exact this
          go_wp2_with fail
          refine hb1.mono ?_; rintro e w3 ⟨rfl,hb3⟩
          have hx3 := HX.out _ hb3
          have HB3 : Hid (Below w.heap.size w w3) := hbw.out.trans ((HBN.out.trans (hb3.mono HBN.out.size)).mono hbw.out.size)
          clear hb1 hb3 x0 x1 x2 x3 x4 x5 x6 x7
          go_wp2_with fail
          go_loopw [33] (fun av wr' => ∃ at_ : Nat,at_ ≤ L ∧ av = .int .i64 at_ ∧ Hid (∀ u,u < at_ → nodeB nds p.ps mp i u = true) ∧ Hid (Below w.heap.size w wr')) (fun av _ => L - (intOf av).toNat)
          case atStart => exact ⟨0,by omega,rfl,(fun u hu => by omega),HB3.out⟩
          case round =>
            rename World => wr2
            obtain ⟨at_,hat,rfl,hall2,hbw2⟩ := hrel
            have HQ2 : Hid (QM B q m (.slice ga nds.length gc) nds out want c (.slice (some ⟨b,o,none⟩) p.ps.length cap) p wr2) := HQ.out.call hbw2.out
            have hr0 := HQ2.out.box.cell 0 rfl
            rw [← HN.out] at hr0
            by_cases h2 : at_ < L
            · obtain ⟨na',nc',hv,hcap',hcm',hin',hcell⟩ := (sl_below HS.out (hbw2.out.mono HQ.out.hB)).ints
              obtain ⟨b2,o2,hna,hb2,hce⟩ := hcell at_ (by rw [ofN_len,← HL.out]; exact h2)
              simp only [Value.slice.injEq] at hv
              obtain ⟨rfl,hle,rfl⟩ := hv
              clear hle
              subst hna
              have hc0 := hce at_ (by rw [ofN_len,← HL.out]; exact h2)
              rw [ofN_get] at hc0
              obtain ⟨k,hk⟩ : ∃ k,k = y.nodes.getD at_ 0 := ⟨_,rfl⟩
              have hkm : k ∈ y.nodes := by rw [hk]; exact getD_mem _ (by rw [← HL.out]; exact h2)
              rw [← hk] at hc0
              have hkn : k < nds.length := HH.out.2.1 y HY.out.2.2 k hkm
              obtain ⟨gb,go,gcap,ia,ic,pa,pc,hv,hgB,hgcap,hgcm,g0,g1,g2,s1,s2⟩ := HQ2.out.gr.node hkn
              simp only [Value.slice.injEq] at hv
              obtain ⟨rfl,hle,rfl⟩ := hv
              clear hle
              obtain ⟨I,hI⟩ : ∃ I,I = (nds.getD k Nd.none).ins := ⟨_,rfl⟩
              rw [← hI] at g1 s1
              have HNK : Hid (nodeB nds p.ps mp i at_ = I.all (ahB p.ps mp i at_)) := by
                have : nodeB nds p.ps mp i at_ = I.all (ahB p.ps mp i at_) := by rw [HNB.out,← hk,hI]
                exact this
              have HRG : Hid (∀ x ∈ I,-1 ≤ x ∧ x < nds.length) := by rw [hI]; exact HH.out.2.2 k hkn
              have HS2 : Hid (SlOf RInt 1 (· < B) wr2 (.slice ia I.length ic) I) := s1
              have hIm : I.length ≤ maxLen := by
                obtain ⟨_,cc,hv,hz1,hz2,_⟩ := s1
                omega
              unfold maxLen at hIm
              obtain ⟨M,hM⟩ : ∃ M,M = I.length := ⟨_,rfl⟩
              have HM : Hid (M = I.length) := hM
              rw [← hM] at g1 hIm
              have hat0 : (0 : Int) ≤ (at_ : Int) := by omega
              have hat1 : (at_ : Int) < (L : Int) := by omega
              have hk0 : (0 : Int) ≤ (k : Int) := by omega
              have hk1 : (k : Int) < (n : Int) := by rw [HN.out]; omega
              clear hk hkm hkn hI hM s1 s2 g0 g2 hce hcell hin' hcm' hcap' hb2 hgcap hgcm
              go_wp2_with fail
              go_loopw [48] (fun jv wr' => ∃ j : Nat,j ≤ M ∧ jv = .int .i64 j ∧ Hid (∀ u,u < j → ahB p.ps mp i at_ (I.getD u 0) = true) ∧ Hid (Below wr2.heap.size wr2 wr')) (fun jv _ => M - (intOf jv).toNat)
              case atStart => exact ⟨0,by omega,rfl,(fun u hu => by omega),Below.refl _ _⟩
              case round =>
                rename World => wr3
                obtain ⟨j,hj,rfl,hall3,hbw3⟩ := hrel
                have HB4 : Hid (Below w.heap.size w wr3) := hbw2.out.trans (hbw3.out.mono hbw2.out.size)
                by_cases h3 : j < M
                · obtain ⟨ia',ic',hv,hcap',hcm',hin',hcell⟩ := (sl_below HS2.out (hbw3.out.mono HQ2.out.hB)).ints
                  obtain ⟨b3,o3,hna,hb3,hce⟩ := hcell j (by rw [← HM.out]; exact h3)
                  simp only [Value.slice.injEq] at hv
                  obtain ⟨rfl,hle,rfl⟩ := hv
                  clear hle
                  subst hna
                  have hd0 := hce j (by rw [← HM.out]; exact h3)
                  obtain ⟨x,hx⟩ : ∃ x,x = I.getD j 0 := ⟨_,rfl⟩
                  have hxm : x ∈ I := by rw [hx]; exact getD_mem _ (by rw [← HM.out]; exact h3)
                  have hxr := HRG.out x hxm
                  have hcall := HA.out wr3 i at_ x HB4.out HY.out.2.1 (by have := HN.out; omega)
                  rw [← hx] at hd0
                  have HX : Hid (x = I.getD j 0 ∧ x ∈ I) := ⟨hx,hxm⟩
                  obtain ⟨t,ht⟩ : ∃ t,t = ahB p.ps mp i at_ x := ⟨_,rfl⟩
                  have HT : Hid (t = ahB p.ps mp i at_ x) := ht
                  rw [← ht] at hcall
                  have hj0 : (0 : Int) ≤ (j : Int) := by omega
                  have hj1 : (j : Int) < (M : Int) := by omega
                  clear hx hxm hxr ht hce hcell hin' hcm' hcap' hb3
                  cases t with
                  | false =>
                    have HE : Hid (R = false) := HNO.out i HY.out.2.1 (by
                      rw [HPB.out,all_false (List.mem_range.2 h2) (by rw [HNK.out]; exact all_false HX.out.2 HT.out.symm),Bool.and_false])
                    go_wp2_with fail
                    refine hcall.mono ?_; rintro e w5 ⟨rfl,hb5⟩
                    go_wp2_with fail
                    go_ret
                    exact ⟨ret_b HE.out.symm,HB4.out.trans (hb5.mono HB4.out.size)⟩
                  | true =>
                    have HALL : Hid (∀ u,u < j + 1 → ahB p.ps mp i at_ (I.getD u 0) = true) := fun u hu => by
                      by_cases e : u = j
                      · subst e; rw [← HX.out.1]; exact HT.out.symm
                      · exact hall3.out u (by omega)
                    go_wp2_with fail
                    refine hcall.mono ?_; rintro e w5 ⟨rfl,hb5⟩
                    have HB6 : Hid (Below wr2.heap.size wr2 w5) := hbw3.out.trans (hb5.mono hbw3.out.size)
                    go_wp2_with fail
                    go_roundw
                    case rel =>
                      exact ⟨j + 1,by omega,by go_num,HALL,HB6⟩
                    case measure => simp [intOf]; omega
                · have ej : j = M := by omega
                  have HALL : Hid (∀ u,u < at_ + 1 → nodeB nds p.ps mp i u = true) := fun u hu => by
                    by_cases e : u = at_
                    · subst e
                      rw [HNK.out]
                      exact allD_true fun u hu => hall3.out u (by rw [ej,HM.out]; exact hu)
                    · exact hall2.out u (by omega)
                  have h3b : ¬ (j : Int) < (M : Int) := by omega
                  clear ej
                  go_wp2_with fail
                  go_roundw
                  case rel =>
                    exact ⟨at_ + 1,by omega,by go_num,HALL,HB4⟩
                  case measure => simp [intOf]; omega
            · have ea : at_ = L := by omega
              have HALL : Hid (∀ u,u < i + 1 → passB nds p.ps mp u = true) := fun u hu => by
                by_cases e : u = i
                · subst e
                  rw [HPB.out,all_true fun u hu => hall2.out u (by omega),Bool.and_true]
                  exact HFST.out
                · exact hall.out u (by omega)
              have h2b : ¬ (at_ : Int) < (L : Int) := by omega
              clear ea
              go_wp2_with fail
              go_roundw
              case rel =>
                exact ⟨i + 1,by omega,by go_num,HALL,hbw2⟩
              case measure => simp [intOf]; omega
      · have HFST : Hid ((!(decide (1 < L) && !byP nds y)) = true) := by
          have : (!(decide (1 < L) && !byP nds y)) = true := by rw [decide_eq_false hL1]; rfl
          exact this
        have HB3 : Hid (Below w.heap.size w (wr.alloc (.cells #[.slice na L nc,.slice ra rl rc,.int .i64 y.box.x0,.int .i64 y.box.y0,.int .i64 y.box.x1,.int .i64 y.box.y1,.int .i64 y.slot,.int .i64 y.last] 37))) := hbw.out.trans (HBN.out.mono hbw.out.size)
        clear hb1
        go_wp2_with fail
        go_loopw [33] (fun av wr' => ∃ at_ : Nat,at_ ≤ L ∧ av = .int .i64 at_ ∧ Hid (∀ u,u < at_ → nodeB nds p.ps mp i u = true) ∧ Hid (Below w.heap.size w wr')) (fun av _ => L - (intOf av).toNat)
        case atStart => exact ⟨0,by omega,rfl,(fun u hu => by omega),HB3.out⟩
        case round =>
          rename World => wr2
          obtain ⟨at_,hat,rfl,hall2,hbw2⟩ := hrel
          have HQ2 : Hid (QM B q m (.slice ga nds.length gc) nds out want c (.slice (some ⟨b,o,none⟩) p.ps.length cap) p wr2) := HQ.out.call hbw2.out
          have hr0 := HQ2.out.box.cell 0 rfl
          rw [← HN.out] at hr0
          by_cases h2 : at_ < L
          · obtain ⟨na',nc',hv,hcap',hcm',hin',hcell⟩ := (sl_below HS.out (hbw2.out.mono HQ.out.hB)).ints
            obtain ⟨b2,o2,hna,hb2,hce⟩ := hcell at_ (by rw [ofN_len,← HL.out]; exact h2)
            simp only [Value.slice.injEq] at hv
            obtain ⟨rfl,hle,rfl⟩ := hv
            clear hle
            subst hna
            have hc0 := hce at_ (by rw [ofN_len,← HL.out]; exact h2)
            rw [ofN_get] at hc0
            obtain ⟨k,hk⟩ : ∃ k,k = y.nodes.getD at_ 0 := ⟨_,rfl⟩
            have hkm : k ∈ y.nodes := by rw [hk]; exact getD_mem _ (by rw [← HL.out]; exact h2)
            rw [← hk] at hc0
            have hkn : k < nds.length := HH.out.2.1 y HY.out.2.2 k hkm
            obtain ⟨gb,go,gcap,ia,ic,pa,pc,hv,hgB,hgcap,hgcm,g0,g1,g2,s1,s2⟩ := HQ2.out.gr.node hkn
            simp only [Value.slice.injEq] at hv
            obtain ⟨rfl,hle,rfl⟩ := hv
            clear hle
            obtain ⟨I,hI⟩ : ∃ I,I = (nds.getD k Nd.none).ins := ⟨_,rfl⟩
            rw [← hI] at g1 s1
            have HNK : Hid (nodeB nds p.ps mp i at_ = I.all (ahB p.ps mp i at_)) := by
              have : nodeB nds p.ps mp i at_ = I.all (ahB p.ps mp i at_) := by rw [HNB.out,← hk,hI]
              exact this
            have HRG : Hid (∀ x ∈ I,-1 ≤ x ∧ x < nds.length) := by rw [hI]; exact HH.out.2.2 k hkn
            have HS2 : Hid (SlOf RInt 1 (· < B) wr2 (.slice ia I.length ic) I) := s1
            have hIm : I.length ≤ maxLen := by
              obtain ⟨_,cc,hv,hz1,hz2,_⟩ := s1
              omega
            unfold maxLen at hIm
            obtain ⟨M,hM⟩ : ∃ M,M = I.length := ⟨_,rfl⟩
            have HM : Hid (M = I.length) := hM
            rw [← hM] at g1 hIm
            have hat0 : (0 : Int) ≤ (at_ : Int) := by omega
            have hat1 : (at_ : Int) < (L : Int) := by omega
            have hk0 : (0 : Int) ≤ (k : Int) := by omega
            have hk1 : (k : Int) < (n : Int) := by rw [HN.out]; omega
            clear hk hkm hkn hI hM s1 s2 g0 g2 hce hcell hin' hcm' hcap' hb2 hgcap hgcm
            go_wp2_with fail
            go_loopw [48] (fun jv wr' => ∃ j : Nat,j ≤ M ∧ jv = .int .i64 j ∧ Hid (∀ u,u < j → ahB p.ps mp i at_ (I.getD u 0) = true) ∧ Hid (Below wr2.heap.size wr2 wr')) (fun jv _ => M - (intOf jv).toNat)
            case atStart => exact ⟨0,by omega,rfl,(fun u hu => by omega),Below.refl _ _⟩
            case round =>
              rename World => wr3
              obtain ⟨j,hj,rfl,hall3,hbw3⟩ := hrel
              have HB4 : Hid (Below w.heap.size w wr3) := hbw2.out.trans (hbw3.out.mono hbw2.out.size)
              by_cases h3 : j < M
              · obtain ⟨ia',ic',hv,hcap',hcm',hin',hcell⟩ := (sl_below HS2.out (hbw3.out.mono HQ2.out.hB)).ints
                obtain ⟨b3,o3,hna,hb3,hce⟩ := hcell j (by rw [← HM.out]; exact h3)
                simp only [Value.slice.injEq] at hv
                obtain ⟨rfl,hle,rfl⟩ := hv
                clear hle
                subst hna
                have hd0 := hce j (by rw [← HM.out]; exact h3)
                obtain ⟨x,hx⟩ : ∃ x,x = I.getD j 0 := ⟨_,rfl⟩
                have hxm : x ∈ I := by rw [hx]; exact getD_mem _ (by rw [← HM.out]; exact h3)
                have hxr := HRG.out x hxm
                have hcall := HA.out wr3 i at_ x HB4.out HY.out.2.1 (by have := HN.out; omega)
                rw [← hx] at hd0
                have HX : Hid (x = I.getD j 0 ∧ x ∈ I) := ⟨hx,hxm⟩
                obtain ⟨t,ht⟩ : ∃ t,t = ahB p.ps mp i at_ x := ⟨_,rfl⟩
                have HT : Hid (t = ahB p.ps mp i at_ x) := ht
                rw [← ht] at hcall
                have hj0 : (0 : Int) ≤ (j : Int) := by omega
                have hj1 : (j : Int) < (M : Int) := by omega
                clear hx hxm hxr ht hce hcell hin' hcm' hcap' hb3
                cases t with
                | false =>
                  have HE : Hid (R = false) := HNO.out i HY.out.2.1 (by
                    rw [HPB.out,all_false (List.mem_range.2 h2) (by rw [HNK.out]; exact all_false HX.out.2 HT.out.symm),Bool.and_false])
                  go_wp2_with fail
                  refine hcall.mono ?_; rintro e w5 ⟨rfl,hb5⟩
                  go_wp2_with fail
                  go_ret
                  exact ⟨ret_b HE.out.symm,HB4.out.trans (hb5.mono HB4.out.size)⟩
                | true =>
                  have HALL : Hid (∀ u,u < j + 1 → ahB p.ps mp i at_ (I.getD u 0) = true) := fun u hu => by
                    by_cases e : u = j
                    · subst e; rw [← HX.out.1]; exact HT.out.symm
                    · exact hall3.out u (by omega)
                  go_wp2_with fail
                  refine hcall.mono ?_; rintro e w5 ⟨rfl,hb5⟩
                  have HB6 : Hid (Below wr2.heap.size wr2 w5) := hbw3.out.trans (hb5.mono hbw3.out.size)
                  go_wp2_with fail
                  go_roundw
                  case rel =>
                    exact ⟨j + 1,by omega,by go_num,HALL,HB6⟩
                  case measure => simp [intOf]; omega
              · have ej : j = M := by omega
                have HALL : Hid (∀ u,u < at_ + 1 → nodeB nds p.ps mp i u = true) := fun u hu => by
                  by_cases e : u = at_
                  · subst e
                    rw [HNK.out]
                    exact allD_true fun u hu => hall3.out u (by rw [ej,HM.out]; exact hu)
                  · exact hall2.out u (by omega)
                have h3b : ¬ (j : Int) < (M : Int) := by omega
                clear ej
                go_wp2_with fail
                go_roundw
                case rel =>
                  exact ⟨at_ + 1,by omega,by go_num,HALL,HB4⟩
                case measure => simp [intOf]; omega
          · have ea : at_ = L := by omega
            have HALL : Hid (∀ u,u < i + 1 → passB nds p.ps mp u = true) := fun u hu => by
              by_cases e : u = i
              · subst e
                rw [HPB.out,all_true fun u hu => hall2.out u (by omega),Bool.and_true]
                exact HFST.out
              · exact hall.out u (by omega)
            have h2b : ¬ (at_ : Int) < (L : Int) := by omega
            clear ea
            go_wp2_with fail
            go_roundw
            case rel =>
              exact ⟨i + 1,by omega,by go_num,HALL,hbw2⟩
            case measure => simp [intOf]; omega
    · have ei : i = P := by omega
      subst ei
      have HE : Hid (R = true) := HYES.out fun u hu => hall.out u (by rw [HPE.out]; exact hu)
      go_wp2_with fail
      go_ret
      exact ⟨ret_b HE.out.symm,hbw.out⟩
end Go.Proofs.YtaoamkbcegadcaaGreatDoor
