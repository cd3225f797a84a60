/- Texts joined: XZe. -/
import Derived.Test.YtaoamkbcegadcaaGreatDoorZa
set_option maxRecDepth 4000
/- Layer 20: rule 1 (nodes). -/
namespace Go.Proofs.YtaoamkbcegadcaaGreatDoor
open Go.RowKit Go.Bx Go.Od Go.Hp
attribute [local go_sem ↓] Go.wp_at_zero Go.wp_at_succ
set_option linter.unusedVariables false

def prI (ps : List Ps) (i j : Nat) : List (Nat × Nat) := prs (ps.take i) 0 ++ ((ps.getD i Ps.none).nodes.take j).map fun k => (i,k)
theorem prI_zero (ps : List Ps) (i : Nat) : prI ps i 0 = prs (ps.take i) 0 := by simp [prI]
theorem prI_next {ps : List Ps} {i j : Nat} (hj : j < (ps.getD i Ps.none).nodes.length) : prI ps i (j + 1) = prI ps i j ++ [(i,(ps.getD i Ps.none).nodes.getD j 0)] := by
  unfold prI
  rw [List.take_add_one,List.map_append,List.append_assoc]
  simp only [List.getD_eq_getElem?_getD] at hj ⊢
  rw [List.getElem?_eq_getElem hj]
  rfl
theorem prs_take {ps : List Ps} {i : Nat} (hi : i < ps.length) : prs (ps.take (i + 1)) 0 = prs (ps.take i) 0 ++ (ps.getD i Ps.none).nodes.map fun k => (i,k) := by
  rw [List.take_add_one,List.getElem?_eq_getElem hi,prs_app]
  have : (ps.take i).length = i := by rw [List.length_take]; omega
  rw [this]
  simp [prs,hi]
theorem prI_all {ps : List Ps} {i : Nat} (hi : i < ps.length) : prI ps i (ps.getD i Ps.none).nodes.length = prI ps (i + 1) 0 := by
  rw [prI_zero,prs_take hi]
  unfold prI
  rw [List.take_length]
theorem prI_end (ps : List Ps) : prI ps ps.length 0 = prs ps 0 := by rw [prI_zero,List.take_length]
theorem prs_split (ps : List Ps) (i : Nat) : ∃ b,prs ps 0 = prs (ps.take i) 0 ++ b := ⟨prs (ps.drop i) (0 + (ps.take i).length),by rw [← prs_app,List.take_append_drop]⟩
theorem prI_pre {ps : List Ps} {i : Nat} (hi : i < ps.length) (j : Nat) : ∃ b,prs ps 0 = prI ps i j ++ b := by
  obtain ⟨b,hb⟩ := prs_split ps (i + 1)
  rw [prs_take hi] at hb
  refine ⟨((ps.getD i Ps.none).nodes.drop j).map (fun k => (i,k)) ++ b,?_⟩
  rw [hb]
  unfold prI
  rw [List.append_assoc,List.append_assoc,← List.append_assoc (List.map _ _) (List.map _ _) b,← List.map_append,List.take_append_drop]
theorem mapOf_any (l : List (Nat × Nat)) (k : Nat) : (mapOf l k).isSome = l.any fun x => x.2 == k := by
  unfold mapOf
  rw [Option.isSome_map,List.isSome_find?]
theorem ck1_iff {nds : List Nd} {out : Int} {ps : List Ps} : ck1 nds out ps = true ↔ R1 (ned (insOf nds) out) (prs ps 0) = true ∧ ∀ k,k < nds.length → ned (insOf nds) out k = true → (mapOf (prs ps 0) k).isSome = true := by
  unfold ck1
  rw [Bool.and_eq_true,List.all_eq_true]
  constructor
  · rintro ⟨h1,h2⟩
    refine ⟨h1,fun k hk hn => ?_⟩
    have := h2 k (List.mem_range.2 hk)
    rw [hn] at this
    rw [mapOf_any]
    simpa using this
  · rintro ⟨h1,h2⟩
    refine ⟨h1,fun k hk => ?_⟩
    cases hn : ned (insOf nds) out k with
    | false => rfl
    | true =>
      have := h2 k (List.mem_range.1 hk) hn
      rw [mapOf_any] at this
      simpa using this
theorem mapOf_in {nd : Nat → Bool} {l : List (Nat × Nat)} (h : R1 nd l = true) {k : Nat} (hs : (mapOf l k).isSome = true) : nd k = true := by
  rw [mapOf_any,List.any_eq_true] at hs
  obtain ⟨x,hx,e⟩ := hs
  have := (R1_iff.1 h).2 x hx
  rwa [eq_of_beq e] at this
def QnPost (m : Nat) (w : World) (r : Bool) (mp : Nat → Option Nat) (e : Ending) (w' : World) : Prop := e = .returned (.bool r) ∧ KpX w.heap.size m w w' ∧ (r = true → MapI w' m 1000 1000 mp)
set_option maxRecDepth 4000 in
set_option maxHeartbeats 6400000 in
theorem qnodes_c {B q m : Nat} {nv pv : Value} {nds : List Nd} {out : Int} {want : Rc} {c : Cf} {p : Pn} (w : World) (hq : QM B q m nv nds out want c pv p w) (hm : MapI w m 1000 0 fun _ => none) (hg : GoodN nds out)
    (hP : p.ps.length ≤ 1000) (hc : (prs p.ps 0).length ≤ 1000) (hok : ∀ y ∈ p.ps,0 < y.nodes.length) (hk : ∀ y ∈ p.ps,∀ k ∈ y.nodes,k < nds.length) :
    Calls Tryz.prog 16 #[.pointer (some ⟨q,0,none⟩)] w (QnPost m w (ck1 nds out p.ps) (mapOf (prs p.ps 0))) := by
  have q0 := hq.box.cell 0 rfl
  have q1 := hq.box.cell 1 rfl
  have hnd := needed_c B nv nds out w (by have := hg.few; omega) hg.short hq.gr hq.hB
  obtain ⟨nd,hndf⟩ : ∃ nd,nd = ned (insOf nds) out := ⟨_,rfl⟩
  have HND : Hid (nd = ned (insOf nds) out) := hndf
  rw [← hndf] at hnd
  obtain ⟨n,hn⟩ : ∃ n,n = nds.length := ⟨_,rfl⟩
  have HN : Hid (n = nds.length) := hn
  have hn9 : n ≤ 100 := by have := hg.few; omega
  rw [← hn] at hnd hk
  obtain ⟨P,hPe⟩ : ∃ P,P = p.ps.length := ⟨_,rfl⟩
  have HPE : Hid (P = p.ps.length) := hPe
  rw [← hPe] at hP
  obtain ⟨a,cap,rfl⟩ := hq.sl
  have q11 := hq.box.cell 11 rfl
  have q18 := hq.box.cell 18 rfl
  rw [← hPe] at q11
  have HQ : Hid (QM B q m nv nds out want c (.slice a P cap) p w ∧ MapI w m 1000 0 fun _ => none) := by
    have : QM B q m nv nds out want c (.slice a P cap) p w ∧ MapI w m 1000 0 fun _ => none := by rw [hPe]; exact ⟨hq,hm⟩
    exact this
  have HH : Hid ((prs p.ps 0).length ≤ 1000 ∧ (∀ y ∈ p.ps,0 < y.nodes.length) ∧ ∀ y ∈ p.ps,∀ k ∈ y.nodes,k < n) := ⟨hc,hok,hk⟩
  obtain ⟨ck,hck⟩ : ∃ ck,ck = ck1 nds out p.ps := ⟨_,rfl⟩
  have HCK : Hid (ck = ck1 nds out p.ps) := hck
  rw [← hck]
  clear hq hm hg hc hok hk hn hPe hndf hck
  go_enter Tryz.func16,Tryz.ntmps16
  go_wp2_with fail
  refine hnd.mono ?_; rintro e w1 ⟨O,hO,rfl,hbox,hb1⟩
  clear hnd
  have H1 : Hid (QM B q m nv nds out want c (.slice a P cap) p w1 ∧ MapI w1 m 1000 0 (fun _ => none) ∧ Box w1 O (bc n nd) ∧ O ≠ m ∧ Below w.heap.size w w1) := ⟨HQ.out.1.call hb1,HQ.out.2.kept ⟨hb1.os,hb1.tape,hb1.output,hb1.size,fun k h _ => hb1.block k h⟩ (row := none) (by simp),hbox,by have := HQ.out.1.mlt; omega,hb1⟩
  have q11 := H1.out.1.box.cell 11 rfl
  clear q0 q1 hO hbox hb1
  go_wp2_with fail
  go_loopw [25] (fun iv wr => ∃ i : Nat,i ≤ P ∧ iv = .int .i64 i ∧ Hid (R1 nd (prI p.ps i 0) = true) ∧ Hid (KpX w1.heap.size m w1 wr ∧ MapI wr m 1000 (prI p.ps i 0).length (mapOf (prI p.ps i 0)))) (fun iv _ => P - (intOf iv).toNat)
  case atStart =>
    have e : prI p.ps 0 0 = [] := by simp [prI,prs]
    exact ⟨0,by omega,rfl,by rw [e]; exact Eq.refl _,by rw [e]; exact ⟨KpX.refl _ _ _,H1.out.2.1⟩⟩
  case round =>
    obtain ⟨i,hi,rfl,hr1,hkm⟩ := hrel
    by_cases h1 : i < P
    · have hip : i < p.ps.length := by rw [← HPE.out]; exact h1
      obtain ⟨y,hy⟩ : ∃ y,y = p.ps.getD i Ps.none := ⟨_,rfl⟩
      have HY : Hid (y = p.ps.getD i Ps.none ∧ i < p.ps.length) := ⟨hy,hip⟩
      have hym : y ∈ p.ps := by rw [hy]; exact getD_mem _ hip
      obtain ⟨b,o,na,nc,ra,rc,rfl,hbB,hpc,hs1,hs2⟩ := H1.out.1.gp.at hip hy
      have hbw : Below B w1 wr := hkm.out.1.below H1.out.1.hB H1.out.1.bm
      obtain ⟨k0,k1,k2,k3,k4,k5,k6,k7⟩ := hpc.below hbB hbw
      obtain ⟨L,hL⟩ : ∃ L,L = y.nodes.length := ⟨_,rfl⟩
      have HL : Hid (L = y.nodes.length) := hL
      have hLm : L ≤ maxLen := by
        obtain ⟨_,cc,hv,hz1,hz2,_⟩ := hs1
        rw [ofN_len] at hz1
        omega
      unfold maxLen at hLm
      have HKN : Hid (∀ k ∈ y.nodes,k < n) := HH.out.2.2 y hym
      have hl0 : ((L : Int) == 0) = false := beq_eq_false_iff_ne.2 (by have := HH.out.2.1 y hym; omega)
      rw [← hL] at k0 hs1
      obtain ⟨nodes,reads,⟨x0,y0,x1,y1⟩,sl,la⟩ := y
      dsimp only at k0 k1 k2 k3 k4 k5 k6 k7 hs1
      have X := Box.new wr [.slice na L nc,.slice ra reads.length rc,.int .i64 x0,.int .i64 y0,.int .i64 x1,.int .i64 y1,.int .i64 sl,.int .i64 la] 37
      have X0 := X.cell 0 rfl
      have hbn := below_new wr (.cells #[.slice na L nc,.slice ra reads.length rc,.int .i64 x0,.int .i64 y0,.int .i64 x1,.int .i64 y1,.int .i64 sl,.int .i64 la] 37)
      have HS : Hid (SlOf RInt 1 (· < B) w1 (.slice na L nc) (ofN nodes)) := hs1
      have HNX : Hid (∀ W,Below wr.heap.size wr W → KpX w1.heap.size m w1 W ∧ MapI W m 1000 (prI p.ps i 0).length (mapOf (prI p.ps i 0))) := fun W hW => ⟨hkm.out.1.call hW hkm.out.1.size,hkm.out.2.kept ⟨hW.os,hW.tape,hW.output,hW.size,fun k h _ => hW.block k h⟩ (row := none) (by simp)⟩
      have HBN : Hid _ := hbn
      clear hy hip hym hs1 hs2 hpc hbw hL X hbn
      go_wp2_with fail
      go_loopw [37] (fun jv wr => ∃ j : Nat,j ≤ L ∧ jv = .int .i64 j ∧ Hid (R1 nd (prI p.ps i j) = true) ∧ Hid (KpX w1.heap.size m w1 wr ∧ MapI wr m 1000 (prI p.ps i j).length (mapOf (prI p.ps i j)))) (fun jv _ => L - (intOf jv).toNat)
      case atStart => exact ⟨0,by omega,rfl,hr1,HNX.out _ HBN.out⟩
      case round =>
        rename World => wr2
        obtain ⟨j,hj,rfl,hr2,hkm2⟩ := hrel
        have HQ2 : Hid (QM B q m nv nds out want c (.slice (some ⟨b,o,none⟩) P cap) p wr2 ∧ Box wr2 O (bc n nd)) := by
          refine ⟨H1.out.1.kpx hkm2.out.1 (Nat.le_refl _),H1.out.2.2.1.of_block (hkm2.out.1.block O H1.out.2.2.1.lt H1.out.2.2.2.1)⟩
        have hr18 := HQ2.out.1.box.cell 18 rfl
        by_cases h2 : j < L
        · obtain ⟨na',nc',hv,hcap',hcm',hin',hcell⟩ := HS.out.ints
          obtain ⟨b2,o2,hna,hb2,hce⟩ := hcell j (by rw [ofN_len,← HL.out]; exact h2)
          simp only [Value.slice.injEq] at hv
          obtain ⟨rfl,_,rfl⟩ := hv
          subst hna
          have hb2w : Below B w1 wr2 := hkm2.out.1.below H1.out.1.hB H1.out.1.bm
          have hc0 := (hb2w.cell hb2).trans (hce j (by rw [ofN_len,← HL.out]; exact h2))
          rw [ofN_get] at hc0
          obtain ⟨k,hk⟩ : ∃ k,k = nodes.getD j 0 := ⟨_,rfl⟩
          have hkm : k ∈ nodes := by rw [hk]; exact getD_mem _ (by rw [← HL.out]; exact h2)
          rw [← hk] at hc0
          have hjn : j < (p.ps.getD i Ps.none).nodes.length := by rw [← HY.out.1]; rw [HL.out] at h2; exact h2
          have hnx : prI p.ps i (j + 1) = prI p.ps i j ++ [(i,k)] := by
            rw [prI_next hjn,← HY.out.1,hk]
          have HNX2 : Hid (prI p.ps i (j + 1) = prI p.ps i j ++ [(i,k)]) := hnx
          have hkn : k < n := HKN.out k hkm
          have hlook := hkm2.out.2.look2 (k := k) (by omega)
          obtain ⟨v,hv⟩ : ∃ v,v = (mapOf (prI p.ps i j) k).getD 0 := ⟨_,rfl⟩
          obtain ⟨is,his⟩ : ∃ is,is = (mapOf (prI p.ps i j) k).isSome := ⟨_,rfl⟩
          rw [← hv,← his] at hlook
          have HIS : Hid (is = (mapOf (prI p.ps i j) k).isSome) := his
          have hO := HQ2.out.2.cell k (bc_get nd hkn)
          obtain ⟨x,hx⟩ : ∃ x,x = nd k := ⟨_,rfl⟩
          have HX : Hid (x = nd k) := hx
          rw [← hx] at hO
          have hj0 : (0 : Int) ≤ (j : Int) := by omega
          have hj1 : (j : Int) < (L : Int) := by omega
          have hk0 : (0 : Int) ≤ (k : Int) := by omega
          have hk1 : (k : Int) < (n : Int) := by omega
          have hkd0 : decide ((k : Int) < 0) = false := decide_eq_false (by omega)
          have hkd1 : decide ((n : Int) ≤ (k : Int)) = false := decide_eq_false (by omega)
          have HR2 : Hid (R1 nd (prI p.ps i (j + 1)) = true ↔ is = false ∧ x = true) := by
            have : R1 nd (prI p.ps i (j + 1)) = true ↔ is = false ∧ x = true := by
              rw [hnx,R1_snoc hr2.out,← mapOf_none,hx,his]
              dsimp only
              cases mapOf (prI p.ps i j) k <;> simp
            exact this
          have HBAD : Hid ((is = false ∧ x = true → False) → ck = false) := fun hno => by
            rw [HCK.out]
            cases e : ck1 nds out p.ps with
            | false => rfl
            | true =>
              exfalso
              obtain ⟨t,ht⟩ := prI_pre (ps := p.ps) HY.out.2 (j + 1)
              have h := (ck1_iff.1 e).1
              rw [← HND.out,ht] at h
              exact hno (HR2.out.1 (R1_pre h))
          have HK2 : Hid (KpX w.heap.size m w wr2) := (KpX.of H1.out.2.2.2.2).trans ⟨hkm2.out.1.os,hkm2.out.1.tape,hkm2.out.1.output,hkm2.out.1.size,fun k h hne => hkm2.out.1.block k (Nat.lt_of_lt_of_le h H1.out.2.2.2.2.size) hne⟩
          clear hk hkm hv his hx hnx hjn hce hcell hin' hcm' hcap' hb2w hb2
          cases is with
          | true =>
            have HE : Hid (ck = false) := HBAD.out (fun h => by cases h.1)
            go_wp2_with fail
            go_ret
            exact ⟨ret_b HE.out.symm,HK2.out,fun h => by rw [HE.out] at h; cases h⟩
          | false =>
            cases x with
            | false =>
              have HE : Hid (ck = false) := HBAD.out (fun h => by cases h.2)
              go_wp2_with fail
              go_ret
              exact ⟨ret_b HE.out.symm,HK2.out,fun h => by rw [HE.out] at h; cases h⟩
            | true =>
              obtain ⟨w3,hput,hm3,hg3⟩ := hkm2.out.2.put (k := k) (v := i) (by omega) (by omega) (by
                obtain ⟨t,ht⟩ := prI_pre (ps := p.ps) HY.out.2 j
                have := HH.out.1
                rw [ht,List.length_append] at this
                omega)
              have HK3 : Hid (KpX w1.heap.size m w1 w3 ∧ MapI w3 m 1000 (prI p.ps i (j + 1)).length (mapOf (prI p.ps i (j + 1)))) := by
                refine ⟨hkm2.out.1.grown hg3 hkm2.out.1.size,?_⟩
                rw [HNX2.out,mapOf_snoc (by
                  have := HIS.out
                  cases e : mapOf (prI p.ps i j) k with
                  | none => rfl
                  | some u => rw [e] at this; cases this),List.length_append]
                exact hm3
              have HR3 : Hid (R1 nd (prI p.ps i (j + 1)) = true) := HR2.out.2 ⟨rfl,rfl⟩
              clear hm3 hg3
              go_wp2_with fail
              go_roundw
              case rel =>
                refine ⟨u2,_,_,_,_,⟨j + 1,by omega,?_,HR3,HK3⟩,rfl,rfl,rfl,rfl,rfl⟩
                go_num
              case measure => simp [intOf]; omega
        · have ej : j = L := by omega
          have hall : prI p.ps i j = prI p.ps (i + 1) 0 := by
            rw [ej,HL.out]
            have := prI_all HY.out.2
            rw [← HY.out.1] at this
            exact this
          have HR3 : Hid (R1 nd (prI p.ps (i + 1) 0) = true) := by rw [← hall]; exact hr2
          have HK3 : Hid (KpX w1.heap.size m w1 wr2 ∧ MapI wr2 m 1000 (prI p.ps (i + 1) 0).length (mapOf (prI p.ps (i + 1) 0))) := by rw [← hall]; exact hkm2
          have h2b : ¬ (j : Int) < (L : Int) := by omega
          clear hall ej
          go_wp2_with fail
          go_roundw
          case rel => exact ⟨i + 1,by omega,by go_num,HR3,HK3⟩
          case measure => simp [intOf]; omega
    · have ei : i = P := by omega
      have hR : R1 nd (prs p.ps 0) = true := by
        have := hr1.out
        rw [ei,HPE.out,prI_end] at this
        exact this
      have HR : Hid (R1 nd (prs p.ps 0) = true) := hR
      have HK : Hid (KpX w.heap.size m w wr ∧ MapI wr m 1000 1000 (mapOf (prs p.ps 0))) := by
        refine ⟨(KpX.of H1.out.2.2.2.2).trans ⟨hkm.out.1.os,hkm.out.1.tape,hkm.out.1.output,hkm.out.1.size,fun k h hne => hkm.out.1.block k (Nat.lt_of_lt_of_le h H1.out.2.2.2.2.size) hne⟩,?_⟩
        have := hkm.out.2
        rw [ei,HPE.out,prI_end] at this
        exact this.mono HH.out.1
      have HQ2 : Hid (QM B q m nv nds out want c (.slice a P cap) p wr ∧ Box wr O (bc n nd)) := by
        refine ⟨H1.out.1.kpx hkm.out.1 (Nat.le_refl _),H1.out.2.2.1.of_block (hkm.out.1.block O H1.out.2.2.1.lt H1.out.2.2.2.1)⟩
      have h1b : ¬ (i : Int) < (P : Int) := by omega
      clear hR ei
      have HA : Hid (Below wr.heap.size wr wr) := Below.refl _ _
      have hr18 := HQ2.out.1.box.cell 18 rfl
      go_wp2_with fail
      go_loopw [78] (fun kv wr' => ∃ k : Nat,k ≤ n ∧ kv = .int .i64 k ∧ Hid (∀ r,r < k → nd r = true → (mapOf (prs p.ps 0) r).isSome = true) ∧ Hid (Below wr.heap.size wr wr')) (fun kv _ => n - (intOf kv).toNat)
      case atStart => exact ⟨0,by omega,rfl,(fun r hr => by omega),HA⟩
      case round =>
        rename World => wr2
        obtain ⟨k,hk,rfl,hall,hb⟩ := hrel
        have HQ3 : Hid (QM B q m nv nds out want c (.slice a P cap) p wr2 ∧ Box wr2 O (bc n nd)) := ⟨HQ2.out.1.call hb.out,HQ2.out.2.call hb.out⟩
        have HK3 : Hid (KpX w.heap.size m w wr2 ∧ MapI wr2 m 1000 1000 (mapOf (prs p.ps 0))) := ⟨HK.out.1.call hb.out HK.out.1.size,HK.out.2.kept ⟨hb.out.os,hb.out.tape,hb.out.output,hb.out.size,fun k h _ => hb.out.block k h⟩ (row := none) (by simp)⟩
        have hs18 := HQ3.out.1.box.cell 18 rfl
        clear hr18
        by_cases h2 : k < n
        · have hlook := HK3.out.2.look2 (k := k) (by omega)
          obtain ⟨v,hv⟩ : ∃ v,v = (mapOf (prs p.ps 0) k).getD 0 := ⟨_,rfl⟩
          obtain ⟨is,his⟩ : ∃ is,is = (mapOf (prs p.ps 0) k).isSome := ⟨_,rfl⟩
          rw [← hv,← his] at hlook
          have HIS : Hid (is = (mapOf (prs p.ps 0) k).isSome) := his
          have hO := HQ3.out.2.cell k (bc_get nd h2)
          obtain ⟨x,hx⟩ : ∃ x,x = nd k := ⟨_,rfl⟩
          have HX : Hid (x = nd k) := hx
          rw [← hx] at hO
          have hk0 : (0 : Int) ≤ (k : Int) := by omega
          have hk1 : (k : Int) < (n : Int) := by omega
          have HIN : Hid (is = true → x = true) := fun e => by rw [HX.out]; exact mapOf_in HR.out (by rw [← HIS.out]; exact e)
          clear hv his hx hk
          cases is with
          | true =>
            obtain rfl : x = true := HIN.out rfl
            have HALL : Hid (∀ r,r < k + 1 → nd r = true → (mapOf (prs p.ps 0) r).isSome = true) := fun r hr hn => by
              by_cases e : r = k
              · subst e; exact HIS.out.symm
              · exact hall.out r (by omega) hn
            go_wp2_with fail
            go_roundw
            case rel => exact ⟨k + 1,by omega,by go_num,HALL,hb⟩
            case measure => simp [intOf]; omega
          | false =>
            cases x with
            | true =>
              have HE : Hid (ck = false) := by
                have : ck = false := by
                  rw [HCK.out]
                  cases e : ck1 nds out p.ps with
                  | false => rfl
                  | true =>
                    have := (ck1_iff.1 e).2 k (by rw [← HN.out]; exact h2) (by rw [← HND.out]; exact HX.out.symm)
                    rw [← HIS.out] at this
                    cases this
                exact this
              go_wp2_with fail
              go_ret
              exact ⟨ret_b HE.out.symm,HK3.out.1,fun h => by rw [HE.out] at h; cases h⟩
            | false =>
              have HALL : Hid (∀ r,r < k + 1 → nd r = true → (mapOf (prs p.ps 0) r).isSome = true) := fun r hr hn => by
                by_cases e : r = k
                · subst e; rw [← HX.out] at hn; cases hn
                · exact hall.out r (by omega) hn
              go_wp2_with fail
              go_roundw
              case rel => exact ⟨k + 1,by omega,by go_num,HALL,hb⟩
              case measure => simp [intOf]; omega
        · have ek : k = n := by omega
          have HE : Hid (ck = true) := by
            have : ck = true := by
              rw [HCK.out,ck1_iff,← HND.out,← HN.out]
              exact ⟨HR.out,fun r hr hn => hall.out r (by omega) hn⟩
            exact this
          have h2b : ¬ (k : Int) < (n : Int) := by omega
          clear ek
          go_wp2_with fail
          go_ret
          exact ⟨ret_b HE.out.symm,HK3.out.1,fun _ => HK3.out.2⟩
end Go.Proofs.YtaoamkbcegadcaaGreatDoor
