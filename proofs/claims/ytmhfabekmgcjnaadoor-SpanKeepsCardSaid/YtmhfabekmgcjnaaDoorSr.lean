/- Layer 17: span.Reads. -/
import Derived.Test.YtmhfabekmgcjnaaDoorSl
namespace Go.Proofs.YtmhfabekmgcjnaaDoor
open Go.RowKit Go.Bx Go.Od Go.Hp Go.Sort
attribute [local go_sem ↓] Go.wp_at_zero Go.wp_at_succ
set_option linter.unusedVariables false

theorem LL.belowN {B C : Nat} {W W' : World} {lv : Value} {L : List (List Int)} (h : LL B W lv L) (hb : Below C W W') (hC : B ≤ C) : LL B W' lv L := h.below (hb.mono hC)
/-- what Reads leaves -/
def RdPost (w : World) (R : List (List Int)) (e : Ending) (w' : World) : Prop := ∃ a c vs, e = .returned (.slice a R.length c) ∧ GI w.heap.size R (.slice a R.length c) vs w' ∧ Below w.heap.size w w'
theorem take_map {α β : Type} {L : List α} {d : α} {f : α → β} {i : Nat} (hi : i < L.length) : (L.take (i + 1)).map f = (L.take i).map f ++ [f (L.getD i d)] := by
  rw [List.take_succ_eq_append_getElem hi, List.map_append]
  simp [hi]
theorem take_flat {L : List Int} {f : Int → List Int} {i : Nat} (hi : i < L.length) : (L.take (i + 1)).flatMap f = (L.take i).flatMap f ++ f (L.getD i 0) := by
  rw [List.take_succ_eq_append_getElem hi, List.flatMap_append]
  simp [hi]
theorem take_filt {L : List Int} {p : Int → Bool} {i : Nat} (hi : i < L.length) : (L.take (i + 1)).filter p = if p (L.getD i 0) = true then (L.take i).filter p ++ [L.getD i 0] else (L.take i).filter p := by
  rw [List.take_succ_eq_append_getElem hi, List.filter_append]
  have e : L.getD i 0 = L[i] := by simp [hi]
  rw [e]
  by_cases h : p L[i] = true
  · rw [if_pos h, List.filter_cons_of_pos h, List.filter_nil]
  · rw [if_neg h, List.filter_cons_of_neg h, List.filter_nil, List.append_nil]
theorem flat_len {nds : List Nd} (hs : ∀ i, (nds.getD i Nd.none).ins.length ≤ 1000) (g : List Int) (k : Nat) (h : k ≤ 100) : ((g.take k).flatMap (rdF nds g)).length ≤ 100000 := by
  have := rdL_len hs (g.take k) g
  have h2 : (g.take k).length ≤ k := by rw [List.length_take]; omega
  omega
set_option maxRecDepth 4000 in
set_option maxHeartbeats 3200000 in
theorem reads_c (B : Nat) (nv lv : Value) (nds : List Nd) (out : Int) (L : List (List Int)) (w : World) (hm : nds.length ≤ 900) (hs : ∀ i, (nds.getD i Nd.none).ins.length ≤ 1000) (hg : Gr B w nv nds) (hL : LL B w lv L) (hB : B ≤ w.heap.size) (hLn : L.length ≤ 900) (hk : ∀ g ∈ L, g.length ≤ 100 ∧ ∀ x ∈ g, 0 ≤ x ∧ x < nds.length) :
    Calls Tryd.prog 10 #[.agg #[nv, .int .i64 out], lv] w (RdPost w (L.map (rdS nds))) := by
  have hgl := hg.len_le
  obtain ⟨ga, gc, rfl⟩ := hg.isSl
  obtain ⟨la, lc, rfl, hLm⟩ := hL.isSl
  obtain ⟨i3, hi3, hz0, hz1, hz2⟩ := info_parts infoI
  obtain ⟨iS, hiS, sz0, sz1, sz2⟩ := info_parts infoS
  have HG : Hid (Gr B w (.slice ga nds.length gc) nds ∧ LL B w (.slice la L.length lc) L ∧ (∀ i, (nds.getD i Nd.none).ins.length ≤ 1000) ∧ ∀ g ∈ L, g.length ≤ 100 ∧ ∀ x ∈ g, 0 ≤ x ∧ x < nds.length) := ⟨hg, hL, hs, hk⟩
  clear hg hL hs hk
  go_enter Tryd.func10, Tryd.ntmps10
  go_wp2_with fail
  have X := Box.new w [.slice ga nds.length gc, .int .i64 out] 24
  have hb1 := below_alloc w (.cells #[.slice ga nds.length gc, .int .i64 out] 24)
  obtain ⟨W1, hW1⟩ : ∃ W, W = w.alloc (.cells #[.slice ga nds.length gc, .int .i64 out] 24) := ⟨_, rfl⟩
  rw [← hW1] at X hb1 ⊢
  clear hW1
  have HW : Hid (Box W1 w.heap.size [.slice ga nds.length gc, .int .i64 out] ∧ Below w.heap.size w W1) := ⟨X, hb1⟩
  have H0 : Hid (QO W1 ((L.take 0).map (rdS nds)) (.slice none 0 0) W1) := ⟨[], by exact GI.nil _ _, Below.refl _ _⟩
  have HBW : Hid (∀ wr, Below W1.heap.size W1 wr → Box wr w.heap.size [.slice ga nds.length gc, .int .i64 out] ∧ Below w.heap.size w wr ∧ Gr B wr (.slice ga nds.length gc) nds ∧ LL B wr (.slice la L.length lc) L) := fun wr hb => by
    have hbw : Below w.heap.size w wr := HW.out.2.trans (hb.mono HW.out.2.size)
    exact ⟨HW.out.1.call hb, hbw, HG.out.1.below hbw hB, HG.out.2.1.belowN hbw hB⟩
  clear X hb1
  go_loopw [5, 15] (fun ov iv wr => ∃ i : Nat, i ≤ L.length ∧ iv = .int .i64 i ∧ QO W1 ((L.take i).map (rdS nds)) ov wr) (fun _ iv _ => L.length - (intOf iv).toNat)
  case atStart => exact ⟨0, Nat.zero_le _, rfl, H0.out⟩
  case round =>
    obtain ⟨i, hi, rfl, hr⟩ := hrel
    clear H0
    obtain ⟨oa, oc, hov⟩ := hr.isSl
    subst hov
    by_cases hil : i < L.length
    · have HR : Hid (QO W1 ((L.take i).map (rdS nds)) (.slice oa ((L.take i).map (rdS nds)).length oc) wr) := hr
      obtain ⟨b, o, c, x, y, hlv, hbB, c0w, hsg⟩ := HG.out.2.1.at hil
      have c0 := ((HBW.out wr hr.bel).2.1.cell (lt_of_cell c0w)).trans c0w
      simp only [Value.slice.injEq, true_and] at hlv
      obtain ⟨rfl, rfl⟩ := hlv
      obtain ⟨g, hg⟩ : ∃ g, g = L.getD i [] := ⟨_, rfl⟩
      have hgm : g ∈ L := by rw [hg]; simp [hil]
      rw [← hg] at c0 hsg
      clear c0w
      obtain ⟨m, hm1⟩ : ∃ m, m = g.length := ⟨_, rfl⟩
      have HGM : Hid (m = g.length ∧ g = L.getD i [] ∧ ∀ x ∈ g, 0 ≤ x ∧ x < nds.length) := ⟨hm1, hg, (HG.out.2.2.2 g hgm).2⟩
      have hm100 : m ≤ 100 := by rw [hm1]; exact (HG.out.2.2.2 g hgm).1
      rw [← hm1] at c0 hsg
      have HSG : Hid (∀ wr', Below w.heap.size w wr' → SlOf RInt 1 (· < B) wr' (.slice x m y) g) := fun wr' hb => sl_below hsg (hb.mono hB)
      have hi0 : (0 : Int) ≤ (i : Int) := by omega
      have hi1 : (i : Int) < (L.length : Int) := by omega
      obtain ⟨n8, hn8⟩ : ∃ n, n = ((L.take i).map (rdS nds)).length := ⟨_, rfl⟩
      have HN8 : Hid (n8 = ((L.take i).map (rdS nds)).length) := hn8
      have hn8l : n8 ≤ 900 := by rw [hn8]; simp; omega
      rw [← hn8] at HR ⊢
      obtain ⟨X, hX⟩ : ∃ X, X = wr.heap.size := ⟨_, rfl⟩
      have H1 : Hid (QI W1 ((L.take i).map (rdS nds)) (.slice oa n8 oc) (.slice none 0 0) ((g.take 0).flatMap (rdF nds g)) X wr) := by rw [hX]; exact HR.out.start
      clear hr hX hg hm1 hn8 hgm hsg HR
      go_wp2_with fail
      clear c0
      go_loopw [8, 21] (fun rv kv wr => ∃ k : Nat, k ≤ m ∧ kv = .int .i64 k ∧ QI W1 ((L.take i).map (rdS nds)) (.slice oa n8 oc) rv ((g.take k).flatMap (rdF nds g)) X wr) (fun _ kv _ => m - (intOf kv).toNat)
      case atStart => exact ⟨0, Nat.zero_le _, rfl, H1.out⟩
      case round =>
        obtain ⟨k, hk, rfl, hr⟩ := hrel
        clear H1
        obtain ⟨rva, rvc, hrv⟩ := hr.isSl
        subst hrv
        obtain ⟨rvn, hrvn⟩ : ∃ n, n = ((g.take k).flatMap (rdF nds g)).length := ⟨_, rfl⟩
        have HRVN : Hid (rvn = ((g.take k).flatMap (rdF nds g)).length) := hrvn
        rw [← hrvn] at hr ⊢
        clear hrvn
        by_cases hkm : k < m
        · have hfl : ((g.take k).flatMap (rdF nds g)).length ≤ 100000 := flat_len HG.out.2.2.1 g k (by omega)
          obtain ⟨gb, go, gcap, hgv, _, hgc, _, _⟩ := sl_cellsS (HSG.out wr (HBW.out wr hr.bel).2.1) (by rw [← HGM.out.1]; omega)
          simp only [Value.slice.injEq] at hgv
          obtain ⟨rfl, he1, he2⟩ := hgv
          clear he1 he2
          have c1 := hgc k (by rw [← HGM.out.1]; exact hkm)
          obtain ⟨u, hu, hun⟩ : ∃ u : Nat, g.getD k 0 = u ∧ u < nds.length := by
            have hm' : g.getD k 0 ∈ g := by
              have hkl : k < g.length := by rw [← HGM.out.1]; exact hkm
              have : g[k]? = some (g.getD k 0) := by simp [hkl]
              exact List.mem_of_getElem? this
            have := HGM.out.2.2 _ hm'
            exact ⟨(g.getD k 0).toNat, by omega, by omega⟩
          rw [hu] at c1
          obtain ⟨nb, no, ncap, ia, ic, pa, pc, hv, hbB2, hcap, hcm, k0, k1, k2, s1, s2⟩ := HG.out.1.node hun
          simp only [Value.slice.injEq, true_and] at hv
          obtain ⟨rfl, rfl⟩ := hv
          have hbw := (HBW.out wr hr.bel).2.1
          have n1 := (hbw.cell (lt_of_cell k1)).trans k1
          have g0 := (HBW.out wr hr.bel).1.cell 0 rfl
          obtain ⟨ins, hins⟩ : ∃ ins, ins = (nds.getD u Nd.none).ins := ⟨_, rfl⟩
          obtain ⟨q, hq⟩ : ∃ q, q = ins.length := ⟨_, rfl⟩
          rw [← hins] at n1 s1
          rw [← hq] at n1 s1
          have hq1000 : q ≤ 1000 := by rw [hq, hins]; exact HG.out.2.2.1 u
          have HSI : Hid (∀ wr', Below w.heap.size w wr' → SlOf RInt 1 (· < B) wr' (.slice ia q ic) ins) := fun wr' hb => sl_below s1 (hb.mono hB)
          have HIN : Hid (q = ins.length ∧ rdF nds g (g.getD k 0) = ins.filter fun x => !g.contains x) := ⟨hq, by rw [hu, hins]; rfl⟩
          obtain ⟨pre, hpre⟩ : ∃ pre, pre = (g.take k).flatMap (rdF nds g) := ⟨_, rfl⟩
          have HPR : Hid (pre = (g.take k).flatMap (rdF nds g)) := hpre
          rw [← hpre] at hr hfl
          have H2 : Hid (QI W1 ((L.take i).map (rdS nds)) (.slice oa n8 oc) (.slice rva rvn rvc) (pre ++ (ins.take 0).filter fun x => !g.contains x) X wr) := (by simpa using hr : QI W1 ((L.take i).map (rdS nds)) (.slice oa n8 oc) (.slice rva rvn rvc) (pre ++ (ins.take 0).filter fun x => !g.contains x) X wr)
          have hk0 : (0 : Int) ≤ (k : Int) := by omega
          have hk1 : (k : Int) < (m : Int) := by omega
          have hu0 : (0 : Int) ≤ (u : Int) := by omega
          have hu1 : (u : Int) < (nds.length : Int) := by omega
          clear hgc k0 k1 k2 s1 s2 hr hins hq hpre hu hbw
          go_wp2_with fail
          clear c1 n1 g0
          go_loopw [8, 32] (fun rv jv wr => ∃ j : Nat, j ≤ q ∧ jv = .int .i64 j ∧ QI W1 ((L.take i).map (rdS nds)) (.slice oa n8 oc) rv (pre ++ (ins.take j).filter fun x => !g.contains x) X wr) (fun _ jv _ => q - (intOf jv).toNat)
          case atStart => exact ⟨0, Nat.zero_le _, rfl, H2.out⟩
          case round =>
            obtain ⟨j, hj, rfl, hr⟩ := hrel
            clear H2
            obtain ⟨ra, rc, hrv⟩ := hr.isSl
            subst hrv
            by_cases hjq : j < q
            · obtain ⟨ib, io, icap, hiv, _, hic, _, _⟩ := sl_cellsS (HSI.out wr (HBW.out wr hr.bel).2.1) (by rw [← HIN.out.1]; omega)
              simp only [Value.slice.injEq] at hiv
              obtain ⟨rfl, he1, he2⟩ := hiv
              clear he1 he2
              have c1 := hic j (by rw [← HIN.out.1]; exact hjq)
              obtain ⟨z, hz⟩ : ∃ z, z = ins.getD j 0 := ⟨_, rfl⟩
              rw [← hz] at c1
              obtain ⟨M, hM⟩ : ∃ M, M = pre ++ (ins.take j).filter fun x => !g.contains x := ⟨_, rfl⟩
              have hMl : M.length ≤ 101000 := by
                rw [hM, List.length_append]
                have h1 := List.length_filter_le (fun x => !g.contains x) (ins.take j)
                have h2 : (ins.take j).length ≤ j := by rw [List.length_take]; omega
                omega
              obtain ⟨cz, hcz⟩ : ∃ cz, cz = g.contains z := ⟨_, rfl⟩
              have HT : Hid (pre ++ (ins.take (j + 1)).filter (fun x => !g.contains x) = if (!cz) = true then M ++ [z] else M) := by
                have : pre ++ (ins.take (j + 1)).filter (fun x => !g.contains x) = if (!cz) = true then M ++ [z] else M := by
                  rw [take_filt (by rw [← HIN.out.1]; exact hjq), ← hz, ← hcz, hM]
                  split
                  · rw [List.append_assoc]
                  · rfl
                exact this
              rw [← hM] at hr ⊢
              obtain ⟨nM, hnM⟩ : ∃ nM, nM = M.length := ⟨_, rfl⟩
              have HR : Hid (QI W1 ((L.take i).map (rdS nds)) (.slice oa n8 oc) (.slice ra nM rc) M X wr ∧ nM = M.length) := ⟨by rw [hnM]; exact hr, hnM⟩
              have hbw := (HBW.out wr hr.bel).2.1
              have hcc := contains_c (HSG.out wr hbw) z
              rw [← hcz] at hcc
              have HCC : Hid (Calls Tryd.prog 20 #[.slice (some ⟨gb, go, none⟩) m y, .int .i64 z] wr fun e w' => e = .returned (.bool cz) ∧ w' = wr) := hcc
              have hj0 : (0 : Int) ≤ (j : Int) := by omega
              have hj1 : (j : Int) < (q : Int) := by omega
              rw [← hnM] at hMl ⊢
              clear hic hr hz hM hcz hcc hbw hnM
              go_wp2_with fail
              refine HCC.out.mono ?_; rintro e w5 ⟨rfl, rfl⟩
              clear HCC
              cases cz with
              | true =>
                have HE : Hid (pre ++ (ins.take (j + 1)).filter (fun x => !g.contains x) = M) := HT.out
                have HR5 : Hid (QI W1 ((L.take i).map (rdS nds)) (.slice oa n8 oc) (.slice ra nM rc) M X w5) := HR.out.1
                clear HT HR c1
                go_wp2_with fail
                go_roundw
                case rel => exact ⟨j + 1, by omega, by go_num, by rw [HE.out]; exact HR5.out⟩
                case measure => simp [intOf]; omega
              | false =>
                have HE : Hid (pre ++ (ins.take (j + 1)).filter (fun x => !g.contains x) = M ++ [z]) := HT.out
                obtain ⟨hown5, hX5⟩ := HR.out.1.own
                have HO5 : Hid (OwnP w5 X (.slice ra nM rc) M) := hown5
                have HM : Hid (nM + 1 ≤ maxLen ∧ (nM + 1) * 8 ≤ 140737488355328) := by constructor <;> (try unfold maxLen) <;> omega
                have HAPP : Hid (∀ (w8 : World) (o : Obj) (g8 c8 : Nat), w8.ownsRow X 3 1 (.slice (some ⟨g8, 0, none⟩) (nM + 1) c8) (nM + 1) (M.map (Value.int .i64) ++ [.int .i64 z]) → (w5.alloc o).grownBy w8 (Value.slice ra nM rc).ownBlock → QI W1 ((L.take i).map (rdS nds)) (.slice oa n8 oc) (.slice (some ⟨g8, 0, none⟩) (nM + 1) c8) (M ++ [z]) X w8) := fun w8 o g8 c8 h1 h2 => by
                  have e := HR.out.2
                  rw [e] at h1 ⊢
                  exact HR.out.1.app h1 h2
                have HNM : Hid (M.length = nM) := HR.out.2.symm
                have HAL : Hid ((M ++ [z]).length = nM + 1) := by
                  have : (M ++ [z]).length = nM + 1 := by rw [List.length_append, HR.out.2]; rfl
                  exact this
                clear HT hown5 HR c1
                go_wp2_with (at_builtin; refine wpList_append_lies _ rfl _ _ 31 rfl X 3 i3 (.int .i64 0) 1 8 Tryd.underlying31 hi3 hz0 hz1 hz2 rfl (by decide) (.slice ra nM rc) nM (M.map (Value.int .i64)) rfl (OwnP.row HNM.out (HO5.out.alloc (.cells #[.int .i64 z] 3))) _ 1 1 [.int .i64 z] rfl rfl (news_one (by simp)) (by simp [Value.oneCell']) (by decide) HM.out.1 HM.out.2 (by first | omega | (simp; omega)) _ rfl ?_; intro g8 c8 w8 hown8 hgrow8 hat8 hlt8; have HA : Hid (QI W1 ((L.take i).map (rdS nds)) (.slice oa n8 oc) (.slice (some ⟨g8, 0, none⟩) (nM + 1) c8) (M ++ [z]) X w8) := HAPP.out w8 _ g8 c8 hown8 hgrow8; clear hown8 hgrow8 hat8 hlt8)
                go_roundw
                case rel => exact ⟨j + 1, by omega, by go_num, by rw [HE.out]; exact HA.out⟩
                case measure => simp [intOf]; omega
            · have ej : j = q := by omega
              subst ej
              have hE : pre ++ (ins.take j).filter (fun x => !g.contains x) = (g.take (k + 1)).flatMap (rdF nds g) := by
                rw [take_flat (by rw [← HGM.out.1]; exact hkm), HIN.out.2, HIN.out.1, List.take_length, HPR.out]
              rw [hE] at hr ⊢
              have HR5 : Hid (QI W1 ((L.take i).map (rdS nds)) (.slice oa n8 oc) (.slice ra ((g.take (k + 1)).flatMap (rdF nds g)).length rc) ((g.take (k + 1)).flatMap (rdF nds g)) X wr) := hr
              clear hr hE
              go_wp2_with fail
              go_roundw
              case rel => exact ⟨k + 1, by omega, by go_num, HR5.out⟩
              case measure => simp [intOf]; omega
        · have ek : k = m := by omega
          subst ek
          have hE : (g.take k).flatMap (rdF nds g) = rdL nds g := by rw [HGM.out.1, List.take_length]; rfl
          have hRl : (rdL nds g).length ≤ 100000 := by rw [← hE]; exact flat_len HG.out.2.2.1 g k (by omega)
          rw [hE] at hr
          rw [hE] at HRVN
          have HR : Hid (QI W1 ((L.take i).map (rdS nds)) (.slice oa n8 oc) (.slice rva rvn rvc) (rdL nds g) X wr) := hr
          have hsort := sort_c hr.own.1 (by omega)
          have HST : Hid (∀ w', OwnP w' X (.slice rva rvn rvc) (srt (rdL nds g)) → wr.grownBy w' (Value.slice rva rvn rvc).ownBlock → QI W1 ((L.take i).map (rdS nds)) (.slice oa n8 oc) (.slice rva rvn rvc) (srt (rdL nds g)) X w') := fun w' h1 h2 => HR.out.turn h1 h2
          have HCM : Hid ((L.take (i + 1)).map (rdS nds) = (L.take i).map (rdS nds) ++ [rdS nds g]) := by
            have : (L.take (i + 1)).map (rdS nds) = (L.take i).map (rdS nds) ++ [rdS nds g] := by rw [take_map (d := []) hil, ← HGM.out.2.1]
            exact this
          clear hE hr HR
          go_wp2_with fail
          refine hsort.mono ?_; rintro e w5 ⟨rfl, ho5, hg5⟩
          have HR5 : Hid (QI W1 ((L.take i).map (rdS nds)) (.slice oa n8 oc) (.slice rva rvn rvc) (srt (rdL nds g)) X w5) := HST.out w5 ho5 hg5
          have hcomp := compact_c ho5 (by rw [srt_len]; omega)
          clear ho5 hg5 hsort HST
          go_wp2_with fail
          refine hcomp.mono ?_; rintro e w6 ⟨cv, rfl, ho6, hg6⟩
          have HR6 : Hid (QI W1 ((L.take i).map (rdS nds)) (.slice oa n8 oc) cv (rdS nds g) X w6) := HR5.out.turn ho6 hg6
          clear ho6 hg6 hcomp HR5
          obtain ⟨ca, cc, hcv⟩ := HR6.out.isSl
          subst hcv
          obtain ⟨cn, hcn⟩ : ∃ n, n = (rdS nds g).length := ⟨_, rfl⟩
          rw [← hcn] at HR6 ⊢
          clear hcn
          obtain ⟨vs, hown, hsz, hpush⟩ := HR6.out.row
          rw [← HN8.out] at hown hpush
          have HBK : Hid (∀ (o : Obj) (w8 : World) (g8 c8 : Nat), (w6.alloc o).grownBy w8 (Value.slice oa n8 oc).ownBlock → w8.ownsRow W1.heap.size 31 1 (.slice (some ⟨g8, 0, none⟩) (n8 + 1) c8) (n8 + 1) (vs ++ [.slice ca cn cc]) → QO W1 ((L.take i).map (rdS nds) ++ [rdS nds g]) (.slice (some ⟨g8, 0, none⟩) (n8 + 1) c8) w8) := hpush
          have HO : Hid (w6.ownsRow W1.heap.size 31 1 (.slice oa n8 oc) n8 vs) := hown
          have HM : Hid (n8 + 1 ≤ maxLen ∧ (n8 + 1) * 24 ≤ 140737488355328) := by constructor <;> (try unfold maxLen) <;> omega
          clear hown hpush HR6
          go_wp2_with (at_builtin; refine wpList_append_lies _ rfl _ _ 27 rfl W1.heap.size 31 iS (.slice none 0 0) 1 24 Tryd.underlying27 hiS sz0 sz1 sz2 rfl (by decide) (.slice oa n8 oc) n8 vs rfl (HO.out.alloc (.cells #[.slice ca cn cc] 31)) _ 1 1 [.slice ca cn cc] rfl rfl (news_one (by simp)) (by simp [Value.oneCell']) (by decide) HM.out.1 HM.out.2 (by first | omega | (simp; omega)) _ rfl ?_; intro g8 c8 w8 hown8 hgrow8 hat8 hlt8; have HA : Hid (QO W1 ((L.take i).map (rdS nds) ++ [rdS nds g]) (.slice (some ⟨g8, 0, none⟩) (n8 + 1) c8) w8) := HBK.out _ w8 g8 c8 hgrow8 hown8; clear hown8 hgrow8 hat8 hlt8)
          go_roundw
          case rel => exact ⟨i + 1, by omega, by go_num, by rw [HCM.out]; exact HA.out⟩
          case measure => simp [intOf]; omega
    · have ei : i = L.length := by omega
      subst ei
      rw [List.take_length] at hr ⊢
      have HE : Hid (RdPost w (L.map (rdS nds)) (.returned (.slice oa (L.map (rdS nds)).length oc)) wr) := by
        obtain ⟨vs, h1, h2⟩ := hr
        exact ⟨oa, oc, vs, rfl, h1.mono HW.out.2.size, HW.out.2.trans (h2.mono HW.out.2.size)⟩
      clear hr
      go_wp2_with fail
      go_ret
      exact HE.out
end Go.Proofs.YtmhfabekmgcjnaaDoor
