/- Layer 17: the document's In, Reads, Until. -/
import Derived.Test.YtmhfabekmgcjnaaDoorSu
namespace Go.Proofs.YtmhfabekmgcjnaaDoor
open Go.RowKit Go.Bx Go.Od Go.Hp Go.Sort
attribute [local go_sem ↓] Go.wp_at_zero Go.wp_at_succ
set_option linter.unusedVariables false

set_option maxHeartbeats 1600000 in
theorem in_c {F : Nat → Prop} (v : Value) (xs : List Int) (x : Int) (w : World) (hs : SlOf RInt 1 F w v xs) :
    Calls Tryd.prog 24 #[v, .int .i64 x] w fun e w' => e = .returned (.bool (xs.contains x)) ∧ w' = w := by
  obtain ⟨ia, ic, rfl, hic, hicm, hin, hcell⟩ := hs.ints
  have HC : Hid (∀ j, j < xs.length → ∃ b2 o2, ia = some ⟨b2, o2, none⟩ ∧ w.cell? ⟨b2, o2 + j, none⟩ = some (.int .i64 (xs.getD j 0))) := fun j hj => by
    obtain ⟨b', o', h1, h2, h3⟩ := hcell j hj
    exact ⟨b', o', h1, h3 j hj⟩
  unfold maxLen at hicm
  clear hin hcell hs
  go_enter Tryd.func24, Tryd.ntmps24
  go_wp2_with fail
  go_loop [5] (fun jv => ∃ j : Nat, j ≤ xs.length ∧ jv = .int .i64 j ∧ Hid (∀ q, q < j → xs.getD q 0 ≠ x)) (fun jv => xs.length - (intOf jv).toNat)
  case atStart => exact ⟨0, by omega, rfl, fun j hj => by omega⟩
  case round =>
    obtain ⟨j, hj, rfl, hall⟩ := hrel
    by_cases h1 : j < xs.length
    · obtain ⟨b', o', rfl, hc⟩ := HC.out j h1
      obtain ⟨z, hz⟩ : ∃ z, z = xs.getD j 0 := ⟨_, rfl⟩
      rw [← hz] at hc
      have HZ : Hid (z = xs.getD j 0) := hz
      clear hz
      by_cases h2 : z = x
      · have h3 : (z == x) = true := by simp [h2]
        have HE : Hid (decide (x ∈ xs) = true) := decide_eq_true (by rw [← h2, HZ.out]; simp [h1])
        have h4 : decide (z = x) = true := decide_eq_true h2
        clear h2
        go_wp2_with fail
        go_ret
        exact ⟨ret_b HE.out.symm, rfl⟩
      · have h3 : (z == x) = false := by simp [h2]
        have h4 : decide (z = x) = false := decide_eq_false h2
        have H5 : Hid (∀ q, q < j + 1 → xs.getD q 0 ≠ x) := fun q hq => by
          by_cases e : q = j
          · subst e; rw [← HZ.out]; exact h2
          · exact hall.out q (by omega)
        go_wp2_with fail
        go_round
        case rel => exact ⟨j + 1, by omega, by go_num, H5⟩
        case measure => simp [intOf]; omega
    · have : j = xs.length := by omega
      subst this
      have HE : Hid (decide (x ∈ xs) = false) := dec_any_end hall.out
      go_wp2_with fail
      go_ret
      exact ⟨ret_b HE.out.symm, rfl⟩
def anyK (nds : List Nd) (g : List Int) (z : Int) (k : Nat) : Bool := (g.take k).any fun k => decide (z ∈ (nds.getD k.toNat Nd.none).ins)
theorem anyK_step {nds : List Nd} {g : List Int} {z : Int} {k : Nat} (h : k < g.length) : anyK nds g z (k + 1) = (anyK nds g z k || decide (z ∈ (nds.getD (g.getD k 0).toNat Nd.none).ins)) := by
  unfold anyK
  rw [List.take_succ_eq_append_getElem h, List.any_append]
  simp [h]
set_option maxRecDepth 4000 in
set_option maxHeartbeats 3200000 in
theorem rreads_c (B : Nat) (nv lv : Value) (nds : List Nd) (out : Int) (L : List (List Int)) (w : World) (hk : GrpOk nds L) (hg : Gr B w nv nds) (hL : LL B w lv L) (hB : B ≤ w.heap.size) :
    Calls Tryd.prog 11 #[.agg #[nv, .int .i64 out], lv] w (RdPost w (L.map (rdS nds))) := by
  have hgl := hg.len_le
  have hm900 := hk.few
  have hLn := hk.len
  obtain ⟨ga, gc, rfl⟩ := hg.isSl
  obtain ⟨la, lc, rfl, hLm⟩ := hL.isSl
  obtain ⟨i3, hi3, hz0, hz1, hz2⟩ := info_parts infoI
  obtain ⟨iS, hiS, sz0, sz1, sz2⟩ := info_parts infoS
  have HG : Hid (Gr B w (.slice ga nds.length gc) nds ∧ LL B w (.slice la L.length lc) L ∧ GrpOk nds L) := ⟨hg, hL, hk⟩
  clear hg hL hk
  go_enter Tryd.func11, Tryd.ntmps11
  go_wp2_with fail
  have X := Box.new w [.slice ga nds.length gc, .int .i64 out] 24
  have hb1 := below_alloc w (.cells #[.slice ga nds.length gc, .int .i64 out] 24)
  obtain ⟨W1, hW1⟩ : ∃ W, W = w.alloc (.cells #[.slice ga nds.length gc, .int .i64 out] 24) := ⟨_, rfl⟩
  rw [← hW1] at X hb1 ⊢
  clear hW1
  have HW : Hid (Box W1 w.heap.size [.slice ga nds.length gc, .int .i64 out] ∧ Below w.heap.size w W1) := ⟨X, hb1⟩
  have H0 : Hid (QO W1 ((L.take 0).map (rdS nds)) (.slice none 0 0) W1) := ⟨[], by exact GI.nil _ _, Below.refl _ _⟩
  have HBW : Hid (∀ wr, Below W1.heap.size W1 wr → Box wr w.heap.size [.slice ga nds.length gc, .int .i64 out] ∧ Below w.heap.size w wr ∧ Gr B wr (.slice ga nds.length gc) nds ∧ B ≤ wr.heap.size) := fun wr hb => by
    have hbw : Below w.heap.size w wr := HW.out.2.trans (hb.mono HW.out.2.size)
    exact ⟨HW.out.1.call hb, hbw, HG.out.1.below hbw hB, Nat.le_trans hB hbw.size⟩
  clear X hb1
  go_loopw [5, 6] (fun ov iv wr => ∃ i : Nat, i ≤ L.length ∧ iv = .int .i64 i ∧ QO W1 ((L.take i).map (rdS nds)) ov wr) (fun _ iv _ => L.length - (intOf iv).toNat)
  case atStart => exact ⟨0, Nat.zero_le _, rfl, H0.out⟩
  case round =>
    obtain ⟨i, hi, rfl, hr⟩ := hrel
    clear H0
    obtain ⟨oa, oc, hov⟩ := hr.isSl
    subst hov
    by_cases hil : i < L.length
    · obtain ⟨b, o, c, x, y, hlv, hbB, c0w, hsg⟩ := HG.out.2.1.at hil
      simp only [Value.slice.injEq, true_and] at hlv
      obtain ⟨rfl, rfl⟩ := hlv
      obtain ⟨g, hg⟩ : ∃ g, g = L.getD i [] := ⟨_, rfl⟩
      have hgo := HG.out.2.2.at hil
      rw [← hg] at c0w hsg hgo
      obtain ⟨m, hm1⟩ : ∃ m, m = g.length := ⟨_, rfl⟩
      have HGM : Hid (m = g.length ∧ g = L.getD i [] ∧ ∀ x ∈ g, 0 ≤ x ∧ x < nds.length) := ⟨hm1, hg, hgo.2⟩
      have hm100 : m ≤ 100 := by omega
      rw [← hm1] at c0w hsg
      have HSG : Hid (∀ wr', Below W1.heap.size W1 wr' → wr'.cell? ⟨b, o + i, none⟩ = some (.slice x m y) ∧ SlOf RInt 1 (· < B) wr' (.slice x m y) g) := fun wr' hb => ⟨((HBW.out wr' hb).2.1.cell (lt_of_cell c0w)).trans c0w, sl_below hsg ((HBW.out wr' hb).2.1.mono hB)⟩
      have hi0 : (0 : Int) ≤ (i : Int) := by omega
      have hi1 : (i : Int) < (L.length : Int) := by omega
      obtain ⟨n8, hn8⟩ : ∃ n, n = ((L.take i).map (rdS nds)).length := ⟨_, rfl⟩
      have HN8 : Hid (n8 = ((L.take i).map (rdS nds)).length) := hn8
      have hn8l : n8 ≤ 900 := by rw [hn8]; simp; omega
      rw [← hn8] at hr ⊢
      obtain ⟨X, hX⟩ : ∃ X, X = wr.heap.size := ⟨_, rfl⟩
      have H1 : Hid (QI W1 ((L.take i).map (rdS nds)) (.slice oa n8 oc) (.slice none 0 0) (rfR nds g 0) X wr) := by rw [hX]; exact hr.start
      clear hr hX hg hm1 hn8 hsg c0w hgo
      go_wp2_with fail
      go_loopw [7, 8] (fun rv tv wr => ∃ (t : Nat) (z : Int), t ≤ nds.length + 1 ∧ z = (t : Int) - 1 ∧ tv = .int .i64 z ∧ QI W1 ((L.take i).map (rdS nds)) (.slice oa n8 oc) rv (rfR nds g t) X wr) (fun _ tv _ => nds.length + 1 - (intOf tv + 1).toNat)
      case atStart => exact ⟨0, -1, Nat.zero_le _, rfl, rfl, H1.out⟩
      case round =>
        obtain ⟨t, z, ht, hz, rfl, hr⟩ := hrel
        clear H1
        obtain ⟨rva, rvc, hrv⟩ := hr.isSl
        subst hrv
        obtain ⟨M, hM⟩ : ∃ M, M = rfR nds g t := ⟨_, rfl⟩
        have hMl : M.length ≤ 901 := by rw [hM]; have := rfR_len nds g t; omega
        have HM : Hid (M = rfR nds g t) := hM
        rw [← hM] at hr ⊢
        obtain ⟨nM, hnM⟩ : ∃ nM, nM = M.length := ⟨_, rfl⟩
        have HNM : Hid (nM = M.length) := hnM
        rw [← hnM] at hr hMl ⊢
        have g0 := (HBW.out wr hr.bel).1.cell 0 rfl
        have H2 : Hid (QI W1 ((L.take i).map (rdS nds)) (.slice oa n8 oc) (.slice rva nM rvc) M X wr) := hr
        clear hr hM hnM
        by_cases htn : t < nds.length + 1
        · have hzn : z < (nds.length : Int) := by omega
          have hz1' : -1 ≤ z := by omega
          have hd : decide (z < (nds.length : Int)) = true := decide_eq_true hzn
          have HZT : Hid (z = (t : Int) - 1) := hz
          clear hz
          go_wp2_with fail
          clear g0 hd
          go_loopw [9, 10] (fun bv kv wr => ∃ k : Nat, k ≤ m ∧ kv = .int .i64 k ∧ bv = .bool (anyK nds g z k) ∧ QI W1 ((L.take i).map (rdS nds)) (.slice oa n8 oc) (.slice rva nM rvc) M X wr) (fun _ kv _ => m - (intOf kv).toNat)
          case atStart => exact ⟨0, Nat.zero_le _, rfl, by simp [anyK], H2.out⟩
          case round =>
            obtain ⟨k, hkm, rfl, rfl, hr⟩ := hrel
            clear H2
            have hcs := HSG.out wr hr.bel
            have c0 := hcs.1
            have HR : Hid (QI W1 ((L.take i).map (rdS nds)) (.slice oa n8 oc) (.slice rva nM rvc) M X wr) := hr
            obtain ⟨a, ha⟩ : ∃ a, a = anyK nds g z k := ⟨_, rfl⟩
            by_cases hkl : k < m
            · have HAS : Hid (anyK nds g z (k + 1) = (a || decide (z ∈ (nds.getD (g.getD k 0).toNat Nd.none).ins))) := by
                have : anyK nds g z (k + 1) = (a || decide (z ∈ (nds.getD (g.getD k 0).toNat Nd.none).ins)) := by rw [anyK_step (by rw [← HGM.out.1]; exact hkl), ha]
                exact this
              rw [← ha]
              have hk0 : (0 : Int) ≤ (k : Int) := by omega
              have hk1 : (k : Int) < (m : Int) := by omega
              cases a with
              | true =>
                have HE : Hid (anyK nds g z (k + 1) = true) := HAS.out
                clear HAS ha hcs hr
                go_wp2_with fail
                clear c0
                refine wp_region_kept wr.heap.size (by kernel_rfl) (by kernel_rfl) ?_
                repeat (go_big_quiet_step (fail))
                refine wpQuiet_nil ?_
                rintro _ ⟨s, rfl⟩
                have HR5 : Hid (QI W1 ((L.take i).map (rdS nds)) (.slice oa n8 oc) (.slice rva nM rvc) M X s.w) := HR.out.call s.below
                go_wp2_with fail
                go_roundw
                case rel => exact ⟨k + 1, by omega, by go_num, by rw [HE.out], HR5.out⟩
                case measure => simp [intOf]; omega
              | false =>
                obtain ⟨gb, go, gcap, hgv, _, hgc, _, _⟩ := sl_cellsS hcs.2 (by rw [← HGM.out.1]; omega)
                simp only [Value.slice.injEq] at hgv
                obtain ⟨rfl, he1, he2⟩ := hgv
                clear he1 he2
                have c1 := hgc k (by rw [← HGM.out.1]; exact hkl)
                obtain ⟨u, hu, hun⟩ : ∃ u : Nat, g.getD k 0 = u ∧ u < nds.length := by
                  have hm' : g.getD k 0 ∈ g := by
                    have hkl : k < g.length := by rw [← HGM.out.1]; exact hkl
                    have : g[k]? = some (g.getD k 0) := by simp [hkl]
                    exact List.mem_of_getElem? this
                  have := HGM.out.2.2 _ hm'
                  exact ⟨(g.getD k 0).toNat, by omega, by omega⟩
                rw [hu] at c1
                have HE : Hid (anyK nds g z (k + 1) = decide (z ∈ (nds.getD u Nd.none).ins)) := by
                  have := HAS.out
                  rw [hu] at this
                  exact this
                have hbw := HBW.out wr hr.bel
                have g0 := hbw.1.cell 0 rfl
                have g1 := hbw.1.cell 1 rfl
                have HA : Hid (∀ s : Kept wr.heap.size wr, Calls Tryd.prog 23 #[.agg #[.slice ga nds.length gc, .int .i64 out], .int .i64 u, .int .i64 z] s.w (PPost s.w (.bool (decide (z ∈ (nds.getD u Nd.none).ins))))) := fun s =>
                  has_c B _ nds out z u s.w hun (by omega) (HG.out.2.2.short u) ((HBW.out wr HR.out.bel).2.2.1.below s.below (HBW.out wr HR.out.bel).2.2.2)
                obtain ⟨q, hq⟩ : ∃ q, q = decide (z ∈ (nds.getD u Nd.none).ins) := ⟨_, rfl⟩
                rw [← hq] at HE HA
                have k0 := fun s : Kept wr.heap.size wr => s.at g0
                have k1 := fun s : Kept wr.heap.size wr => s.at g1
                have k2 := fun s : Kept wr.heap.size wr => s.at c0
                have k3 := fun s : Kept wr.heap.size wr => s.at c1
                clear HAS ha hcs hr hgc hu hbw hq
                go_wp2_with fail
                clear c0 c1 g0 g1
                refine wp_region_kept wr.heap.size (by kernel_rfl) (by kernel_rfl) ?_
                repeat (go_big_quiet_step (first | (go_at_call 23; with_reducible exact Calls.kept _ (Nat.le_refl _) (HA.out _))))
                refine wpQuiet_nil ?_
                rintro _ ⟨s, rfl⟩
                have HR5 : Hid (QI W1 ((L.take i).map (rdS nds)) (.slice oa n8 oc) (.slice rva nM rvc) M X s.w) := HR.out.call s.below
                clear k0 k1 k2 k3 HA
                go_wp2_with fail
                go_roundw
                case rel => exact ⟨k + 1, by omega, by go_num, by rw [HE.out], HR5.out⟩
                case measure => simp [intOf]; omega
            · have ek : k = m := by omega
              subst ek
              have HT : Hid (rfR nds g (t + 1) = if (a && !g.contains z) = true then M ++ [z] else M) := by
                have h1 : rfB nds g z = (a && !g.contains z) := by rw [ha, anyK, HGM.out.1, List.take_length]; rfl
                have : rfR nds g (t + 1) = if (a && !g.contains z) = true then M ++ [z] else M := by rw [rfR_step, ← HZT.out, h1, HM.out]
                exact this
              rw [← ha]
              have hic := in_c _ g z wr hcs.2
              obtain ⟨cz, hcz⟩ : ∃ cz, cz = g.contains z := ⟨_, rfl⟩
              rw [← hcz] at hic HT
              clear ha hcs hr hcz
              cases a with
              | false =>
                have HE : Hid (rfR nds g (t + 1) = M) := HT.out
                clear HT hic
                go_wp2_with fail
                go_roundw
                case rel => exact ⟨t + 1, z + 1, by omega, by have := HZT.out; omega, by go_num, by rw [HE.out]; exact HR.out⟩
                case measure => have := HZT.out; simp [intOf]; omega
              | true =>
                go_wp2_with fail
                refine hic.mono ?_; rintro e w5 ⟨rfl, rfl⟩
                clear hic
                cases cz with
                | true =>
                  have HE : Hid (rfR nds g (t + 1) = M) := HT.out
                  clear HT c0
                  go_wp2_with fail
                  go_roundw
                  case rel => exact ⟨t + 1, z + 1, by omega, by have := HZT.out; omega, by go_num, by rw [HE.out]; exact HR.out⟩
                  case measure => have := HZT.out; simp [intOf]; omega
                | false =>
                  have HE : Hid (rfR nds g (t + 1) = M ++ [z]) := HT.out
                  obtain ⟨hown5, hX5⟩ := HR.out.own
                  have HO5 : Hid (OwnP w5 X (.slice rva nM rvc) M) := hown5
                  have HMX : Hid (nM + 1 ≤ maxLen ∧ (nM + 1) * 8 ≤ 140737488355328) := by constructor <;> (try unfold maxLen) <;> omega
                  have HAPP : Hid (∀ (w8 : World) (o : Obj) (g8 c8 : Nat), w8.ownsRow X 3 1 (.slice (some ⟨g8, 0, none⟩) (nM + 1) c8) (nM + 1) (M.map (Value.int .i64) ++ [.int .i64 z]) → (w5.alloc o).grownBy w8 (Value.slice rva nM rvc).ownBlock → QI W1 ((L.take i).map (rdS nds)) (.slice oa n8 oc) (.slice (some ⟨g8, 0, none⟩) (nM + 1) c8) (M ++ [z]) X w8) := fun w8 o g8 c8 h1 h2 => by
                    have e := HNM.out
                    rw [e] at h1 ⊢
                    exact HR.out.app h1 h2
                  have HNM' : Hid (M.length = nM) := HNM.out.symm
                  clear HT hown5 c0
                  go_wp2_with (at_builtin; refine wpList_append_lies _ rfl _ _ 31 rfl X 3 i3 (.int .i64 0) 1 8 Tryd.underlying31 hi3 hz0 hz1 hz2 rfl (by decide) (.slice rva nM rvc) nM (M.map (Value.int .i64)) rfl (OwnP.row HNM'.out (HO5.out.alloc (.cells #[.int .i64 z] 3))) _ 1 1 [.int .i64 z] rfl rfl (news_one (by simp)) (by simp [Value.oneCell']) (by decide) HMX.out.1 HMX.out.2 (by first | omega | (simp; omega)) _ rfl ?_; intro g8 c8 w8 hown8 hgrow8 hat8 hlt8; have HA : Hid (QI W1 ((L.take i).map (rdS nds)) (.slice oa n8 oc) (.slice (some ⟨g8, 0, none⟩) (nM + 1) c8) (M ++ [z]) X w8) := HAPP.out w8 _ g8 c8 hown8 hgrow8; clear hown8 hgrow8 hat8 hlt8)
                  go_roundw
                  case rel => exact ⟨t + 1, z + 1, by omega, by have := HZT.out; omega, by go_num, by rw [HE.out]; exact HA.out⟩
                  case measure => have := HZT.out; simp [intOf]; omega
        · have et : t = nds.length + 1 := by omega
          have hzn : z = (nds.length : Int) := by omega
          subst hzn
          have HCM : Hid ((L.take (i + 1)).map (rdS nds) = (L.take i).map (rdS nds) ++ [M]) := by
            have : (L.take (i + 1)).map (rdS nds) = (L.take i).map (rdS nds) ++ [M] := by rw [take_map (d := []) hil, ← HGM.out.2.1, HM.out, et, rfR_eq (fun k _ x hx => HG.out.2.2.rng _ x hx)]
            exact this
          obtain ⟨vs, hown, hsz, hpush⟩ := H2.out.row
          rw [← HN8.out] at hown hpush
          have HBK : Hid (∀ (o : Obj) (w8 : World) (g8 c8 : Nat), (wr.alloc o).grownBy w8 (Value.slice oa n8 oc).ownBlock → w8.ownsRow W1.heap.size 31 1 (.slice (some ⟨g8, 0, none⟩) (n8 + 1) c8) (n8 + 1) (vs ++ [.slice rva nM rvc]) → QO W1 ((L.take i).map (rdS nds) ++ [M]) (.slice (some ⟨g8, 0, none⟩) (n8 + 1) c8) w8) := hpush
          have HO : Hid (wr.ownsRow W1.heap.size 31 1 (.slice oa n8 oc) n8 vs) := hown
          have HMX : Hid (n8 + 1 ≤ maxLen ∧ (n8 + 1) * 24 ≤ 140737488355328) := by constructor <;> (try unfold maxLen) <;> omega
          clear hown hpush H2 htn ht hz et
          go_wp2_with (at_builtin; refine wpList_append_lies _ rfl _ _ 27 rfl W1.heap.size 31 iS (.slice none 0 0) 1 24 Tryd.underlying27 hiS sz0 sz1 sz2 rfl (by decide) (.slice oa n8 oc) n8 vs rfl (HO.out.alloc (.cells #[.slice rva nM rvc] 31)) _ 1 1 [.slice rva nM rvc] rfl rfl (news_one (by simp)) (by simp [Value.oneCell']) (by decide) HMX.out.1 HMX.out.2 (by first | omega | (simp; omega)) _ rfl ?_; intro g8 c8 w8 hown8 hgrow8 hat8 hlt8; have HA : Hid (QO W1 ((L.take i).map (rdS nds) ++ [M]) (.slice (some ⟨g8, 0, none⟩) (n8 + 1) c8) w8) := HBK.out _ w8 g8 c8 hgrow8 hown8; clear hown8 hgrow8 hat8 hlt8)
          go_roundw
          case rel => exact ⟨i + 1, by omega, by go_num, by rw [HCM.out]; exact HA.out⟩
          case measure => simp [intOf]; omega
    · have ei : i = L.length := by omega
      subst ei
      rw [List.take_length] at hr ⊢
      have HE : Hid (RdPost w (L.map (rdS nds)) (.returned (.slice oa (L.map (rdS nds)).length oc)) wr) := by
        obtain ⟨vs, h1, h2⟩ := hr
        exact ⟨oa, oc, vs, rfl, h1.mono HW.out.2.size, HW.out.2.trans (h2.mono HW.out.2.size)⟩
      clear hr
      go_wp2_with fail
      go_ret
      exact HE.out
end Go.Proofs.YtmhfabekmgcjnaaDoor
