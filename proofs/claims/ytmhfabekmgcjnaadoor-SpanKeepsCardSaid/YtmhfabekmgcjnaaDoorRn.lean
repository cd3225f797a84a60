/- Layer 11: the document's Needed. -/
import Derived.Test.YtmhfabekmgcjnaaDoorSw
namespace Go.Proofs.YtmhfabekmgcjnaaDoor
open Go.RowKit Go.Bx Go.Od Go.Hp
attribute [local go_sem ↓] Go.wp_at_zero Go.wp_at_succ
set_option linter.unusedVariables false

set_option maxRecDepth 4000 in
set_option maxHeartbeats 3200000 in
theorem rneeded_c (B : Nat) (nv : Value) (nds : List Nd) (out : Int) (w : World) (hm : nds.length ≤ 999) (hl : ∀ i, i < nds.length → (nds.getD i Nd.none).ins.length ≤ 1000) (hg : Gr B w nv nds) (hB : B ≤ w.heap.size) :
    Calls Tryd.prog 17 #[.agg #[nv, .int .i64 out]] w (NePost w nds.length (ned (insOf nds) out)) := by
  obtain ⟨ga, gc, rfl⟩ := hg.isSl
  have hgl := hg.len_le
  obtain ⟨i4, hi4, hy0, hy1, hy2⟩ := info_parts infoB
  obtain ⟨ins, hins⟩ : ∃ ins, ins = insOf nds := ⟨_, rfl⟩
  have HI : Hid (ins = insOf nds ∧ ins.length = nds.length) := ⟨hins, by rw [hins, insOf_len]⟩
  have HG : Hid (Gr B w (.slice ga nds.length gc) nds ∧ ∀ i, i < nds.length → (nds.getD i Nd.none).ins.length ≤ 1000) := ⟨hg, hl⟩
  rw [← hins]
  clear hg hl hins
  go_enter Tryd.func17, Tryd.ntmps17
  go_wp2_with (at_make; refine wpList_make_full _ rfl _ _ 38 rfl (w.heap.size + 1) 4 i4 (.bool false) 1 Tryd.underlying38 hi4 hy0 hy1 .i64 .i64 _ _ nds.length rfl rfl rfl rfl (by rw [hy2]; omega) (by unfold maxLen; omega) (by simp) ?_; intro w2 hown2 hgrow2; have HU : Hid (Box w2 (w.heap.size + 1) (bc nds.length fun _ => false) ∧ Box w2 w.heap.size [.slice ga nds.length gc, .int .i64 out] ∧ Below w.heap.size w w2) := makeB (by simp) hown2 hgrow2; clear hown2 hgrow2)
  have H0 : Hid (NR w (.slice ga nds.length gc) out nds.length (fun _ => false) (.slice none 0 0) [] w2) := by
    obtain ⟨h1, h2, h3⟩ := HU.out
    exact ⟨h2, h1, own_nil _ _, h3⟩
  clear HU
  go_loopw [4] (fun tv wr => ∃ (t : Nat) (S : Nat → Bool), t ≤ nds.length + 1 ∧ tv = .int .i64 t ∧ NInv ins out t S ∧ NR w (.slice ga nds.length gc) out nds.length S (.slice none 0 0) [] wr) (fun tv _ => nds.length + 1 - (intOf tv).toNat)
  case atStart => exact ⟨0, _, Nat.zero_le _, rfl, NInv.start _ _, H0.out⟩
  case round =>
    obtain ⟨t, S0, ht, rfl, hinv, hr⟩ := hrel
    clear H0
    have b0 := hr.gb.cell 0 rfl
    have HT : Hid (NInv ins out t S0) := hinv
    clear hinv
    by_cases htl : t ≤ nds.length
    · have H1 : Hid (SwN ins out 0 S0 S0 ∧ NR w (.slice ga nds.length gc) out nds.length S0 (.slice none 0 0) [] wr) := ⟨HT.out.sweep, hr⟩
      clear hr
      go_wp2_with fail
      clear b0
      go_loopw [5] (fun iv wr => ∃ (i : Nat) (S : Nat → Bool), i ≤ nds.length ∧ iv = .int .i64 i ∧ SwN ins out i S0 S ∧ NR w (.slice ga nds.length gc) out nds.length S (.slice none 0 0) [] wr) (fun iv _ => nds.length - (intOf iv).toNat)
      case atStart => exact ⟨0, _, Nat.zero_le _, rfl, H1.out.1, H1.out.2⟩
      case round =>
        obtain ⟨i, S, hi, rfl, hsw, hr⟩ := hrel
        clear H1
        have b0 := hr.gb.cell 0 rfl
        have b1 := hr.gb.cell 1 rfl
        by_cases hil : i < nds.length
        · have d0 := hr.ob.cell i (bc_get _ hil)
          have f0 := hr.ob.frozen i
          obtain ⟨m, hm'⟩ : ∃ m, m = S i := ⟨_, rfl⟩
          obtain ⟨q, hq⟩ : ∃ q, q = decide ((i : Int) = out) := ⟨_, rfl⟩
          have hq' : ((i : Int) == out) = q := by rw [hq]; rfl
          have HE : Hid (SwK ins out i 0 S0 (fun r => if r = i then (m || q) else S r) ∧ NR w (.slice ga nds.length gc) out nds.length (fun r => if r = i then (m || q) else S r) (.slice none 0 0) [] (wr.setCell ⟨w.heap.size + 1, i, none⟩ (.bool (m || q)))) := by
            refine ⟨?_, hr.mark i (m || q)⟩
            rw [hm', hq]
            exact hsw.first (by rw [HI.out.2]; exact hil)
          have hi0 : (0 : Int) ≤ (i : Int) := by omega
          have hi1 : (i : Int) < (nds.length : Int) := by omega
          rw [← hm'] at d0
          clear hm' hq hsw hr
          cases m with
          | true =>
            have HK : Hid (∃ S1, SwK ins out i 0 S0 S1 ∧ NR w (.slice ga nds.length gc) out nds.length S1 (.slice none 0 0) [] (wr.setCell ⟨w.heap.size + 1, i, none⟩ (.bool true))) := ⟨_, HE.out.1, HE.out.2⟩
            clear HE
            go_wp2_with fail
            clear b0 b1 d0 f0
            go_loopw [6] (fun kv wr => ∃ (k : Nat) (S : Nat → Bool), k ≤ nds.length ∧ kv = .int .i64 k ∧ SwK ins out i k S0 S ∧ NR w (.slice ga nds.length gc) out nds.length S (.slice none 0 0) [] wr) (fun kv _ => nds.length - (intOf kv).toNat)
            case atStart =>
              obtain ⟨S1, h1, h2⟩ := HK.out
              exact ⟨0, S1, Nat.zero_le _, rfl, h1, h2⟩
            case round =>
              obtain ⟨k, S, hk, rfl, hsw, hr⟩ := hrel
              clear HK
              have b0 := hr.gb.cell 0 rfl
              have b1 := hr.gb.cell 1 rfl
              by_cases hkl : k < nds.length
              · have di := hr.ob.cell i (bc_get _ hil)
                obtain ⟨si, hsi⟩ : ∃ si, si = S i := ⟨_, rfl⟩
                rw [← hsi] at di
                cases si with
                | false =>
                  have HF : Hid (SwN ins out (i + 1) S0 S ∧ NR w (.slice ga nds.length gc) out nds.length S (.slice none 0 0) [] wr) := ⟨hsw.skip hsi.symm, hr⟩
                  clear hsw hr hsi
                  go_wp2_with fail
                  go_roundw
                  case rel => exact ⟨i + 1, _, by omega, by go_num, HF.out.1, HF.out.2⟩
                  case measure => simp [intOf]; omega
                | true =>
                  have dk := hr.ob.cell k (bc_get _ hkl)
                  have fk := hr.ob.frozen k
                  obtain ⟨sk, hsk⟩ : ∃ sk, sk = S k := ⟨_, rfl⟩
                  rw [← hsk] at dk
                  obtain ⟨u, hu⟩ : ∃ u, u = decide ((k : Int) ∈ (nds.getD i Nd.none).ins) := ⟨_, rfl⟩
                  have HF : Hid (SwK ins out i (k + 1) S0 (fun r => if r = k then sk || u else S r) ∧ ∀ W, NR w (.slice ga nds.length gc) out nds.length S (.slice none 0 0) [] W → NR w (.slice ga nds.length gc) out nds.length (fun r => if r = k then sk || u else S r) (.slice none 0 0) [] (W.setCell ⟨w.heap.size + 1, k, none⟩ (.bool (sk || u)))) := by
                    refine ⟨?_, fun W h => h.mark k (sk || u)⟩
                    have := hsw.next (by rw [HI.out.2]; exact hil) (by rw [HI.out.2]; exact hkl) hsi.symm
                    rw [HI.out.1, insOf_get, ← HI.out.1] at this
                    rw [hsk, hu]
                    exact this
                  have hk0 : (0 : Int) ≤ (k : Int) := by omega
                  have hk1 : (k : Int) < (nds.length : Int) := by omega
                  cases sk with
                  | true =>
                    have HE2 : Hid (SwK ins out i (k + 1) S0 (fun r => if r = k then true else S r) ∧ NR w (.slice ga nds.length gc) out nds.length (fun r => if r = k then true else S r) (.slice none 0 0) [] (wr.setCell ⟨w.heap.size + 1, k, none⟩ (.bool true))) := ⟨HF.out.1, HF.out.2 wr hr⟩
                    clear HF hsk hsi hsw hr hu
                    go_wp2_with fail
                    go_roundw
                    case rel => exact ⟨k + 1, _, by omega, by go_num, HE2.out.1, HE2.out.2⟩
                    case measure => simp [intOf]; omega
                  | false =>
                    have HF2 : Hid (SwK ins out i (k + 1) S0 (fun r => if r = k then u else S r) ∧ ∀ W, NR w (.slice ga nds.length gc) out nds.length S (.slice none 0 0) [] W → NR w (.slice ga nds.length gc) out nds.length (fun r => if r = k then u else S r) (.slice none 0 0) [] (W.setCell ⟨w.heap.size + 1, k, none⟩ (.bool u))) := HF.out
                    have HR2 : Hid (NR w (.slice ga nds.length gc) out nds.length S (.slice none 0 0) [] wr ∧ S k = false) := ⟨hr, hsk.symm⟩
                    have hhas : Hid (Calls Tryd.prog 23 #[.agg #[.slice ga nds.length gc, .int .i64 out], .int .i64 i, .int .i64 k] wr (PPost wr (.bool u))) := by
                      rw [hu]
                      exact has_c B _ nds out k i wr hil (by omega) (HG.out.2 i hil) (HG.out.1.below hr.below hB)
                    clear HF hsk hsi hsw hr hu
                    go_wp2_with fail
                    refine hhas.out.mono ?_; rintro e w5 ⟨rfl, hb5⟩
                    have HR3 : Hid (NR w (.slice ga nds.length gc) out nds.length S (.slice none 0 0) [] w5) := HR2.out.1.call hb5
                    have dk5 := HR3.out.ob.cell k (bc_get _ hkl)
                    rw [HR2.out.2] at dk5
                    have fk5 := HR3.out.ob.frozen k
                    have HE2 : Hid (NR w (.slice ga nds.length gc) out nds.length (fun r => if r = k then u else S r) (.slice none 0 0) [] (w5.setCell ⟨w.heap.size + 1, k, none⟩ (.bool u))) := HF2.out.2 w5 HR3.out
                    clear hb5 b0 b1 di dk fk
                    go_wp2_with fail
                    go_roundw
                    case rel => exact ⟨k + 1, _, by omega, by go_num, HF2.out.1, HE2.out⟩
                    case measure => simp [intOf]; omega
              · have ek : k = nds.length := by omega
                subst ek
                have HF : Hid (SwN ins out (i + 1) S0 S ∧ NR w (.slice ga nds.length gc) out nds.length S (.slice none 0 0) [] wr) := by
                  rw [← HI.out.2] at hsw
                  exact ⟨hsw.fin, hr⟩
                clear hsw hr
                go_wp2_with fail
                go_roundw
                case rel => exact ⟨i + 1, _, by omega, by go_num, HF.out.1, HF.out.2⟩
                case measure => simp [intOf]; omega
          | false =>
            have HK : Hid (∃ S1, SwK ins out i 0 S0 S1 ∧ NR w (.slice ga nds.length gc) out nds.length S1 (.slice none 0 0) [] (wr.setCell ⟨w.heap.size + 1, i, none⟩ (.bool q))) := ⟨_, HE.out.1, HE.out.2⟩
            clear HE
            go_wp2_with fail
            clear b0 b1 d0 f0
            go_loopw [6] (fun kv wr => ∃ (k : Nat) (S : Nat → Bool), k ≤ nds.length ∧ kv = .int .i64 k ∧ SwK ins out i k S0 S ∧ NR w (.slice ga nds.length gc) out nds.length S (.slice none 0 0) [] wr) (fun kv _ => nds.length - (intOf kv).toNat)
            case atStart =>
              obtain ⟨S1, h1, h2⟩ := HK.out
              exact ⟨0, S1, Nat.zero_le _, rfl, h1, h2⟩
            case round =>
              obtain ⟨k, S, hk, rfl, hsw, hr⟩ := hrel
              clear HK
              have b0 := hr.gb.cell 0 rfl
              have b1 := hr.gb.cell 1 rfl
              by_cases hkl : k < nds.length
              · have di := hr.ob.cell i (bc_get _ hil)
                obtain ⟨si, hsi⟩ : ∃ si, si = S i := ⟨_, rfl⟩
                rw [← hsi] at di
                cases si with
                | false =>
                  have HF : Hid (SwN ins out (i + 1) S0 S ∧ NR w (.slice ga nds.length gc) out nds.length S (.slice none 0 0) [] wr) := ⟨hsw.skip hsi.symm, hr⟩
                  clear hsw hr hsi
                  go_wp2_with fail
                  go_roundw
                  case rel => exact ⟨i + 1, _, by omega, by go_num, HF.out.1, HF.out.2⟩
                  case measure => simp [intOf]; omega
                | true =>
                  have dk := hr.ob.cell k (bc_get _ hkl)
                  have fk := hr.ob.frozen k
                  obtain ⟨sk, hsk⟩ : ∃ sk, sk = S k := ⟨_, rfl⟩
                  rw [← hsk] at dk
                  obtain ⟨u, hu⟩ : ∃ u, u = decide ((k : Int) ∈ (nds.getD i Nd.none).ins) := ⟨_, rfl⟩
                  have HF : Hid (SwK ins out i (k + 1) S0 (fun r => if r = k then sk || u else S r) ∧ ∀ W, NR w (.slice ga nds.length gc) out nds.length S (.slice none 0 0) [] W → NR w (.slice ga nds.length gc) out nds.length (fun r => if r = k then sk || u else S r) (.slice none 0 0) [] (W.setCell ⟨w.heap.size + 1, k, none⟩ (.bool (sk || u)))) := by
                    refine ⟨?_, fun W h => h.mark k (sk || u)⟩
                    have := hsw.next (by rw [HI.out.2]; exact hil) (by rw [HI.out.2]; exact hkl) hsi.symm
                    rw [HI.out.1, insOf_get, ← HI.out.1] at this
                    rw [hsk, hu]
                    exact this
                  have hk0 : (0 : Int) ≤ (k : Int) := by omega
                  have hk1 : (k : Int) < (nds.length : Int) := by omega
                  cases sk with
                  | true =>
                    have HE2 : Hid (SwK ins out i (k + 1) S0 (fun r => if r = k then true else S r) ∧ NR w (.slice ga nds.length gc) out nds.length (fun r => if r = k then true else S r) (.slice none 0 0) [] (wr.setCell ⟨w.heap.size + 1, k, none⟩ (.bool true))) := ⟨HF.out.1, HF.out.2 wr hr⟩
                    clear HF hsk hsi hsw hr hu
                    go_wp2_with fail
                    go_roundw
                    case rel => exact ⟨k + 1, _, by omega, by go_num, HE2.out.1, HE2.out.2⟩
                    case measure => simp [intOf]; omega
                  | false =>
                    have HF2 : Hid (SwK ins out i (k + 1) S0 (fun r => if r = k then u else S r) ∧ ∀ W, NR w (.slice ga nds.length gc) out nds.length S (.slice none 0 0) [] W → NR w (.slice ga nds.length gc) out nds.length (fun r => if r = k then u else S r) (.slice none 0 0) [] (W.setCell ⟨w.heap.size + 1, k, none⟩ (.bool u))) := HF.out
                    have HR2 : Hid (NR w (.slice ga nds.length gc) out nds.length S (.slice none 0 0) [] wr ∧ S k = false) := ⟨hr, hsk.symm⟩
                    have hhas : Hid (Calls Tryd.prog 23 #[.agg #[.slice ga nds.length gc, .int .i64 out], .int .i64 i, .int .i64 k] wr (PPost wr (.bool u))) := by
                      rw [hu]
                      exact has_c B _ nds out k i wr hil (by omega) (HG.out.2 i hil) (HG.out.1.below hr.below hB)
                    clear HF hsk hsi hsw hr hu
                    go_wp2_with fail
                    refine hhas.out.mono ?_; rintro e w5 ⟨rfl, hb5⟩
                    have HR3 : Hid (NR w (.slice ga nds.length gc) out nds.length S (.slice none 0 0) [] w5) := HR2.out.1.call hb5
                    have dk5 := HR3.out.ob.cell k (bc_get _ hkl)
                    rw [HR2.out.2] at dk5
                    have fk5 := HR3.out.ob.frozen k
                    have HE2 : Hid (NR w (.slice ga nds.length gc) out nds.length (fun r => if r = k then u else S r) (.slice none 0 0) [] (w5.setCell ⟨w.heap.size + 1, k, none⟩ (.bool u))) := HF2.out.2 w5 HR3.out
                    clear hb5 b0 b1 di dk fk
                    go_wp2_with fail
                    go_roundw
                    case rel => exact ⟨k + 1, _, by omega, by go_num, HF2.out.1, HE2.out⟩
                    case measure => simp [intOf]; omega
              · have ek : k = nds.length := by omega
                subst ek
                have HF : Hid (SwN ins out (i + 1) S0 S ∧ NR w (.slice ga nds.length gc) out nds.length S (.slice none 0 0) [] wr) := by
                  rw [← HI.out.2] at hsw
                  exact ⟨hsw.fin, hr⟩
                clear hsw hr
                go_wp2_with fail
                go_roundw
                case rel => exact ⟨i + 1, _, by omega, by go_num, HF.out.1, HF.out.2⟩
                case measure => simp [intOf]; omega
        · have ei : i = nds.length := by omega
          subst ei
          have HE : Hid (NInv ins out (t + 1) S ∧ NR w (.slice ga nds.length gc) out nds.length S (.slice none 0 0) [] wr) := by
            rw [← HI.out.2] at hsw
            exact ⟨hsw.fin HT.out, hr⟩
          clear hsw hr
          go_wp2_with fail
          go_roundw
          case rel => exact ⟨t + 1, _, by omega, by go_num, HE.out.1, HE.out.2⟩
          case measure => simp [intOf]; omega
    · have et : t = nds.length + 1 := by omega
      subst et
      have HE : Hid (NePost w nds.length (ned ins out) (.returned (.slice (some ⟨w.heap.size + 1, 0, none⟩) nds.length nds.length)) wr) := by
        refine ⟨w.heap.size + 1, by omega, rfl, ?_, hr.below⟩
        have h := HT.out
        rw [← HI.out.2] at h
        rw [← bc_congr fun i _ => h.done i]
        exact hr.ob
      clear hr HT
      go_wp2_with fail
      go_ret
      exact HE.out
end Go.Proofs.YtmhfabekmgcjnaaDoor
