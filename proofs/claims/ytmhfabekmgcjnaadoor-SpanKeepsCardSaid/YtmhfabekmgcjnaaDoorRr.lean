/- Layer 11: the document's Round. -/
import Derived.Test.YtmhfabekmgcjnaaDoorSw
namespace Go.Proofs.YtmhfabekmgcjnaaDoor
open Go.RowKit Go.Bx Go.Od Go.Hp
attribute [local go_sem ↓] Go.wp_at_zero Go.wp_at_succ
set_option linter.unusedVariables false

set_option maxRecDepth 4000 in
set_option maxHeartbeats 3200000 in
theorem rround_c (B : Nat) (nv : Value) (nds : List Nd) (out : Int) (w : World) (hm : nds.length ≤ 999) (hl : ∀ i, i < nds.length → (nds.getD i Nd.none).ins.length ≤ 1000) (hg : Gr B w nv nds) (hB : B ≤ w.heap.size) :
    Calls Tryd.prog 26 #[.agg #[nv, .int .i64 out]] w (PPost w (.bool (decide ((ord (insOf nds)).length < nds.length)))) := by
  obtain ⟨ga, gc, rfl⟩ := hg.isSl
  have hgl := hg.len_le
  obtain ⟨i4, hi4, hy0, hy1, hy2⟩ := info_parts infoB
  obtain ⟨ins, hins⟩ : ∃ ins, ins = insOf nds := ⟨_, rfl⟩
  have HI : Hid (ins = insOf nds ∧ ins.length = nds.length) := ⟨hins, by rw [hins, insOf_len]⟩
  have HG : Hid (Gr B w (.slice ga nds.length gc) nds ∧ ∀ i, i < nds.length → (nds.getD i Nd.none).ins.length ≤ 1000) := ⟨hg, hl⟩
  rw [← hins]
  clear hg hl hins
  go_enter Tryd.func26, Tryd.ntmps26
  go_wp2_with (at_make; refine wpList_make_full _ rfl _ _ 38 rfl (w.heap.size + 1) 4 i4 (.bool false) 1 Tryd.underlying38 hi4 hy0 hy1 .i64 .i64 _ _ nds.length rfl rfl rfl rfl (by rw [hy2]; omega) (by unfold maxLen; omega) (by simp) ?_; intro w2 hown2 hgrow2; have HU : Hid (Box w2 (w.heap.size + 1) (bc nds.length fun _ => false) ∧ Box w2 w.heap.size [.slice ga nds.length gc, .int .i64 out] ∧ Below w.heap.size w w2) := makeB (by simp) hown2 hgrow2; clear hown2 hgrow2)
  have H0 : Hid (NR w (.slice ga nds.length gc) out nds.length (fun _ => false) (.slice none 0 0) [] w2) := by
    obtain ⟨h1, h2, h3⟩ := HU.out
    exact ⟨h2, h1, own_nil _ _, h3⟩
  clear HU
  go_loopw [4] (fun tv wr => ∃ (t : Nat) (S : Nat → Bool), t ≤ nds.length ∧ tv = .int .i64 t ∧ RInv ins t S ∧ NR w (.slice ga nds.length gc) out nds.length S (.slice none 0 0) [] wr) (fun tv _ => nds.length - (intOf tv).toNat)
  case atStart => exact ⟨0, _, Nat.zero_le _, rfl, RInv.start _, H0.out⟩
  case round =>
    obtain ⟨t, S0, ht, rfl, hinv, hr⟩ := hrel
    clear H0
    have b0 := hr.gb.cell 0 rfl
    have HT : Hid (RInv ins t S0) := hinv
    clear hinv
    by_cases htl : t < nds.length
    · have H1 : Hid (SwR ins 0 S0 S0 ∧ NR w (.slice ga nds.length gc) out nds.length S0 (.slice none 0 0) [] wr) := ⟨HT.out.sweep, hr⟩
      clear hr
      go_wp2_with fail
      clear b0
      go_loopw [5] (fun iv wr => ∃ (i : Nat) (S : Nat → Bool), i ≤ nds.length ∧ iv = .int .i64 i ∧ SwR ins i S0 S ∧ NR w (.slice ga nds.length gc) out nds.length S (.slice none 0 0) [] wr) (fun iv _ => nds.length - (intOf iv).toNat)
      case atStart => exact ⟨0, _, Nat.zero_le _, rfl, H1.out.1, H1.out.2⟩
      case round =>
        obtain ⟨i, S, hi, rfl, hsw, hr⟩ := hrel
        clear H1
        have b0 := hr.gb.cell 0 rfl
        by_cases hil : i < nds.length
        · obtain ⟨b, o, cap, ia, ic, pa, pc, hv, hbB, hcap, hcm, k0, k1, k2, s1, s2⟩ := (HG.out.1.below hr.below hB).node hil
          simp only [Value.slice.injEq] at hv
          obtain ⟨rfl, _, rfl⟩ := hv
          obtain ⟨xs, hxs⟩ : ∃ xs, xs = (nds.getD i Nd.none).ins := ⟨_, rfl⟩
          rw [← hxs] at k1 s1
          have hxl : xs.length ≤ 1000 := by rw [hxs]; exact HG.out.2 i hil
          have HX : Hid (xs = (nds.getD i Nd.none).ins ∧ ins.getD i [] = xs) := ⟨hxs, by rw [HI.out.1, insOf_get, hxs]⟩
          have HS : Hid (SlOf RInt 1 (· < B) wr (.slice ia xs.length ic) xs ∧ SwR ins i S0 S ∧ NR w (.slice (some ⟨b, o, none⟩) nds.length gc) out nds.length S (.slice none 0 0) [] wr) := ⟨s1, hsw, hr⟩
          have hi0 : (0 : Int) ≤ (i : Int) := by omega
          have hi1 : (i : Int) < (nds.length : Int) := by omega
          unfold maxLen at hcm
          clear s1 s2 hsw hr hxs k0 k2
          go_wp2_with fail
          go_loop [6, 7] (fun ov kv => ∃ k : Nat, k ≤ xs.length ∧ kv = .int .i64 k ∧ ov = .bool (okr nds.length S (xs.take k))) (fun _ kv => xs.length - (intOf kv).toNat)
          case atStart => exact ⟨0, Nat.zero_le _, rfl, rfl⟩
          case round =>
            obtain ⟨k, hk, rfl, rfl⟩ := hrel
            by_cases hkl : k < xs.length
            · obtain ⟨ia', ic', hv, hic, hicm, hin, hcell⟩ := HS.out.1.ints
              simp only [Value.slice.injEq] at hv
              obtain ⟨rfl, _, rfl⟩ := hv
              obtain ⟨b5, o5, rfl, _, hc5⟩ := hcell k hkl
              have c5 := hc5 k hkl
              obtain ⟨x, hx⟩ : ∃ x, x = xs.getD k 0 := ⟨_, rfl⟩
              rw [← hx] at c5
              have HK : Hid (okr nds.length S (xs.take (k + 1)) = (okr nds.length S (xs.take k) && (decide (x < 0) || decide ((nds.length : Int) ≤ x) || S x.toNat))) := by
                have e : xs.take (k + 1) = xs.take k ++ [x] := by rw [List.take_succ_eq_append_getElem hkl, hx]; simp [hkl]
                rw [e]
                exact okr_snoc _ _ _ _
              obtain ⟨q, hq⟩ : ∃ q, q = okr nds.length S (xs.take k) := ⟨_, rfl⟩
              rw [← hq] at HK
              rw [← hq]
              have hk0 : (0 : Int) ≤ (k : Int) := by omega
              have hk1 : (k : Int) < (xs.length : Int) := by omega
              unfold maxLen at hicm
              clear hcell hc5 hin hq hx
              cases q with
              | false =>
                have HF : Hid (okr nds.length S (xs.take (k + 1)) = false) := HK.out
                clear HK
                go_wp2_with fail
                go_round
                case rel => exact ⟨k + 1, by omega, by go_num, by rw [HF.out]⟩
                case measure => simp [intOf]; omega
              | true =>
                by_cases hx0 : x < 0
                · have HF : Hid (okr nds.length S (xs.take (k + 1)) = true) := HK.out.trans (by simp [hx0])
                  clear HK
                  go_wp2_with fail
                  go_round
                  case rel => exact ⟨k + 1, by omega, by go_num, by rw [HF.out]⟩
                  case measure => simp [intOf]; omega
                · by_cases hx1 : (nds.length : Int) ≤ x
                  · have HF : Hid (okr nds.length S (xs.take (k + 1)) = true) := HK.out.trans (by simp [hx1])
                    clear HK
                    go_wp2_with fail
                    go_round
                    case rel => exact ⟨k + 1, by omega, by go_num, by rw [HF.out]⟩
                    case measure => simp [intOf]; omega
                  · obtain ⟨z, rfl⟩ : ∃ z : Nat, x = z := ⟨x.toNat, by omega⟩
                    have hzn : z < nds.length := by omega
                    have hz1 : ¬ (nds.length ≤ z) := by omega
                    have HF : Hid (okr nds.length S (xs.take (k + 1)) = S z) := HK.out.trans (by simp [hx0]; intro h; omega)
                    have d0 := HS.out.2.2.ob.cell z (bc_get _ hzn)
                    obtain ⟨m, hm'⟩ : ∃ m, m = S z := ⟨_, rfl⟩
                    rw [← hm'] at HF d0
                    clear HK hm'
                    go_wp2_with fail
                    go_round
                    case rel => exact ⟨k + 1, by omega, by go_num, by rw [HF.out]⟩
                    case measure => simp [intOf]; omega
            · have ek : k = xs.length := by omega
              subst ek
              rw [List.take_length]
              obtain ⟨q, hq⟩ : ∃ q, q = okr nds.length S xs := ⟨_, rfl⟩
              have d0 := HS.out.2.2.ob.cell i (bc_get _ hil)
              have f0 := HS.out.2.2.ob.frozen i
              obtain ⟨m, hm'⟩ : ∃ m, m = S i := ⟨_, rfl⟩
              have HE : Hid (SwR ins (i + 1) S0 (fun r => if r = i then (m || q) else S r) ∧ NR w (.slice (some ⟨b, o, none⟩) nds.length gc) out nds.length (fun r => if r = i then (m || q) else S r) (.slice none 0 0) [] (wr.setCell ⟨w.heap.size + 1, i, none⟩ (.bool (m || q)))) := by
                refine ⟨?_, HS.out.2.2.mark i (m || q)⟩
                have := HS.out.2.1.step (by rw [HI.out.2]; exact hil)
                rw [HX.out.2, HI.out.2] at this
                rw [hm', hq]
                exact this
              rw [← hm'] at d0
              rw [← hq]
              clear hm' hq
              cases m with
              | true =>
                have HE' : Hid (SwR ins (i + 1) S0 (fun r => if r = i then true else S r) ∧ NR w (.slice (some ⟨b, o, none⟩) nds.length gc) out nds.length (fun r => if r = i then true else S r) (.slice none 0 0) [] (wr.setCell ⟨w.heap.size + 1, i, none⟩ (.bool true))) := HE.out
                clear HE
                go_wp2_with fail
                go_roundw
                case rel => exact ⟨i + 1, _, by omega, by go_num, HE'.out.1, HE'.out.2⟩
                case measure => simp [intOf]; omega
              | false =>
                have HE' : Hid (SwR ins (i + 1) S0 (fun r => if r = i then q else S r) ∧ NR w (.slice (some ⟨b, o, none⟩) nds.length gc) out nds.length (fun r => if r = i then q else S r) (.slice none 0 0) [] (wr.setCell ⟨w.heap.size + 1, i, none⟩ (.bool q))) := HE.out
                clear HE
                go_wp2_with fail
                go_roundw
                case rel => exact ⟨i + 1, _, by omega, by go_num, HE'.out.1, HE'.out.2⟩
                case measure => simp [intOf]; omega
        · have ei : i = nds.length := by omega
          subst ei
          have HE : Hid (RInv ins (t + 1) S ∧ NR w (.slice ga nds.length gc) out nds.length S (.slice none 0 0) [] wr) := by
            rw [← HI.out.2] at hsw
            exact ⟨hsw.fin HT.out, hr⟩
          clear hsw hr
          go_wp2_with fail
          go_roundw
          case rel => exact ⟨t + 1, _, by omega, by go_num, HE.out.1, HE.out.2⟩
          case measure => simp [intOf]; omega
    · have et : t = nds.length := by omega
      subst et
      have HR : Hid (NR w (.slice ga nds.length gc) out nds.length S0 (.slice none 0 0) [] wr ∧ RInv ins ins.length S0) := ⟨hr, by rw [HI.out.2]; exact HT.out⟩
      clear hr HT
      go_wp2_with fail
      go_loop [9] (fun iv => ∃ i : Nat, i ≤ nds.length ∧ iv = .int .i64 i ∧ Hid (∀ j, j < i → S0 j = true)) (fun iv => nds.length - (intOf iv).toNat)
      case atStart => exact ⟨0, Nat.zero_le _, rfl, fun j hj => by omega⟩
      case round =>
        obtain ⟨i, hi, rfl, hall⟩ := hrel
        by_cases hil : i < nds.length
        · have d0 := HR.out.1.ob.cell i (bc_get _ hil)
          obtain ⟨m, hm'⟩ : ∃ m, m = S0 i := ⟨_, rfl⟩
          rw [← hm'] at d0
          cases m with
          | false =>
            have HE : Hid (decide ((ord ins).length < nds.length) = true) := by rw [← HI.out.2]; exact round_one HR.out.2 (by rw [HI.out.2]; exact hil) hm'.symm
            clear hm'
            go_wp2_with fail
            go_ret
            exact ⟨ret_b HE.out.symm, HR.out.1.below⟩
          | true =>
            have HA : Hid (∀ j, j < i + 1 → S0 j = true) := fun j hj => by
              by_cases e : j = i
              · rw [e]; exact hm'.symm
              · exact hall.out j (by omega)
            clear hm'
            go_wp2_with fail
            go_round
            case rel => exact ⟨i + 1, by omega, by go_num, HA⟩
            case measure => simp [intOf]; omega
        · have ei : i = nds.length := by omega
          subst ei
          have HE : Hid (decide ((ord ins).length < nds.length) = false) := by rw [← HI.out.2]; exact round_all HR.out.2 (by rw [HI.out.2]; exact hall.out)
          go_wp2_with fail
          go_ret
          exact ⟨ret_b HE.out.symm, HR.out.1.below⟩
end Go.Proofs.YtmhfabekmgcjnaaDoor
