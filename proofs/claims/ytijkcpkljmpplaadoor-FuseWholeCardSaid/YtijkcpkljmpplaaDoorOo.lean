/- Layer 11: order.Needed: the walk. -/
import Derived.Test.YtijkcpkljmpplaaDoorOn
namespace Go.Proofs.YtijkcpkljmpplaaDoor
open Go.RowKit Go.Bx Go.Od Go.Hp
attribute [local go_sem ↓] Go.wp_at_zero Go.wp_at_succ
set_option linter.unusedVariables false

set_option maxHeartbeats 3200000 in
theorem needed_c (B : Nat) (nv : Value) (nds : List Nd) (out : Int) (w : World) (hm : nds.length ≤ 999) (hl : ∀ i, i < nds.length → (nds.getD i Nd.none).ins.length ≤ 1000) (hg : Gr B w nv nds) (hB : B ≤ w.heap.size) :
    Calls Tryd.prog 30 #[.agg #[nv, .int .i64 out]] w (NePost w nds.length (ned (insOf nds) out)) := by
  obtain ⟨ga, gc, rfl⟩ := hg.isSl
  have hgl := hg.len_le
  obtain ⟨i3, hi3, hz0, hz1, hz2⟩ := info_parts infoI
  obtain ⟨i4, hi4, hy0, hy1, hy2⟩ := info_parts infoB
  obtain ⟨ins, hins⟩ : ∃ ins, ins = insOf nds := ⟨_, rfl⟩
  have HI : Hid (ins = insOf nds ∧ ins.length = nds.length) := ⟨hins, by rw [hins, insOf_len]⟩
  have HG : Hid (Gr B w (.slice ga nds.length gc) nds ∧ ∀ i, i < nds.length → (nds.getD i Nd.none).ins.length ≤ 1000) := ⟨hg, hl⟩
  rw [← hins]
  clear hg hl hins
  by_cases hin : 0 ≤ out ∧ out < nds.length
  · obtain ⟨r, rfl⟩ : ∃ r : Nat, out = r := ⟨out.toNat, by omega⟩
    have hrn : r < nds.length := by omega
    have hr0 : ¬ (nds.length ≤ r) := by omega
    have hr1 : ¬ ((r : Int) < 0) := by omega
    clear hin
    go_enter Tryd.func30, Tryd.ntmps30
    go_wp2_with (at_make; refine wpList_make_full _ rfl _ _ 32 rfl (w.heap.size + 1) 4 i4 (.bool false) 1 Tryd.underlying32 hi4 hy0 hy1 .i64 .i64 _ _ nds.length rfl rfl rfl rfl (by rw [hy2]; omega) (by unfold maxLen; omega) (by simp) ?_; intro w2 hown2 hgrow2; have HU : Hid (Box w2 (w.heap.size + 1) (bc nds.length fun _ => false) ∧ Box w2 w.heap.size [.slice ga nds.length gc, .int .i64 r] ∧ Below w.heap.size w w2) := makeB (by simp) hown2 hgrow2; have c0 := HU.out.2.1.cell 0 rfl; have c1 := HU.out.2.1.cell 1 rfl; have d0 := HU.out.1.cell r (bc_get _ hrn); have d1 := HU.out.1.frozen r; have e0 := HU.out.2.1.set (p := ⟨w.heap.size + 1, r, none⟩) (by simp) (.bool true); have e1 := e0.cell 1 rfl; clear e0 hown2 hgrow2)
    have HN0 : Hid (∃ T S, NI ins r S T ∧ NR w (.slice ga nds.length gc) r nds.length S (.slice (some ⟨w2.heap.size, 0, none⟩) 1 1) T ((w2.setCell ⟨w.heap.size + 1, r, none⟩ (.bool true)).alloc (.cells #[.int .i64 r] 3)) ∧ 2 * cntF nds.length S + T.length ≤ 2 * cntF nds.length (fun i => decide (i = r)) + 1) := by
      obtain ⟨h1, h2, h3⟩ := HU.out
      refine ⟨[r], _, NI.start (by rw [HI.out.2]; exact hrn), ?_, Nat.le_refl _⟩
      have hlt := h1.lt
      have q1 := (h1.self r (.bool true))
      rw [bc_set] at q1
      have hc : bc nds.length (fun i => if i = r then true else false) = bc nds.length fun i => decide (i = r) := bc_congr fun i _ => by by_cases e : i = r <;> simp [e]
      rw [hc] at q1
      refine ⟨(h2.set (by simp) _).alloc _, q1.alloc _, ?_, (h3.setCell (by simp) _).alloc (by rw [size_set]; omega) _⟩
      have := newP (w2.setCell ⟨w.heap.size + 1, r, none⟩ (.bool true)) (w.heap.size + 2) r (by rw [size_set]; omega)
      rw [size_set] at this
      exact this
    clear HU c0 c1 d0 d1 e1
    go_loopg [4] (2 * cntF nds.length (fun i => decide (i = r)) + 1) (fun g tv wr => ∃ T S, NI ins r S T ∧ NR w (.slice ga nds.length gc) r nds.length S tv T wr ∧ 2 * cntF nds.length S + T.length ≤ g)
    case atStart => exact HN0.out
    case round =>
      obtain ⟨T, S, hn, hr, hgk⟩ := hrel
      clear HN0
      obtain ⟨ta, tc, htv⟩ := own_sl hr.to
      by_cases h0 : T = []
      · subst h0
        subst htv
        have HE : Hid (NePost w nds.length (ned ins r) (.returned (.slice (some ⟨w.heap.size + 1, 0, none⟩) nds.length nds.length)) wr) := by
          refine ⟨_, by omega, rfl, ?_, hr.below⟩
          rw [← bc_congr fun i _ => hn.done i]
          exact hr.ob
        clear hn hr hgk
        go_wp2_with fail
        go_ret
        exact HE.out
      · obtain ⟨T', k, rfl⟩ : ∃ T' k, T = T' ++ [k] := ⟨T.dropLast, T.getLast h0, (List.dropLast_concat_getLast h0).symm⟩
        obtain ⟨t, ht⟩ : ∃ t, t = T'.length := ⟨_, rfl⟩
        have htl : (T' ++ [k]).length = t + 1 := by simp [ht]
        rw [htl] at hgk htv
        subst htv
        have hNI : t + 1 ≤ 999 := by have := hn.short; rw [htl] at this; have := HI.out.2; omega
        have hkn : k < nds.length := by have := (hn.sound k (hn.todo k (by simp))).lt; have := HI.out.2; omega
        obtain ⟨g, rfl, hck, hcap⟩ : ∃ g, ta = some ⟨g, 0, none⟩ ∧ wr.cell? ⟨g, t, none⟩ = some (.int .i64 k) ∧ t + 1 ≤ tc := by
          rcases hr.to.form with ⟨h, h'⟩ | ⟨g, cap, h, _, _, h5, _, _, _, hc⟩
          · cases h
          · simp only [Value.slice.injEq] at h
            obtain ⟨rfl, h6, rfl⟩ := h
            rw [ofN_len, htl] at h5
            refine ⟨g, rfl, ?_, h5⟩
            rw [hc t (by rw [ofN_len, htl]; omega)]
            unfold ofN
            simp [ht]
        have b0 := hr.gb.cell 0 rfl
        have b1 := hr.gb.cell 1 rfl
        have HR : Hid (NJ ins r k 0 S T' ∧ NR w (.slice ga nds.length gc) r nds.length S (.slice (some ⟨g, 0, none⟩) t tc) T' wr ∧ 2 * cntF nds.length S + t + 1 ≤ gk ∧ t = T'.length) := by
          refine ⟨hn.pop, ⟨hr.gb, hr.ob, ?_, hr.below⟩, by omega, ht⟩
          have := OwnP.less (n := t) (by rw [ofN_len, htl]) (by omega) hr.to
          have e : (ofN (T' ++ [k])).take t = ofN T' := by rw [ofN_app, List.take_append_of_le_length (by rw [ofN_len]; omega), List.take_of_length_le (by rw [ofN_len]; omega)]
          rw [e] at this
          exact this
        have hk0 : (0 : Int) < ((t + 1 : Nat) : Int) := by omega
        have hk1 : ((t + 1 : Nat) : Int) - 1 = (t : Int) := by omega
        have hk2 : (t : Int) < ((t + 1 : Nat) : Int) := by omega
        have hk3 : (0 : Int) ≤ (t : Int) := by omega
        have hk4 : (t : Int) ≤ (tc : Int) := by omega
        clear hn hr ht htl hgk hcap h0
        go_wp2_with fail
        refine (inputs_c B _ nds r k wr hkn (by omega) (HG.out.2 k hkn) (HG.out.1.below HR.out.2.1.below hB) (Nat.le_trans hB HR.out.2.1.below.size)).mono ?_; rintro e w5 ⟨a5, c5, rfl, hown5, hb5⟩
        obtain ⟨l, hl⟩ : ∃ l, l = inp ins k := ⟨_, rfl⟩
        have HL : Hid (l = inp ins k) := hl
        rw [← HI.out.1, ← hl] at hown5
        rw [← HI.out.1, ← hl]
        have hll : l.length ≤ 999 := by have := inp_len ins k; rw [← hl] at this; have := HI.out.2; omega
        clear hl
        have H5 : Hid (∃ T S tv, NJ ins r k 0 S T ∧ NR w (.slice ga nds.length gc) r nds.length S tv T w5 ∧ 2 * cntF nds.length S + T.length + 1 ≤ gk ∧ OwnP w5 (w.heap.size + 2) (.slice a5 l.length c5) (ofN l) ∧ (∀ k, (Value.slice a5 l.length c5).ownBlock = some k → tv.ownBlock ≠ some k) ∧ tv = .slice (some ⟨g, 0, none⟩) t tc) := by
          refine ⟨T', S, _, HR.out.1, HR.out.2.1.call hb5, by have := HR.out.2.2; omega, OwnP.mono hown5 (by have := HR.out.2.1.ob.lt; omega), fun j hj e => ?_, rfl⟩
          have h1 := (row_ge hown5 j hj).1
          have h2 := (row_ge HR.out.2.1.to j e).2
          omega
        clear hown5 hb5 b0 b1 HR hck hk0 hk1 hk2 hk3 hk4 hNI
        go_wp2_with fail
        go_loopw [4, 49] (fun tv jv wr => ∃ j : Nat, j ≤ l.length ∧ jv = .int .i64 j ∧ ∃ T S, NJ ins r k j S T ∧ NR w (.slice ga nds.length gc) r nds.length S tv T wr ∧ 2 * cntF nds.length S + T.length + 1 ≤ gk ∧ OwnP wr (w.heap.size + 2) (.slice a5 l.length c5) (ofN l) ∧ (∀ k, (Value.slice a5 l.length c5).ownBlock = some k → tv.ownBlock ≠ some k)) (fun _ jv _ => l.length - (intOf jv).toNat)
        case atStart =>
          obtain ⟨T, S, tv, h1, h2, h3, h4, h5, rfl⟩ := H5.out
          exact ⟨0, Nat.zero_le _, rfl, T, S, h1, h2, h3, h4, h5⟩
        case round =>
          obtain ⟨j, hj, rfl, T, S, hn, hr, hgk, hlo, hap⟩ := hrel
          clear H5
          by_cases hjl : j < l.length
          · obtain ⟨x, hx⟩ : ∃ x, x = l[j] := ⟨_, rfl⟩
            have hxj : l[j]? = some x := by rw [hx]; exact List.getElem?_eq_getElem hjl
            have hxi : (inp ins k)[j]? = some x := by rw [← HL.out]; exact hxj
            have hxn : x < nds.length := by have := ((inp_mem ins k x).1 (List.mem_of_getElem? hxi)).1; have := HI.out.2; omega
            obtain ⟨g5, rfl, hc5⟩ : ∃ g5, a5 = some ⟨g5, 0, none⟩ ∧ wr.cell? ⟨g5, j, none⟩ = some (.int .i64 x) := by
              rcases hlo.form with ⟨h, h'⟩ | ⟨g, cap, h, _, _, _, _, _, _, hc⟩
              · have : l.length = 0 := by rw [← ofN_len, h']; rfl
                omega
              · simp only [Value.slice.injEq] at h
                obtain ⟨rfl, _, _⟩ := h
                refine ⟨g, rfl, ?_⟩
                rw [hc j (by rw [ofN_len]; exact hjl)]
                unfold ofN
                simp [hxj]
            obtain ⟨ta, tc', htv⟩ := own_sl hr.to
            have hT : T.length ≤ 999 := by have := hn.short; have := HI.out.2; omega
            obtain ⟨q, hq⟩ : ∃ q, q = T.length := ⟨_, rfl⟩
            rw [← hq] at htv hT
            subst htv
            have d0 := hr.ob.cell x (bc_get S hxn)
            have f0 := hr.ob.frozen x
            have HR : Hid (NJ ins r k j S T ∧ NR w (.slice ga nds.length gc) r nds.length S (.slice ta q tc') T wr ∧ 2 * cntF nds.length S + T.length + 1 ≤ gk ∧ OwnP wr (w.heap.size + 2) (.slice (some ⟨g5, 0, none⟩) l.length c5) (ofN l) ∧ (∀ k, (Value.slice (some ⟨g5, 0, none⟩) l.length c5).ownBlock = some k → (Value.slice ta q tc').ownBlock ≠ some k) ∧ (inp ins k)[j]? = some x ∧ q = T.length) := ⟨hn, hr, hgk, hlo, hap, hxi, hq⟩
            clear hn hr hgk hlo hap hxi hx hxj hq
            obtain ⟨s, hs⟩ : ∃ s, s = S x := ⟨_, rfl⟩
            rw [← hs] at d0
            cases s with
            | true =>
              have H7 : Hid (NJ ins r k (j + 1) S T) := HR.out.1.old HR.out.2.2.2.2.2.1 hs.symm
              clear hs
              go_wp2_with fail
              go_roundw
              case rel => exact ⟨j + 1, by omega, by go_num, T, S, H7.out, HR.out.2.1, HR.out.2.2.1, HR.out.2.2.2.1, HR.out.2.2.2.2.1⟩
              case measure => simp [intOf]; omega
            | false =>
              have HM : Hid (q + 1 ≤ maxLen ∧ (q + 1) * 8 ≤ 140737488355328) := by constructor <;> (try unfold maxLen) <;> omega
              have H7 : Hid (NJ ins r k (j + 1) (fun i => if i = x then true else S i) (T ++ [x]) ∧ NR w (.slice ga nds.length gc) r nds.length (fun i => if i = x then true else S i) (.slice ta q tc') T (wr.setCell ⟨w.heap.size + 1, x, none⟩ (.bool true)) ∧ 2 * cntF nds.length (fun i => if i = x then true else S i) + (T ++ [x]).length + 1 + 1 ≤ gk ∧ OwnP (wr.setCell ⟨w.heap.size + 1, x, none⟩ (.bool true)) (w.heap.size + 2) (.slice (some ⟨g5, 0, none⟩) l.length c5) (ofN l)) := by
                refine ⟨HR.out.1.new HR.out.2.2.2.2.2.1 hs.symm, HR.out.2.1.mark x true, ?_, own_set HR.out.2.2.2.1 (by simp) _⟩
                have h1 := cntF_set hxn hs.symm
                have h2 := HR.out.2.2.1
                rw [List.length_append, List.length_singleton]
                omega
              have hsz : w.heap.size + 2 ≤ wr.heap.size := by have := HR.out.2.1.ob.lt; omega
              have n0 : ((wr.setCell ⟨w.heap.size + 1, x, none⟩ (.bool true)).alloc (.cells #[.int .i64 x] 3)).cell? ⟨wr.heap.size, 0, none⟩ = some (.int .i64 x) := by
                have := cell_newP (wr.setCell ⟨w.heap.size + 1, x, none⟩ (.bool true)) (.int .i64 x) 3
                rwa [size_set] at this
              clear hs
              go_wp2_with (at_builtin; (refine wpList_append_lies _ rfl _ _ 30 rfl (w.heap.size + 2) 3 i3 (.int .i64 0) 1 8 Tryd.underlying30 hi3 hz0 hz1 hz2 rfl (by decide) (.slice ta q tc') q ((ofN T).map (Value.int .i64)) rfl (OwnP.row ((ofN_len T).trans HR.out.2.2.2.2.2.2.symm) (H7.out.2.1.to.alloc (.cells #[.int .i64 x] 3))) _ 1 1 [.int .i64 x] rfl rfl (news_one n0) (by simp [Value.oneCell']) (by decide) HM.out.1 HM.out.2 (by first | omega | (simp; omega)) ((wr.setCell ⟨w.heap.size + 1, x, none⟩ (.bool true)).heap.size + 1) (by simp) ?_; intro g8 c8 w8 hown8 hgrow8 hat8 hlt8; have HA : Hid (NR w (.slice ga nds.length gc) r nds.length (fun i => if i = x then true else S i) (.slice (some ⟨g8, 0, none⟩) (q + 1) c8) (T ++ [x]) w8 ∧ OwnP w8 (w.heap.size + 2) (.slice (some ⟨g5, 0, none⟩) l.length c5) (ofN l) ∧ (∀ k, (Value.slice (some ⟨g5, 0, none⟩) l.length c5).ownBlock = some k → (Value.slice (some ⟨g8, 0, none⟩) (q + 1) c8).ownBlock ≠ some k)) := NR.app2 HR.out.2.2.2.2.2.2 H7.out.2.1 H7.out.2.2.2 HR.out.2.2.2.2.1 hown8 hgrow8 (by simpa using hat8); clear hown8 hgrow8 hat8 hlt8))
              go_roundw
              case rel =>
                refine ⟨j + 1, by omega, by go_num, T ++ [x], _, H7.out.1, HA.out.1, ?_, HA.out.2.1, HA.out.2.2⟩
                have h1 := H7.out.2.2.1
                omega
              case measure => simp [intOf]; omega
          · have ej : j = l.length := by omega
            subst ej
            have HE : Hid (∃ T S, NI ins r S T ∧ NR w (.slice ga nds.length gc) r nds.length S u4 T wr ∧ 2 * cntF nds.length S + T.length + 1 ≤ gk) := by
              rw [HL.out] at hn
              exact ⟨T, S, hn.fin, hr, hgk⟩
            clear hn hr hlo hap hgk
            go_wp2_with fail
            go_roundg (gk - 1)
            case measure =>
              obtain ⟨_, _, _, _, h⟩ := HE.out
              omega
            case rel =>
              obtain ⟨T, S, h1, h2, h3⟩ := HE.out
              exact ⟨T, S, h1, h2, by omega⟩
  · have hs : ∀ i, ned ins out i = false := ned_out (by rw [HI.out.2]; exact hin)
    have HS : Hid (∀ i, i < nds.length → false = ned ins out i) := fun i _ => (hs i).symm
    clear hs
    by_cases ho : out < 0
    · clear hin
      go_enter Tryd.func30, Tryd.ntmps30
      go_wp2_with (at_make; refine wpList_make_full _ rfl _ _ 32 rfl (w.heap.size + 1) 4 i4 (.bool false) 1 Tryd.underlying32 hi4 hy0 hy1 .i64 .i64 _ _ nds.length rfl rfl rfl rfl (by rw [hy2]; omega) (by unfold maxLen; omega) (by simp) ?_; intro w2 hown2 hgrow2; have HU : Hid (Box w2 (w.heap.size + 1) (bc nds.length fun _ => false) ∧ Box w2 w.heap.size [.slice ga nds.length gc, .int .i64 out] ∧ Below w.heap.size w w2) := makeB (by simp) hown2 hgrow2; have c0 := HU.out.2.1.cell 0 rfl; have c1 := HU.out.2.1.cell 1 rfl; clear hown2 hgrow2)
      go_ret
      exact ⟨w.heap.size + 1, by omega, rfl, by rw [← bc_congr HS.out]; exact HU.out.1, HU.out.2.2⟩
    · have ho2 : ¬ out < nds.length := fun h => hin ⟨by omega, h⟩
      have ho3 : (nds.length : Int) ≤ out := by omega
      clear hin
      go_enter Tryd.func30, Tryd.ntmps30
      go_wp2_with (at_make; refine wpList_make_full _ rfl _ _ 32 rfl (w.heap.size + 1) 4 i4 (.bool false) 1 Tryd.underlying32 hi4 hy0 hy1 .i64 .i64 _ _ nds.length rfl rfl rfl rfl (by rw [hy2]; omega) (by unfold maxLen; omega) (by simp) ?_; intro w2 hown2 hgrow2; have HU : Hid (Box w2 (w.heap.size + 1) (bc nds.length fun _ => false) ∧ Box w2 w.heap.size [.slice ga nds.length gc, .int .i64 out] ∧ Below w.heap.size w w2) := makeB (by simp) hown2 hgrow2; have c0 := HU.out.2.1.cell 0 rfl; have c1 := HU.out.2.1.cell 1 rfl; clear hown2 hgrow2)
      go_ret
      exact ⟨w.heap.size + 1, by omega, rfl, by rw [← bc_congr HS.out]; exact HU.out.1, HU.out.2.2⟩
end Go.Proofs.YtijkcpkljmpplaaDoor
