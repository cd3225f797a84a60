/- Layer 17: the document's Until. -/
import Derived.Test.YtmhfabekmgcjnaaDoorSv
namespace Go.Proofs.YtmhfabekmgcjnaaDoor
open Go.RowKit Go.Bx Go.Od Go.Hp Go.Sort
attribute [local go_sem ↓] Go.wp_at_zero Go.wp_at_succ
set_option linter.unusedVariables false

/-- what the document's Until leaves -/
def RuPost17 (w : World) (us : List Int) (e : Ending) (w' : World) : Prop := ∃ a c, e = .returned (.slice a us.length c) ∧ OwnP w' w.heap.size (.slice a us.length c) us ∧ Below w.heap.size w w'
set_option maxRecDepth 4000 in
set_option maxHeartbeats 3200000 in
theorem runtil_c (B : Nat) (nv lv : Value) (nds : List Nd) (out : Int) (L : List (List Int)) (w : World) (hk : GrpOk nds L) (hg : Gr B w nv nds) (hL : LL B w lv L) (hB : B ≤ w.heap.size) :
    Calls Tryd.prog 14 #[.agg #[nv, .int .i64 out], lv] w (RuPost17 w ((List.range L.length).map (unB (L.map (rdS nds)) L out))) := by
  have hgl := hg.len_le
  have hLn := hk.len
  obtain ⟨ga, gc, rfl⟩ := hg.isSl
  obtain ⟨la, lc, rfl, hLm⟩ := hL.isSl
  obtain ⟨i3, hi3, hz0, hz1, hz2⟩ := info_parts infoI
  have HG : Hid (Gr B w (.slice ga nds.length gc) nds ∧ LL B w (.slice la L.length lc) L ∧ GrpOk nds L) := ⟨hg, hL, hk⟩
  clear hg hL hk
  go_enter Tryd.func14, Tryd.ntmps14
  go_wp2_with fail
  have X := Box.new w [.slice ga nds.length gc, .int .i64 out] 24
  have hb1 := below_alloc w (.cells #[.slice ga nds.length gc, .int .i64 out] 24)
  obtain ⟨W1, hW1⟩ : ∃ W, W = w.alloc (.cells #[.slice ga nds.length gc, .int .i64 out] 24) := ⟨_, rfl⟩
  rw [← hW1] at X hb1 ⊢
  clear hW1
  refine (rreads_c B _ _ nds out L W1 HG.out.2.2 (HG.out.1.below hb1 hB) (HG.out.2.1.belowN hb1 hB) (Nat.le_trans hB hb1.size)).mono ?_; rintro e w2 ⟨ra, rc, rvs, rfl, hR, hb2⟩
  obtain ⟨R, hRe⟩ : ∃ R, R = L.map (rdS nds) := ⟨_, rfl⟩
  have hRl : R.length = L.length := by rw [hRe]; simp
  have hR64 := HG.out.2.2.in64
  have HRE : Hid (R = L.map (rdS nds)) := hRe
  rw [← hRe] at hR hR64 ⊢
  have H2 : Hid (Box w2 w.heap.size [.slice ga nds.length gc, .int .i64 out] ∧ Below w.heap.size w w2 ∧ LL w2.heap.size w2 (.slice ra R.length rc) R) := ⟨X.call hb2, hb1.trans (hb2.mono hb1.size), hR.ll hR64⟩
  have HRL : Hid (R.length = L.length) := hRl
  rw [hRl] at H2 ⊢
  clear X hb1 hb2 hR hRl hRe hR64
  obtain ⟨f, hf⟩ : ∃ f, f = unB R L out := ⟨_, rfl⟩
  have HFE : Hid (unB (L.map (rdS nds)) L out = f) := by
    have : unB (L.map (rdS nds)) L out = f := by rw [hf, HRE.out]
    exact this
  have HFF : Hid (∀ i, f i = if lstI (L.getD i []) = out then (L.length : Int) else (hitB R (lstI (L.getD i [])) L.length : Nat)) := fun i => by rw [hf]; rfl
  have HFX : Hid (∀ W, Below w2.heap.size w2 W → Box W w.heap.size [.slice ga nds.length gc, .int .i64 out] ∧ LL w2.heap.size W (.slice ra L.length rc) R ∧ Below w.heap.size w W ∧ R.length = L.length) := fun W hb => 
    ⟨H2.out.1.call hb, H2.out.2.2.below hb, H2.out.2.1.trans (hb.mono H2.out.2.1.size), HRL.out⟩
  have H6 : Hid (QI w2 [] (.slice none 0 0) (.slice none 0 0) (((List.range L.length).map f).take 0) w2.heap.size w2) := QO.start ⟨[], by exact GI.nil _ _, Below.refl _ _⟩
  have hOw : w.heap.size ≤ w2.heap.size := H2.out.2.1.size
  clear hf H2
  go_wp2_with fail
  go_loopw [6, 7] (fun ov iv wr => ∃ i : Nat, i ≤ L.length ∧ iv = .int .i64 i ∧ QI w2 [] (.slice none 0 0) ov (((List.range L.length).map f).take i) w2.heap.size wr) (fun _ iv _ => L.length - (intOf iv).toNat)
  case atStart => exact ⟨0, Nat.zero_le _, rfl, H6.out⟩
  case round =>
    obtain ⟨i, hi, rfl, hr⟩ := hrel
    clear H6
    obtain ⟨rva, rvc, hrv⟩ := hr.isSl
    subst hrv
    obtain ⟨nM, hnM⟩ : ∃ nM, nM = (((List.range L.length).map f).take i).length := ⟨_, rfl⟩
    have hnMi : nM = i := by rw [hnM]; simp; omega
    rw [← hnM] at hr ⊢
    rw [hnMi] at hr ⊢
    have HML : Hid ((((List.range L.length).map f).take i).length = i) := by
      have : (((List.range L.length).map f).take i).length = i := by rw [← hnM, hnMi]
      exact this
    have HR : Hid (QI w2 [] (.slice none 0 0) (.slice rva i rvc) (((List.range L.length).map f).take i) w2.heap.size wr) := hr
    clear hnM hnMi
    by_cases hil : i < L.length
    · have hb := hr.bel
      have HW := HFX.out wr hb
      obtain ⟨b, o, c, x, y, hlv, hbB, c0w, hsg⟩ := HG.out.2.1.at hil
      have c0 := (HW.2.2.1.cell (lt_of_cell c0w)).trans c0w
      simp only [Value.slice.injEq, true_and] at hlv
      obtain ⟨rfl, rfl⟩ := hlv
      obtain ⟨g, hg⟩ : ∃ g, g = L.getD i [] := ⟨_, rfl⟩
      rw [← hg] at c0 hsg
      have hgo := HG.out.2.2.at hil
      rw [← hg] at hgo
      obtain ⟨m, hm⟩ : ∃ m, g.length = m + 1 := ⟨g.length - 1, by omega⟩
      have hm100 : m ≤ 100 := by omega
      rw [hm] at c0 hsg
      obtain ⟨gb, go, rfl, c1w⟩ := sl_lastS hsg hm
      have c1 := (HW.2.2.1.cell (lt_of_cell c1w)).trans c1w
      obtain ⟨z, hz⟩ : ∃ z, z = lstI g := ⟨_, rfl⟩
      rw [← hz] at c1
      have HZ : Hid (f i = if z = out then (L.length : Int) else (hitB R z L.length : Nat)) := by
        have : f i = if z = out then (L.length : Int) else (hitB R z L.length : Nat) := by rw [HFF.out i, hz, hg]
        exact this
      have hi0 : (0 : Int) ≤ (i : Int) := by omega
      have hi1 : (i : Int) < (L.length : Int) := by omega
      have k0 := fun s : Kept wr.heap.size wr => s.at c0
      have k1 := fun s : Kept wr.heap.size wr => s.at c1
      clear hsg c0w c1w hg hgo hm hz hb hr HW
      go_wp2_with fail
      clear c0 c1
      refine wp_region_kept wr.heap.size (by kernel_rfl) (by kernel_rfl) ?_
      repeat (go_big_quiet_step (fail))
      refine wpQuiet_nil ?_
      rintro _ ⟨s, rfl⟩
      have H7 : Hid (QI w2 [] (.slice none 0 0) (.slice rva i rvc) (((List.range L.length).map f).take i) w2.heap.size s.w) := HR.out.call s.below
      clear k0 k1 HR
      go_wp2_with fail
      go_loopw [9, 10] (fun uv kv wr => ∃ k : Nat, k ≤ L.length ∧ kv = .int .i64 k ∧ uv = .int .i64 (hitB R z k : Nat) ∧ QI w2 [] (.slice none 0 0) (.slice rva i rvc) (((List.range L.length).map f).take i) w2.heap.size wr) (fun _ kv _ => L.length - (intOf kv).toNat)
      case atStart => exact ⟨0, Nat.zero_le _, rfl, rfl, H7.out⟩
      case round =>
        obtain ⟨k, hkl, rfl, rfl, hr⟩ := hrel
        clear H7
        have HR : Hid (QI w2 [] (.slice none 0 0) (.slice rva i rvc) (((List.range L.length).map f).take i) w2.heap.size wr) := hr
        have hb := hr.bel
        obtain ⟨hv, hhv⟩ : ∃ hv, hv = hitB R z k := ⟨_, rfl⟩
        by_cases hkn : k < L.length
        · obtain ⟨b2, o2, c2, x2, y2, hlv2, _, d0, hsr⟩ := (HFX.out wr hb).2.1.at (i := k) (by rw [(HFX.out wr hb).2.2.2]; exact hkn)
          rw [(HFX.out wr hb).2.2.2] at hlv2
          simp only [Value.slice.injEq, true_and] at hlv2
          obtain ⟨rfl, rfl⟩ := hlv2
          obtain ⟨cz, hcz⟩ : ∃ cz, cz = (R.getD k []).contains z := ⟨_, rfl⟩
          have hcc := in_c _ _ z wr hsr
          rw [← hcz] at hcc
          have HCZ : Hid (hitB R z (k + 1) = if cz = true then k else hv) := by
            have : hitB R z (k + 1) = if cz = true then k else hv := by rw [hitB_step, hcz, hhv]
            exact this
          obtain ⟨q, hq⟩ : ∃ q, q = (R.getD k []).length := ⟨_, rfl⟩
          rw [← hq] at d0 hcc
          rw [← hhv]
          have hk0 : (0 : Int) ≤ (k : Int) := by omega
          have hk1 : (k : Int) < (L.length : Int) := by omega
          clear hb hr hcz hq hsr hhv
          go_wp2_with fail
          refine hcc.mono ?_; rintro e w5 ⟨rfl, rfl⟩
          clear hcc d0
          cases cz with
          | false =>
            have HE : Hid (hitB R z (k + 1) = hv) := HCZ.out
            clear HCZ
            go_wp2_with fail
            go_roundw
            case rel => exact ⟨k + 1, by omega, by go_num, by rw [HE.out], HR.out⟩
            case measure => simp [intOf]; omega
          | true =>
            have HE : Hid (hitB R z (k + 1) = k) := HCZ.out
            clear HCZ
            go_wp2_with fail
            go_roundw
            case rel => exact ⟨k + 1, by omega, by go_num, by rw [HE.out], HR.out⟩
            case measure => simp [intOf]; omega
        · have ek : k = L.length := by omega
          subst ek
          have g1 := (HFX.out wr hb).1.cell 1 rfl
          rw [← hhv]
          obtain ⟨M, hM⟩ : ∃ M, M = ((List.range L.length).map f).take i := ⟨_, rfl⟩
          have HMS : Hid (((List.range L.length).map f).take (i + 1) = M ++ [f i]) := by
            have : ((List.range L.length).map f).take (i + 1) = M ++ [f i] := by
              rw [hM, List.take_succ_eq_append_getElem (by simpa using hil)]
              simp
            exact this
          have HML' : Hid (M.length = i) := by
            have : M.length = i := by rw [hM]; exact HML.out
            exact this
          have HZ' : Hid (f i = if z = out then (L.length : Int) else (hv : Nat)) := by
            have := HZ.out
            rw [← hhv] at this
            exact this
          rw [← hM] at HR
          obtain ⟨hown5, hX5⟩ := HR.out.own
          have HO5 : Hid (OwnP wr w2.heap.size (.slice rva i rvc) M) := hown5
          have HMX : Hid (i + 1 ≤ maxLen ∧ (i + 1) * 8 ≤ 140737488355328) := by constructor <;> (try unfold maxLen) <;> omega
          have HAPP : Hid (∀ (w8 : World) (o : Obj) (g8 c8 : Nat) (v : Int), w8.ownsRow w2.heap.size 3 1 (.slice (some ⟨g8, 0, none⟩) (i + 1) c8) (i + 1) (M.map (Value.int .i64) ++ [.int .i64 v]) → (wr.alloc o).grownBy w8 (Value.slice rva i rvc).ownBlock → QI w2 [] (.slice none 0 0) (.slice (some ⟨g8, 0, none⟩) (i + 1) c8) (M ++ [v]) w2.heap.size w8) := fun w8 o g8 c8 v h1 h2 => by
            have e := HML'.out
            have := HR.out.app (k := v) (g8 := g8) (c8 := c8) (o := o) (w8 := w8) (by rw [e]; exact h1) h2
            rw [e] at this
            exact this
          clear hb hr hhv hM hown5 HZ HML
          by_cases hzo : z = out
          · have hzo' : (z == out) = true := by simp [hzo]
            have HF : Hid (f i = L.length) := HZ'.out.trans (if_pos hzo)
            clear hzo HZ'
            go_wp2_with (at_builtin; refine wpList_append_lies _ rfl _ _ 31 rfl w2.heap.size 3 i3 (.int .i64 0) 1 8 Tryd.underlying31 hi3 hz0 hz1 hz2 rfl (by decide) (.slice rva i rvc) i (M.map (Value.int .i64)) rfl (OwnP.row HML'.out (HO5.out.alloc (.cells #[.int .i64 L.length] 3))) _ 1 1 [.int .i64 L.length] rfl rfl (news_one (by simp)) (by simp [Value.oneCell']) (by decide) HMX.out.1 HMX.out.2 (by first | omega | (simp; omega)) _ rfl ?_; intro g8 c8 w8 hown8 hgrow8 hat8 hlt8; have HA : Hid (QI w2 [] (.slice none 0 0) (.slice (some ⟨g8, 0, none⟩) (i + 1) c8) (M ++ [(L.length : Int)]) w2.heap.size w8) := HAPP.out w8 _ g8 c8 _ hown8 hgrow8; clear hown8 hgrow8 hat8 hlt8)
            go_roundw
            case rel => exact ⟨i + 1, by omega, by go_num, by rw [HMS.out, HF.out]; exact HA.out⟩
            case measure => simp [intOf]; omega
          · have hzo' : (z == out) = false := beq_eq_false_iff_ne.2 hzo
            have HF : Hid (f i = (hv : Nat)) := HZ'.out.trans (if_neg hzo)
            clear hzo HZ'
            go_wp2_with (at_builtin; refine wpList_append_lies _ rfl _ _ 31 rfl w2.heap.size 3 i3 (.int .i64 0) 1 8 Tryd.underlying31 hi3 hz0 hz1 hz2 rfl (by decide) (.slice rva i rvc) i (M.map (Value.int .i64)) rfl (OwnP.row HML'.out (HO5.out.alloc (.cells #[.int .i64 hv] 3))) _ 1 1 [.int .i64 hv] rfl rfl (news_one (by simp)) (by simp [Value.oneCell']) (by decide) HMX.out.1 HMX.out.2 (by first | omega | (simp; omega)) _ rfl ?_; intro g8 c8 w8 hown8 hgrow8 hat8 hlt8; have HA : Hid (QI w2 [] (.slice none 0 0) (.slice (some ⟨g8, 0, none⟩) (i + 1) c8) (M ++ [(hv : Int)]) w2.heap.size w8) := HAPP.out w8 _ g8 c8 _ hown8 hgrow8; clear hown8 hgrow8 hat8 hlt8)
            go_roundw
            case rel => exact ⟨i + 1, by omega, by go_num, by rw [HMS.out, HF.out]; exact HA.out⟩
            case measure => simp [intOf]; omega
    · have ei : i = L.length := by omega
      subst ei
      have HE : Hid (RuPost17 w ((List.range L.length).map f) (.returned (.slice rva L.length rvc)) wr) := by
        have e : ((List.range L.length).map f).take L.length = (List.range L.length).map f := List.take_of_length_le (by simp)
        have h1 := hr.own.1
        rw [e] at h1
        have el : ((List.range L.length).map f).length = L.length := by simp
        refine ⟨rva, rvc, by rw [el], ?_, (HFX.out wr hr.bel).2.2.1⟩
        rw [el]
        exact OwnP.mono h1 hOw
      clear hr HR
      go_wp2_with fail
      go_ret
      rw [HFE.out]
      exact HE.out
end Go.Proofs.YtmhfabekmgcjnaaDoor
