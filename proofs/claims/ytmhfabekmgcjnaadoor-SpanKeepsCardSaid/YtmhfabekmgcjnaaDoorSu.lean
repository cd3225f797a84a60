/- Layer 17: span.Until. -/
import Derived.Test.YtmhfabekmgcjnaaDoorSr
namespace Go.Proofs.YtmhfabekmgcjnaaDoor
open Go.RowKit Go.Bx Go.Od Go.Hp Go.Sort
attribute [local go_sem ↓] Go.wp_at_zero Go.wp_at_succ
set_option linter.unusedVariables false

/-- what is asked of a filter's groups -/
structure GrpOk (nds : List Nd) (L : List (List Int)) : Prop where
  few : nds.length ≤ 900
  short : ∀ i, (nds.getD i Nd.none).ins.length ≤ 1000
  rng : ∀ i, ∀ x ∈ (nds.getD i Nd.none).ins, -1 ≤ x ∧ x < nds.length
  len : L.length ≤ 900
  grp : ∀ g ∈ L, (0 < g.length ∧ g.length ≤ 100) ∧ ∀ x ∈ g, 0 ≤ x ∧ x < nds.length
theorem GrpOk.at {nds : List Nd} {L : List (List Int)} (h : GrpOk nds L) {i : Nat} (hi : i < L.length) : (0 < (L.getD i []).length ∧ (L.getD i []).length ≤ 100) ∧ ∀ x ∈ L.getD i [], 0 ≤ x ∧ x < nds.length := h.grp _ (by simp [hi])
theorem GrpOk.in64 {nds : List Nd} {L : List (List Int)} (h : GrpOk nds L) : ∀ g ∈ L.map (rdS nds), ∀ x ∈ g, In64 x := by
  intro g hg x hx
  obtain ⟨g', _, rfl⟩ := List.mem_map.1 hg
  obtain ⟨⟨k, _, hk⟩, _⟩ := rdS_mem.1 hx
  have h1 := h.rng _ x hk
  have h2 := h.few
  unfold In64
  omega
theorem readsG_c (B : Nat) (nv lv : Value) (nds : List Nd) (out : Int) (L : List (List Int)) (w : World) (hk : GrpOk nds L) (hg : Gr B w nv nds) (hL : LL B w lv L) (hB : B ≤ w.heap.size) :
    Calls Tryd.prog 10 #[.agg #[nv, .int .i64 out], lv] w (RdPost w (L.map (rdS nds))) :=
  reads_c B nv lv nds out L w hk.few hk.short hg hL hB hk.len fun g hg => ⟨(hk.grp g hg).1.2, (hk.grp g hg).2⟩
/-- what Until leaves -/
def UnPost (w : World) (us : List Int) (e : Ending) (w' : World) : Prop := ∃ O, w.heap.size ≤ O ∧ e = .returned (.slice (some ⟨O, 0, none⟩) us.length us.length) ∧ Box w' O (us.map (Value.int .i64)) ∧ Below w.heap.size w w'
theorem sl_lastS {F : Nat → Prop} {w : World} {x : Option Addr} {m y : Nat} {g : List Int} (h : SlOf RInt 1 F w (.slice x (m + 1) y) g) (hm : g.length = m + 1) : ∃ b o, x = some ⟨b, o, none⟩ ∧ w.cell? ⟨b, o + m, none⟩ = some (.int .i64 (lstI g)) := by
  obtain ⟨b, o, c, hv, _, hc, _, _⟩ := sl_cellsS h (by omega)
  simp only [Value.slice.injEq] at hv
  refine ⟨b, o, hv.1, ?_⟩
  have := hc m (by omega)
  unfold lstI
  rw [hm]
  exact this
set_option maxRecDepth 4000 in
set_option maxHeartbeats 3200000 in
theorem until_c (B : Nat) (nv lv : Value) (nds : List Nd) (out : Int) (L : List (List Int)) (w : World) (hk : GrpOk nds L) (hg : Gr B w nv nds) (hL : LL B w lv L) (hB : B ≤ w.heap.size) :
    Calls Tryd.prog 13 #[.agg #[nv, .int .i64 out], lv] w (UnPost w ((List.range L.length).map (unA (L.map (rdS nds)) L out))) := by
  have hgl := hg.len_le
  have hLn := hk.len
  obtain ⟨ga, gc, rfl⟩ := hg.isSl
  obtain ⟨la, lc, rfl, hLm⟩ := hL.isSl
  obtain ⟨i3, hi3, hz0, hz1, hz2⟩ := info_parts infoI
  have HG : Hid (Gr B w (.slice ga nds.length gc) nds ∧ LL B w (.slice la L.length lc) L ∧ GrpOk nds L) := ⟨hg, hL, hk⟩
  clear hg hL hk
  go_enter Tryd.func13, Tryd.ntmps13
  go_wp2_with fail
  have X := Box.new w [.slice ga nds.length gc, .int .i64 out] 24
  have hb1 := below_alloc w (.cells #[.slice ga nds.length gc, .int .i64 out] 24)
  obtain ⟨W1, hW1⟩ : ∃ W, W = w.alloc (.cells #[.slice ga nds.length gc, .int .i64 out] 24) := ⟨_, rfl⟩
  rw [← hW1] at X hb1 ⊢
  clear hW1
  refine (readsG_c B _ _ nds out L W1 HG.out.2.2 (HG.out.1.below hb1 hB) (HG.out.2.1.belowN hb1 hB) (Nat.le_trans hB hb1.size)).mono ?_; rintro e w2 ⟨ra, rc, rvs, rfl, hR, hb2⟩
  obtain ⟨R, hRe⟩ : ∃ R, R = L.map (rdS nds) := ⟨_, rfl⟩
  have hRl : R.length = L.length := by rw [hRe]; simp
  have HRE : Hid (R = L.map (rdS nds)) := hRe
  have hR64 := HG.out.2.2.in64
  rw [← hRe] at hR hR64 ⊢
  have H2 : Hid (Box w2 w.heap.size [.slice ga nds.length gc, .int .i64 out] ∧ Below w.heap.size w w2 ∧ LL w2.heap.size w2 (.slice ra R.length rc) R) := ⟨X.call hb2, hb1.trans (hb2.mono hb1.size), hR.ll hR64⟩
  have HRL : Hid (R.length = L.length) := hRl
  rw [hRl] at H2 ⊢
  clear X hb1 hb2 hR hRl hRe hR64
  go_wp2_with (at_make; refine wpList_make_full _ rfl _ _ 31 rfl w2.heap.size 3 i3 (.int .i64 0) 1 Tryd.underlying31 hi3 hz0 hz1 .i64 .i64 _ _ L.length rfl rfl rfl rfl (by rw [hz2]; omega) (by unfold maxLen; omega) (Nat.le_refl _) ?_; intro w6 hown6 hgrow6; have HM6 : Hid (w6.ownsRow w2.heap.size 3 1 (.slice (some ⟨w2.heap.size, 0, none⟩) L.length L.length) L.length (madeCells (Value.int .i64 0).cells (L.length * 1)).toList ∧ w2.grownBy w6 none) := ⟨hown6, hgrow6⟩; clear hown6 hgrow6)
  obtain ⟨O, hO⟩ : ∃ O, O = w2.heap.size := ⟨_, rfl⟩
  obtain ⟨f, hf⟩ : ∃ f, f = unA R L out := ⟨_, rfl⟩
  have HFE : Hid (unA (L.map (rdS nds)) L out = f) := by
    have : unA (L.map (rdS nds)) L out = f := by rw [hf, HRE.out]
    exact this
  have HFF : Hid (∀ i, f i = if lstI (L.getD i []) = out then (L.length : Int) else (hitA R (lstI (L.getD i [])) i L.length : Nat)) := fun i => by rw [hf]; rfl
  have H6 : Hid (Below O w2 w6 ∧ Box w6 O ((part f L.length 0).map (Value.int .i64))) := by
    have hB6 : Below w2.heap.size w2 w6 := (Below.refl _ _).grown HM6.out.2 (Nat.le_refl _) (fun k hk => by cases hk)
    have := box_own HM6.out.1
    have e : (madeCells (Value.int .i64 0).cells (L.length * 1)).toList = List.replicate L.length (.int .i64 0) := by
      rw [Nat.mul_one]
      exact toList_madeCells_one _ _
    rw [e] at this
    rw [part_zero, List.map_replicate, hO]
    exact ⟨hB6, this⟩
  have HFX : Hid (∀ W, Below O w2 W → Box W w.heap.size [.slice ga nds.length gc, .int .i64 out] ∧ LL O W (.slice ra L.length rc) R ∧ Below w.heap.size w W ∧ R.length = L.length) := fun W hb => by
    rw [hO] at hb ⊢
    exact ⟨H2.out.1.call hb, H2.out.2.2.below hb, H2.out.2.1.trans (hb.mono H2.out.2.1.size), HRL.out⟩
  have hOw : w.heap.size ≤ O := by rw [hO]; exact H2.out.2.1.size
  rw [← hO, ← hf] at *
  clear HM6 hO hf H2
  go_loopw [19] (fun iv wr => ∃ i : Nat, i ≤ L.length ∧ iv = .int .i64 i ∧ Below O w2 wr ∧ Box wr O ((part f L.length i).map (Value.int .i64))) (fun iv _ => L.length - (intOf iv).toNat)
  case atStart => exact ⟨0, Nat.zero_le _, rfl, H6.out⟩
  case round =>
    obtain ⟨i, hi, rfl, hb, hx⟩ := hrel
    clear H6
    by_cases hil : i < L.length
    · have HW := HFX.out wr hb
      obtain ⟨b, o, c, x, y, hlv, hbB, c0w, hsg⟩ := HG.out.2.1.at hil
      have c0 := (HW.2.2.1.cell (lt_of_cell c0w)).trans c0w
      simp only [Value.slice.injEq, true_and] at hlv
      obtain ⟨rfl, rfl⟩ := hlv
      obtain ⟨g, hg⟩ : ∃ g, g = L.getD i [] := ⟨_, rfl⟩
      rw [← hg] at c0 hsg
      have hgo := HG.out.2.2.at hil
      rw [← hg] at hgo
      obtain ⟨m, hm⟩ : ∃ m, g.length = m + 1 := ⟨g.length - 1, by omega⟩
      have hm100 : m ≤ 100 := by omega
      rw [hm] at c0 hsg
      obtain ⟨gb, go, rfl, c1w⟩ := sl_lastS hsg hm
      have c1 := (HW.2.2.1.cell (lt_of_cell c1w)).trans c1w
      obtain ⟨z, hz⟩ : ∃ z, z = lstI g := ⟨_, rfl⟩
      rw [← hz] at c1
      have g1 := HW.1.cell 1 rfl
      have HZ : Hid (f i = if z = out then (L.length : Int) else (hitA R z i L.length : Nat)) := by
        have : f i = if z = out then (L.length : Int) else (hitA R z i L.length : Nat) := by rw [HFF.out i, hz, hg]
        exact this
      have hi0 : (0 : Int) ≤ (i : Int) := by omega
      have hi1 : (i : Int) < (L.length : Int) := by omega
      have H7 : Hid (Below O w2 wr ∧ ∃ us : List Int, us.length = L.length ∧ us.set i (f i) = part f L.length (i + 1) ∧ us.getD i 0 = (hitA R z i (i + 1) : Nat) ∧ Box wr O (us.map (Value.int .i64))) := by
        refine ⟨hb, _, part_len _ _ _, part_step _, ?_, hx⟩
        rw [hitA_zero]
        simp [part, hil]
      clear hsg c0w c1w hg hgo hm hz hb hx HW
      go_wp2_with fail
      clear c0 c1 g1
      go_loopw [10] (fun kv wr => ∃ k : Nat, i + 1 ≤ k ∧ k ≤ L.length ∧ kv = .int .i64 k ∧ Below O w2 wr ∧ ∃ us : List Int, us.length = L.length ∧ us.set i (f i) = part f L.length (i + 1) ∧ us.getD i 0 = (hitA R z i k : Nat) ∧ Box wr O (us.map (Value.int .i64))) (fun kv _ => L.length - (intOf kv).toNat)
      case atStart => exact ⟨i + 1, Nat.le_refl _, hil, by go_num, H7.out⟩
      case round =>
        obtain ⟨k, hik, hkl, rfl, hb, us, hul, hus, hug, hx⟩ := hrel
        clear H7
        have HU : Hid (us.length = L.length ∧ us.set i (f i) = part f L.length (i + 1) ∧ us.getD i 0 = (hitA R z i k : Nat)) := ⟨hul, hus, hug⟩
        have HX : Hid (Below O w2 wr ∧ Box wr O (us.map (Value.int .i64))) := ⟨hb, hx⟩
        have hcell := hx.cell i (show (us.map (Value.int .i64))[i]? = some (.int .i64 (us.getD i 0)) by simp [hul, hil])
        have hfz := hx.frozen i
        by_cases hkn : k < L.length
        · obtain ⟨b2, o2, c2, x2, y2, hlv2, _, d0, hsr⟩ := (HFX.out wr hb).2.1.at (i := k) (by rw [(HFX.out wr hb).2.2.2]; exact hkn)
          rw [(HFX.out wr hb).2.2.2] at hlv2
          simp only [Value.slice.injEq, true_and] at hlv2
          obtain ⟨rfl, rfl⟩ := hlv2
          obtain ⟨cz, hcz⟩ : ∃ cz, cz = (R.getD k []).contains z := ⟨_, rfl⟩
          have hcc := contains_c hsr z
          rw [← hcz] at hcc
          have HCZ : Hid (hitA R z i (k + 1) = if cz = true then k else hitA R z i k) := by
            have : hitA R z i (k + 1) = if cz = true then k else hitA R z i k := by rw [hitA_step (by omega), hcz]
            exact this
          obtain ⟨q, hq⟩ : ∃ q, q = (R.getD k []).length := ⟨_, rfl⟩
          rw [← hq] at d0 hcc
          have hk0 : (0 : Int) ≤ (k : Int) := by omega
          have hk1 : (k : Int) < (L.length : Int) := by omega
          clear hb hul hus hug hx hcz hq hsr
          go_wp2_with fail
          refine hcc.mono ?_; rintro e w5 ⟨rfl, rfl⟩
          clear hcc d0
          cases cz with
          | false =>
            have HE : Hid (hitA R z i (k + 1) = hitA R z i k) := HCZ.out
            clear hcell hfz HCZ
            go_wp2_with fail
            go_roundw
            case rel => exact ⟨k + 1, by omega, by omega, by go_num, HX.out.1, us, HU.out.1, HU.out.2.1, by rw [HE.out]; exact HU.out.2.2, HX.out.2⟩
            case measure => simp [intOf]; omega
          | true =>
            have HE : Hid (hitA R z i (k + 1) = k) := HCZ.out
            have HN : Hid (Below O w2 (w5.setCell ⟨O, i, none⟩ (.int .i64 k)) ∧ (us.set i (k : Int)).length = L.length ∧ (us.set i (k : Int)).set i (f i) = part f L.length (i + 1) ∧ (us.set i (k : Int)).getD i 0 = k ∧ Box (w5.setCell ⟨O, i, none⟩ (.int .i64 k)) O ((us.set i (k : Int)).map (Value.int .i64))) := by
              refine ⟨HX.out.1.setCell (Nat.le_refl _) _, by rw [List.length_set]; exact HU.out.1, by rw [List.set_set]; exact HU.out.2.1, ?_, ?_⟩
              · have := HU.out.1
                simp [this, hil]
              · rw [List.map_set]
                exact HX.out.2.self i _
            clear HCZ
            go_wp2_with fail
            go_roundw
            case rel => exact ⟨k + 1, by omega, by omega, by go_num, HN.out.1, _, HN.out.2.1, HN.out.2.2.1, by rw [HE.out]; exact HN.out.2.2.2.1, HN.out.2.2.2.2⟩
            case measure => simp [intOf]; omega
        · have ek : k = L.length := by omega
          subst ek
          have g1 := (HFX.out wr hb).1.cell 1 rfl
          clear hul hus hug hx hb
          by_cases hzo : z = out
          · have hzo' : (z == out) = true := by simp [hzo]
            have HF : Hid (f i = L.length) := HZ.out.trans (if_pos hzo)
            have HN : Hid (Below O w2 (wr.setCell ⟨O, i, none⟩ (.int .i64 L.length)) ∧ Box (wr.setCell ⟨O, i, none⟩ (.int .i64 L.length)) O ((part f L.length (i + 1)).map (Value.int .i64))) := by
              refine ⟨HX.out.1.setCell (Nat.le_refl _) _, ?_⟩
              rw [← HU.out.2.1, List.map_set, HF.out]
              exact HX.out.2.self i _
            clear hzo HZ HF
            go_wp2_with fail
            go_roundw
            case rel => exact ⟨i + 1, by omega, by go_num, HN.out⟩
            case measure => simp [intOf]; omega
          · have hzo' : (z == out) = false := beq_eq_false_iff_ne.2 hzo
            have HF : Hid (f i = (hitA R z i L.length : Nat)) := HZ.out.trans (if_neg hzo)
            have HN : Hid (Below O w2 wr ∧ Box wr O ((part f L.length (i + 1)).map (Value.int .i64))) := by
              refine ⟨HX.out.1, ?_⟩
              rw [← HU.out.2.1, HF.out, ← HU.out.2.2]
              have : us.set i (us.getD i 0) = us := by
                apply List.ext_getElem?
                intro j
                rw [List.getElem?_set]
                by_cases e : i = j
                · subst e
                  rw [if_pos rfl]
                  have := HU.out.1
                  simp [this, hil]
                · rw [if_neg e]
              rw [this]
              exact HX.out.2
            clear hzo HZ HF hcell hfz
            go_wp2_with fail
            go_roundw
            case rel => exact ⟨i + 1, by omega, by go_num, HN.out⟩
            case measure => simp [intOf]; omega
    · have ei : i = L.length := by omega
      subst ei
      have HE : Hid (UnPost w ((List.range L.length).map f) (.returned (.slice (some ⟨O, 0, none⟩) L.length L.length)) wr) := by
        rw [part_all] at hx
        exact ⟨O, hOw, by simp, hx, (HFX.out wr hb).2.2.1⟩
      clear hb hx
      go_wp2_with fail
      go_ret
      rw [HFE.out]
      exact HE.out
end Go.Proofs.YtmhfabekmgcjnaaDoor
