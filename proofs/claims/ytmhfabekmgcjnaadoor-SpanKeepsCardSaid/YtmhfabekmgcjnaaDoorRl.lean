/- Layer 11: the document's All. -/
import Derived.Test.YtmhfabekmgcjnaaDoorRh
namespace Go.Proofs.YtmhfabekmgcjnaaDoor
open Go.RowKit Go.Bx Go.Od Go.Hp
attribute [local go_sem ↓] Go.wp_at_zero Go.wp_at_succ
set_option linter.unusedVariables false

def okv (ins : List (List Int)) (o : List Nat) (p k : Nat) : Bool := decide (p ∉ o) && (List.range k).all fun x => decide (x ∈ o) || !decide ((x : Int) ∈ ins.getD p [])
theorem okv_zero (ins : List (List Int)) (o : List Nat) (p : Nat) : okv ins o p 0 = !decide (p ∈ o) := by simp [okv]
theorem okv_succ (ins : List (List Int)) (o : List Nat) (p k : Nat) : okv ins o p (k + 1) = (okv ins o p k && (decide (k ∈ o) || !decide ((k : Int) ∈ ins.getD p []))) := by
  unfold okv
  rw [List.range_succ, List.all_append, Bool.and_assoc]
  simp
theorem okv_rdy (ins : List (List Int)) (o : List Nat) (p : Nat) : okv ins o p ins.length = rdy ins o p := by
  rw [Bool.eq_iff_iff, rdy_iff]
  unfold okv
  simp only [Bool.and_eq_true, decide_eq_true_eq, List.all_eq_true, List.mem_range, Bool.or_eq_true, Bool.not_eq_true', decide_eq_false_iff_not]
  constructor
  · rintro ⟨h1, h2⟩
    refine ⟨h1, fun k hk => ?_⟩
    obtain ⟨h3, h4⟩ := (inp_mem _ _ _).1 hk
    rcases h2 k h3 with h | h
    · exact h
    · exact absurd h4 h
  · rintro ⟨h1, h2⟩
    refine ⟨h1, fun k hk => ?_⟩
    by_cases h : (k : Int) ∈ ins.getD p []
    · exact .inl (h2 k ((inp_mem _ _ _).2 ⟨hk, h⟩))
    · exact .inr h
/-- the least place from i on that may come, or -1 -/
def BestAt (ins : List (List Int)) (o : List Nat) (i : Nat) (v : Int) : Prop :=
  (v = -1 ∧ ∀ j, i ≤ j → j < ins.length → rdy ins o j = false) ∨ ∃ b : Nat, v = b ∧ i ≤ b ∧ b < ins.length ∧ rdy ins o b = true ∧ ∀ j, i ≤ j → j < b → rdy ins o j = false
theorem BestAt.start (ins : List (List Int)) (o : List Nat) : BestAt ins o ins.length (-1) := .inl ⟨rfl, fun j h1 h2 => by omega⟩
theorem BestAt.yes {ins : List (List Int)} {o : List Nat} {i : Nat} {v : Int} (h : BestAt ins o (i + 1) v) (hi : i < ins.length) (hr : rdy ins o i = true) : BestAt ins o i i := .inr ⟨i, rfl, Nat.le_refl _, hi, hr, fun j h1 h2 => by omega⟩
theorem BestAt.no {ins : List (List Int)} {o : List Nat} {i : Nat} {v : Int} (h : BestAt ins o (i + 1) v) (hr : rdy ins o i = false) : BestAt ins o i v := by
  have h0 : ∀ j, i ≤ j → j = i ∨ i + 1 ≤ j := fun j hj => by omega
  rcases h with ⟨h1, h2⟩ | ⟨b, h1, h2, h3, h4, h5⟩
  · exact .inl ⟨h1, fun j hj hn => by
      rcases h0 j hj with rfl | h
      · exact hr
      · exact h2 j h hn⟩
  · exact .inr ⟨b, h1, by omega, h3, h4, fun j hj hn => by
      rcases h0 j hj with rfl | h
      · exact hr
      · exact h5 j h hn⟩
theorem BestAt.least {ins : List (List Int)} {o : List Nat} {v : Int} (h : BestAt ins o 0 v) : (v = -1 ∧ least ins o = none) ∨ ∃ b : Nat, v = b ∧ b < ins.length ∧ least ins o = some b := by
  rcases h with ⟨h1, h2⟩ | ⟨b, h1, h2, h3, h4, h5⟩
  · exact .inl ⟨h1, least_none fun j hj => h2 j (by omega) hj⟩
  · exact .inr ⟨b, h1, h3, least_some h3 h4 fun j hj => h5 j (by omega) hj⟩
/-- the marks of what is there -/
def mkd (o : List Nat) (r : Nat) : Bool := decide (r ∈ o)
theorem mk_snoc (o : List Nat) (b r : Nat) : (if r = b then true else mkd o r) = mkd (o ++ [b]) r := by
  unfold mkd
  by_cases e : r = b
  · subst e; simp
  · rw [if_neg e]; simp [e]
theorem NR.congr {w wr : World} {nv tv : Value} {out : Int} {n : Nat} {S S' : Nat → Bool} {T : List Nat} (h : NR w nv out n S tv T wr) (e : ∀ r, r < n → S r = S' r) : NR w nv out n S' tv T wr := ⟨h.gb, by rw [← bc_congr e]; exact h.ob, h.to, h.below⟩
structure QInv (ins : List (List Int)) (t : Nat) (o : List Nat) : Prop where
  len : o.length = t
  told : ord ins = ordN ins (ins.length - t) o
  fine : Fine ins o
theorem QInv.start (ins : List (List Int)) : QInv ins 0 [] := ⟨rfl, rfl, Fine.nil ins⟩
theorem QInv.stop {ins : List (List Int)} {t : Nat} {o : List Nat} (h : QInv ins t o) (hl : least ins o = none) : ord ins = o := h.told.trans (ordN_none hl _)
theorem QInv.more {ins : List (List Int)} {t b : Nat} {o : List Nat} (h : QInv ins t o) (ht : t < ins.length) (hl : least ins o = some b) : QInv ins (t + 1) (o ++ [b]) :=
  ⟨by simp [h.len], h.told.trans (by rw [show ins.length - t = (ins.length - (t + 1)) + 1 by omega]; exact ordN_some hl _), h.fine.snoc hl⟩
theorem QInv.end_ {ins : List (List Int)} {o : List Nat} (h : QInv ins ins.length o) : ord ins = o := by
  have := h.told
  rw [Nat.sub_self] at this
  exact this
set_option maxHeartbeats 3200000 in
theorem rall_c (B : Nat) (nv : Value) (nds : List Nd) (out : Int) (w : World) (hm : nds.length ≤ 999) (hl : ∀ i, i < nds.length → (nds.getD i Nd.none).ins.length ≤ 1000) (hg : Gr B w nv nds) (hB : B ≤ w.heap.size) :
    Calls Tryd.prog 18 #[.agg #[nv, .int .i64 out]] w (InPost w (ord (insOf nds))) := by
  obtain ⟨ga, gc, rfl⟩ := hg.isSl
  have hgl := hg.len_le
  obtain ⟨i3, hi3, hz0, hz1, hz2⟩ := info_parts infoI
  obtain ⟨i4, hi4, hy0, hy1, hy2⟩ := info_parts infoB
  obtain ⟨ins, hins⟩ : ∃ ins, ins = insOf nds := ⟨_, rfl⟩
  have HI : Hid (ins = insOf nds ∧ ins.length = nds.length) := ⟨hins, by rw [hins, insOf_len]⟩
  have HG : Hid (Gr B w (.slice ga nds.length gc) nds ∧ ∀ i, i < nds.length → (nds.getD i Nd.none).ins.length ≤ 1000) := ⟨hg, hl⟩
  rw [← hins]
  clear hg hl hins
  go_enter Tryd.func18, Tryd.ntmps18
  go_wp2_with (at_make; refine wpList_make_full _ rfl _ _ 38 rfl (w.heap.size + 1) 4 i4 (.bool false) 1 Tryd.underlying38 hi4 hy0 hy1 .i64 .i64 _ _ nds.length rfl rfl rfl rfl (by rw [hy2]; omega) (by unfold maxLen; omega) (by simp) ?_; intro w2 hown2 hgrow2; have HU : Hid (Box w2 (w.heap.size + 1) (bc nds.length fun _ => false) ∧ Box w2 w.heap.size [.slice ga nds.length gc, .int .i64 out] ∧ Below w.heap.size w w2) := makeB (by simp) hown2 hgrow2; clear hown2 hgrow2)
  have H0 : Hid (NR w (.slice ga nds.length gc) out nds.length (mkd []) (.slice none 0 0) [] w2) := by
    obtain ⟨h1, h2, h3⟩ := HU.out
    exact ⟨h2, h1, own_nil _ _, h3⟩
  clear HU
  go_loopw [3, 5] (fun ov tv wr => ∃ t o, t ≤ nds.length ∧ tv = .int .i64 t ∧ QInv ins t o ∧ NR w (.slice ga nds.length gc) out nds.length (mkd o) ov o wr) (fun _ tv _ => nds.length - (intOf tv).toNat)
  case atStart => exact ⟨0, [], Nat.zero_le _, rfl, QInv.start _, H0.out⟩
  case round =>
    obtain ⟨t, o, ht, rfl, hq, hr⟩ := hrel
    clear H0
    obtain ⟨oa, oc, hov⟩ := own_sl hr.to
    have hol : o.length = t := hq.len
    rw [hol] at hov
    subst hov
    have b0 := hr.gb.cell 0 rfl
    have HR : Hid (QInv ins t o ∧ NR w (.slice ga nds.length gc) out nds.length (mkd o) (.slice oa t oc) o wr ∧ o.length = t) := ⟨hq, hr, hol⟩
    clear hq hr hol
    by_cases htl : t < nds.length
    · have hn1 : (1 : Int) ≤ (nds.length : Int) := by omega
      go_wp2_with fail
      have H1 : Hid (NR w (.slice ga nds.length gc) out nds.length (mkd o) (.slice oa t oc) o wr ∧ BestAt ins o nds.length (-1)) := ⟨HR.out.2.1, by rw [← HI.out.2]; exact BestAt.start _ _⟩
      go_loopw [6, 7] (fun bv iv wr => ∃ (i : Nat) (v z : Int), i ≤ nds.length ∧ iv = .int .i64 z ∧ bv = .int .i64 v ∧ z = (i : Int) - 1 ∧ BestAt ins o i v ∧ NR w (.slice ga nds.length gc) out nds.length (mkd o) (.slice oa t oc) o wr) (fun _ iv _ => ((intOf iv) + 1).toNat)
      case atStart => exact ⟨nds.length, -1, _, Nat.le_refl _, rfl, rfl, rfl, H1.out.2, H1.out.1⟩
      case round =>
        obtain ⟨i, v, z, hi, rfl, rfl, hz, hbest, hr⟩ := hrel
        clear H1 b0
        cases i with
        | zero =>
          obtain rfl : z = -1 := by omega
          clear hz hi
          rcases hbest.least with ⟨rfl, hle⟩ | ⟨b, rfl, hbn, hle⟩
          · have HE : Hid (InPost w (ord ins) (.returned (.slice oa t oc)) wr) := by
              have e := HR.out.1.stop hle
              have h1 := hr.to
              rw [e]
              refine ⟨oa, oc, by rw [HR.out.2.2], ?_, hr.below⟩
              rw [HR.out.2.2]
              exact OwnP.mono h1 (by omega)
            clear hr hbest hle
            go_wp2_with fail
            go_ret
            exact HE.out
          · have hbn' : b < nds.length := by rw [← HI.out.2]; exact hbn
            have hb0 : ¬ ((b : Int) < 0) := by omega
            have d0 := hr.ob.cell b (bc_get _ hbn')
            have f0 := hr.ob.frozen b
            have H7 : Hid (QInv ins (t + 1) (o ++ [b]) ∧ NR w (.slice ga nds.length gc) out nds.length (mkd (o ++ [b])) (.slice oa t oc) o (wr.setCell ⟨w.heap.size + 1, b, none⟩ (.bool true)) ∧ w.heap.size + 2 ≤ wr.heap.size) := ⟨HR.out.1.more (by rw [HI.out.2]; exact htl) hle, (hr.mark b true).congr fun r _ => mk_snoc o b r, by have := hr.ob.lt; omega⟩
            have n0 : ((wr.setCell ⟨w.heap.size + 1, b, none⟩ (.bool true)).alloc (.cells #[.int .i64 b] 3)).cell? ⟨wr.heap.size, 0, none⟩ = some (.int .i64 b) := by
              have := cell_newP (wr.setCell ⟨w.heap.size + 1, b, none⟩ (.bool true)) (.int .i64 b) 3
              rwa [size_set] at this
            have HM : Hid (t + 1 ≤ maxLen ∧ (t + 1) * 8 ≤ 140737488355328) := by constructor <;> (try unfold maxLen) <;> omega
            have hsz := H7.out.2.2
            clear hr hbest hle hbn
            go_wp2_with (at_builtin; refine wpList_append_lies _ rfl _ _ 31 rfl (w.heap.size + 2) 3 i3 (.int .i64 0) 1 8 Tryd.underlying31 hi3 hz0 hz1 hz2 rfl (by decide) (.slice oa t oc) t ((ofN o).map (Value.int .i64)) rfl (OwnP.row ((ofN_len o).trans HR.out.2.2) (H7.out.2.1.to.alloc (.cells #[.int .i64 b] 3))) _ 1 1 [.int .i64 b] rfl rfl (news_one n0) (by simp [Value.oneCell']) (by decide) HM.out.1 HM.out.2 (by first | omega | (simp; omega)) ((wr.setCell ⟨w.heap.size + 1, b, none⟩ (.bool true)).heap.size + 1) (by simp) ?_; intro g8 c8 w8 hown8 hgrow8 hat8 hlt8; have HA : Hid (NR w (.slice ga nds.length gc) out nds.length (mkd (o ++ [b])) (.slice (some ⟨g8, 0, none⟩) (t + 1) c8) (o ++ [b]) w8 ∧ OwnP w8 (w.heap.size + 2) (.slice none 0 0) (ofN []) ∧ ∀ k, (Value.slice none 0 0).ownBlock = some k → (Value.slice (some ⟨g8, 0, none⟩) (t + 1) c8).ownBlock ≠ some k) := NR.app2 HR.out.2.2.symm H7.out.2.1 (own_nil _ _) (fun k hk => by cases hk) hown8 hgrow8 (by simpa using hat8); clear hown8 hgrow8 hat8 hlt8)
            go_roundw
            case rel => exact ⟨t + 1, o ++ [b], by omega, by go_num, H7.out.1, HA.out.1⟩
            case measure => simp [intOf]; omega
        | succ p =>
          obtain rfl : z = (p : Int) := by omega
          have hpn : p < nds.length := by omega
          have d0 := hr.ob.cell p (bc_get _ hpn)
          have b0 := hr.gb.cell 0 rfl
          have H2 : Hid (NR w (.slice ga nds.length gc) out nds.length (mkd o) (.slice oa t oc) o wr ∧ okv ins o p 0 = !mkd o p ∧ BestAt ins o (p + 1) v) := ⟨hr, okv_zero ins o p, hbest⟩
          have hp0 : (0 : Int) ≤ (p : Int) := by omega
          clear hr hbest hz
          go_wp2_with fail
          go_loopw [8, 9] (fun okb kv wr => ∃ k : Nat, k ≤ nds.length ∧ kv = .int .i64 k ∧ okb = .bool (okv ins o p k) ∧ NR w (.slice ga nds.length gc) out nds.length (mkd o) (.slice oa t oc) o wr) (fun _ kv _ => nds.length - (intOf kv).toNat)
          case atStart => exact ⟨0, Nat.zero_le _, rfl, by rw [H2.out.2.1], H2.out.1⟩
          case round =>
            obtain ⟨k, hk, rfl, rfl, hr⟩ := hrel
            clear d0 b0
            have b0 := hr.gb.cell 0 rfl
            have b1 := hr.gb.cell 1 rfl
            by_cases hkn : k < nds.length
            · have HOK : Hid (okv ins o p (k + 1) = (okv ins o p k && (mkd o k || !decide ((k : Int) ∈ (nds.getD p Nd.none).ins)))) := by
                rw [okv_succ, HI.out.1, insOf_get]
                rfl
              have d1 := hr.ob.cell k (bc_get _ hkn)
              have HR2 : Hid (NR w (.slice ga nds.length gc) out nds.length (mkd o) (.slice oa t oc) o wr) := hr
              clear hr
              obtain ⟨q, hq⟩ : ∃ q, q = okv ins o p k := ⟨_, rfl⟩
              obtain ⟨m, hm'⟩ : ∃ m, m = mkd o k := ⟨_, rfl⟩
              rw [← hq, ← hm'] at HOK
              rw [← hm'] at d1
              rw [← hq]
              clear hq hm'
              cases q with
              | false =>
                have HF : Hid (okv ins o p (k + 1) = false) := HOK.out
                clear HOK
                go_wp2_with fail
                go_roundw
                case rel => exact ⟨k + 1, by omega, by go_num, by rw [HF.out], HR2.out⟩
                case measure => simp [intOf]; omega
              | true =>
                cases m with
                | true =>
                  have HF : Hid (okv ins o p (k + 1) = true) := HOK.out
                  clear HOK
                  go_wp2_with fail
                  go_roundw
                  case rel => exact ⟨k + 1, by omega, by go_num, by rw [HF.out], HR2.out⟩
                  case measure => simp [intOf]; omega
                | false =>
                  go_wp2_with fail
                  refine (has_c B _ nds out k p wr hpn (by omega) (HG.out.2 p hpn) (HG.out.1.below HR2.out.below hB)).mono ?_; rintro e w5 ⟨rfl, hb5⟩
                  have HF : Hid (okv ins o p (k + 1) = !decide ((k : Int) ∈ (nds.getD p Nd.none).ins)) := HOK.out
                  have HR3 : Hid (NR w (.slice ga nds.length gc) out nds.length (mkd o) (.slice oa t oc) o w5) := HR2.out.call hb5
                  clear HOK hb5
                  obtain ⟨u, hu⟩ : ∃ u, u = decide ((k : Int) ∈ (nds.getD p Nd.none).ins) := ⟨_, rfl⟩
                  rw [← hu] at HF
                  rw [← hu]
                  clear hu
                  go_wp2_with fail
                  go_roundw
                  case rel => exact ⟨k + 1, by omega, by go_num, by rw [HF.out], HR3.out⟩
                  case measure => simp [intOf]; omega
            · have ek : k = nds.length := by omega
              subst ek
              have HK : Hid (okv ins o p nds.length = rdy ins o p) := by rw [← HI.out.2]; exact okv_rdy ins o p
              obtain ⟨q, hq⟩ : ∃ q, q = okv ins o p nds.length := ⟨_, rfl⟩
              have HB : Hid (BestAt ins o p (if q then (p : Int) else v)) := by
                rw [HK.out] at hq
                cases q with
                | true => exact H2.out.2.2.yes (by rw [HI.out.2]; exact hpn) hq.symm
                | false => exact H2.out.2.2.no hq.symm
              rw [← hq]
              clear hq
              cases q with
              | true =>
                have HB' : Hid (BestAt ins o p p) := HB.out
                clear HB
                go_wp2_with fail
                go_roundw
                case rel => exact ⟨p, p, _, by omega, rfl, rfl, rfl, HB'.out, hr⟩
                case measure => simp [intOf]
              | false =>
                have HB' : Hid (BestAt ins o p v) := HB.out
                clear HB
                go_wp2_with fail
                go_roundw
                case rel => exact ⟨p, v, _, by omega, rfl, rfl, rfl, HB'.out, hr⟩
                case measure => simp [intOf]
    · have et : t = nds.length := by omega
      subst et
      have HE : Hid (InPost w (ord ins) (.returned (.slice oa nds.length oc)) wr) := by
        have e := HR.out.1
        rw [← HI.out.2] at e
        rw [e.end_]
        refine ⟨oa, oc, by rw [HR.out.2.2], ?_, HR.out.2.1.below⟩
        rw [HR.out.2.2]
        exact OwnP.mono HR.out.2.1.to (by omega)
      go_wp2_with fail
      go_ret
      exact HE.out
end Go.Proofs.YtmhfabekmgcjnaaDoor
