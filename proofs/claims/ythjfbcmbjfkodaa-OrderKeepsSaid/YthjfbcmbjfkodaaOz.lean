/- 'OrderNeeds' of whatever graph. -/
import Derived.Test.YthjfbcmbjfkodaaGa
namespace Go.Proofs.Ythjfbcmbjfkodaa
open Go.RowKit Go.Bx Go.Od Go.Hp
attribute [local go_sem ↓] Go.wp_at_zero Go.wp_at_succ
set_option linter.unusedVariables false

/-- where a row of uses lies -/
theorem us_row {w : World} {U n : Nat} {av : Option Nat} {f : Nat → List Nat} {vs : List Value} (hu : US w U n av f vs) {k : Nat} (hk : k < n) :
    ∃ a c, w.cell? ⟨U, k, none⟩ = some (.slice a (f k).length c) ∧ OwnP w (U + 1) (.slice a (f k).length c) (ofN (f k)) := by
  obtain ⟨v, hv⟩ : ∃ v, vs.getD k undef = v := ⟨_, rfl⟩
  have hvg : vs[k]? = some v := by rw [← hv]; have := hu.len; simp [show k < vs.length by omega]
  have ho := hu.own k hk
  rw [hv] at ho
  obtain ⟨a, c, rfl⟩ := own_sl ho
  exact ⟨a, c, hu.box.cell k hvg, ho⟩
theorem row_at {w : World} {B : Nat} {a : Option Addr} {n c : Nat} {l : List Nat} (h : OwnP w B (.slice a n c) (ofN l)) {j u : Nat} (hj : l[j]? = some u) : ∃ g, a = some ⟨g, 0, none⟩ ∧ w.cell? ⟨g, j, none⟩ = some (.int .i64 u) := by
  have hjl : j < l.length := (List.getElem?_eq_some_iff.1 hj).1
  rcases h.form with ⟨_, h'⟩ | ⟨g, cap, h1, _, _, _, _, _, _, hc⟩
  · have : l.length = 0 := by rw [← ofN_len, h']; rfl
    omega
  · simp only [Value.slice.injEq] at h1
    obtain ⟨rfl, _, _⟩ := h1
    refine ⟨g, rfl, ?_⟩
    rw [hc j (by rw [ofN_len]; exact hjl)]
    unfold ofN
    simp [hj]
/-- is a node used by one that is needed, or told? -/
noncomputable def usedB (ins : List (List Int)) (out : Int) (i : Nat) (l : List Nat) : Bool := decide ((i : Int) = out) || l.any fun u => ned ins out u
theorem usedB_snoc (ins : List (List Int)) (out : Int) (i : Nat) (l : List Nat) (u : Nat) : usedB ins out i (l ++ [u]) = (usedB ins out i l || ned ins out u) := by
  unfold usedB
  rw [List.any_append]
  simp [Bool.or_assoc]
theorem usedB_all {ins : List (List Int)} {out : Int} (h0 : 0 ≤ out) (h1 : out < ins.length) (i : Nat) : usedB ins out i (users ins i) = ned ins out i := by
  rw [Bool.eq_iff_iff, ned_iff]
  unfold usedB
  rw [Bool.or_eq_true, decide_eq_true_eq, List.any_eq_true]
  constructor
  · rintro (h | ⟨u, hu, h⟩)
    · refine ⟨h0, h1, ?_⟩
      have : out.toNat = i := by omega
      rw [this]
      exact .base
    · exact ((ned_iff _ _ _).1 h).next ((users_mem ins i u).1 hu).2
  · rintro ⟨_, _, h⟩
    cases h with
    | base => exact .inl (by omega)
    | @step u _ hu hk =>
      refine .inr ⟨u, (users_mem ins i u).2 ⟨?_, hk⟩, (ned_iff _ _ _).2 ⟨h0, h1, hu⟩⟩
      exact Ned.lt ⟨h0, h1, hu⟩
set_option maxRecDepth 4000 in
set_option maxHeartbeats 3200000 in
theorem orderNeeds_walk (nv : Value) (nds : List Nd) (out : Int) (w : World) (hg : Gr w.heap.size w nv nds) (hio : In64 out) :
    Calls Try.prog 5 #[.agg #[nv, .int .i64 out]] w (TPost w) := by
  obtain ⟨ga, gc, rfl⟩ := hg.isSl
  have hgl := hg.len_le
  have b0' := Box.new w [.slice ga nds.length gc, .int .i64 out] 24
  have B0 := below_alloc w (.cells #[.slice ga nds.length gc, .int .i64 out] 24)
  have HG : Hid (Gr w.heap.size w (.slice ga nds.length gc) nds) := hg
  clear hg
  go_enter Try.func5, Try.ntmps5
  go_wp2_with fail
  have H0 : Hid (Box (w.alloc (.cells #[.slice ga nds.length gc, .int .i64 out] 24)) w.heap.size [.slice ga nds.length gc, .int .i64 out] ∧ Below w.heap.size w (w.alloc (.cells #[.slice ga nds.length gc, .int .i64 out] 24))) := ⟨b0', B0⟩
  clear b0' B0
  generalize w.alloc (.cells #[.slice ga nds.length gc, .int .i64 out] 24) = W0 at *
  refine (awake_c W0).mono ?_; rintro e w1 ⟨rfl, hb1⟩
  have H1 : Hid (Box w1 w.heap.size [.slice ga nds.length gc, .int .i64 out] ∧ Below w.heap.size w w1) := ⟨H0.out.1.call hb1, H0.out.2.trans (hb1.mono H0.out.2.size)⟩
  have g0 := H1.out.1.cell 0 rfl
  have g1 := H1.out.1.cell 1 rfl
  clear hb1 H0
  go_wp2_with fail
  refine (rfew_c w.heap.size _ nds out 100 w1 (by decide) (HG.out.below H1.out.2 (Nat.le_refl _))).mono ?_; rintro e w2 ⟨rfl, hb2⟩
  have H2 : Hid (Box w2 w.heap.size [.slice ga nds.length gc, .int .i64 out] ∧ Below w.heap.size w w2) := ⟨H1.out.1.call hb2, H1.out.2.trans (hb2.mono H1.out.2.size)⟩
  clear g0 g1 hb2 H1
  have g0 := H2.out.1.cell 0 rfl
  have g1 := H2.out.1.cell 1 rfl
  obtain ⟨q, hq⟩ : ∃ q, q = fewB nds 100 := ⟨_, rfl⟩
  have HQ : Hid (q = fewB nds 100) := hq
  rw [← hq]
  clear hq
  have hend : Hid (∀ w3, Below w2.heap.size w2 w3 → TPost w (.returned (.bool true)) w3) := fun w3 hb => ⟨rfl, H2.out.2.trans (hb.mono H2.out.2.size)⟩
  cases q with
  | false =>
    go_wp2_with fail
    refine (awake_c w2).mono ?_; rintro e w3 ⟨rfl, hb3⟩
    have HE : Hid (TPost w (.returned (.bool true)) w3) := hend.out w3 hb3
    clear g0 g1 hb3
    go_wp2_with fail
    go_ret
    exact HE.out
  | true =>
    by_cases ho1 : out < 0
    · go_wp2_with fail
      refine (awake_c w2).mono ?_; rintro e w3 ⟨rfl, hb3⟩
      have HE : Hid (TPost w (.returned (.bool true)) w3) := hend.out w3 hb3
      clear g0 g1 hb3
      go_wp2_with fail
      go_ret
      exact HE.out
    · by_cases ho2 : (nds.length : Int) ≤ out
      · go_wp2_with fail
        refine (awake_c w2).mono ?_; rintro e w3 ⟨rfl, hb3⟩
        have HE : Hid (TPost w (.returned (.bool true)) w3) := hend.out w3 hb3
        clear g0 g1 hb3
        go_wp2_with fail
        go_ret
        exact HE.out
      · obtain ⟨r, rfl⟩ : ∃ r : Nat, out = r := ⟨out.toNat, by omega⟩
        have hrn : r < nds.length := by omega
        have hr0 : ¬ (nds.length ≤ r) := by omega
        have HF : Hid (nds.length ≤ 100 ∧ ∀ i, i < nds.length → (nds.getD i Nd.none).ins.length ≤ 1000) := few_of HQ.out.symm (by decide)
        have hn100 := HF.out.1
        obtain ⟨ins, hins⟩ : ∃ ins, ins = insOf nds := ⟨_, rfl⟩
        have HI : Hid (ins = insOf nds ∧ ins.length = nds.length) := ⟨hins, by rw [hins, insOf_len]⟩
        clear hins HQ hio ho2
        go_wp2_with fail
        refine (needed_c w.heap.size _ nds r w2 (by omega) HF.out.2 (HG.out.below H2.out.2 (Nat.le_refl _)) H2.out.2.size).mono ?_; rintro e w3 ⟨N, hN, rfl, hbn, hb3⟩
        rw [← HI.out.1] at hbn
        have H3 : Hid (Box w3 w.heap.size [.slice ga nds.length gc, .int .i64 r] ∧ Below w.heap.size w w3 ∧ Box w3 N (bc nds.length (ned ins r))) := ⟨H2.out.1.call hb3, H2.out.2.trans (hb3.mono H2.out.2.size), hbn⟩
        clear g0 g1 hN hbn hb3 H2 hend
        have g0 := H3.out.1.cell 0 rfl
        have g1 := H3.out.1.cell 1 rfl
        go_wp2_with fail
        refine (uses_c w.heap.size _ nds r w3 (by omega) HF.out.2 (HG.out.below H3.out.2.1 (Nat.le_refl _)) H3.out.2.1.size).mono ?_; rintro e w4 ⟨U, vs, hU, rfl, hus, hb4⟩
        rw [← HI.out.1] at hus
        have H4 : Hid (Box w4 w.heap.size [.slice ga nds.length gc, .int .i64 r] ∧ Below w.heap.size w w4 ∧ Box w4 N (bc nds.length (ned ins r)) ∧ US w4 U nds.length none (users ins) vs) := ⟨H3.out.1.call hb4, H3.out.2.1.trans (hb4.mono H3.out.2.1.size), H3.out.2.2.call hb4, hus⟩
        clear g0 g1 hU hus hb4 H3
        have g0 := H4.out.1.cell 0 rfl
        have g1 := H4.out.1.cell 1 rfl
        have dr := H4.out.2.2.1.cell r (bc_get _ hrn)
        have hnr : ned ins r r = true := (ned_iff _ _ _).2 ⟨by omega, by rw [HI.out.2]; omega, by rw [Int.toNat_natCast]; exact .base⟩
        rw [hnr] at dr
        clear hnr
        go_wp2_with fail
        clear dr
        go_loop [5] (fun iv => ∃ i : Nat, i ≤ nds.length ∧ iv = .int .i64 i) (fun iv => nds.length - (intOf iv).toNat)
        case atStart => exact ⟨0, Nat.zero_le _, rfl⟩
        case round =>
          obtain ⟨i, hi, rfl⟩ := hrel
          by_cases hil : i < nds.length
          · obtain ⟨a, c, ku, ho⟩ := us_row H4.out.2.2.2 hil
            obtain ⟨L, hL⟩ : ∃ L, L = users ins i := ⟨_, rfl⟩
            have HL : Hid (L = users ins i) := hL
            rw [← hL] at ku ho
            have HO : Hid (OwnP w4 (U + 1) (.slice a L.length c) (ofN L)) := ho
            have hul : L.length ≤ 100 := by
              rw [hL]
              have h1 := len_le (users_nodup ins i) (fun j hj => ((users_mem ins i j).1 hj).1)
              have h2 := HI.out.2
              omega
            have HU0 : Hid (decide ((i : Int) = (r : Int)) = usedB ins r i (L.take 0)) := by
              have e : decide ((i : Int) = (r : Int)) = usedB ins r i (L.take 0) := by
                rw [List.take_zero]
                unfold usedB
                simp
              exact e
            obtain ⟨d, hd⟩ : ∃ d, d = decide ((i : Int) = (r : Int)) := ⟨_, rfl⟩
            have hd' : ((i : Int) == (r : Int)) = d := by rw [hd]; rfl
            rw [← hd] at HU0
            clear ho hd hL
            go_wp2_with fail
            go_loop [6, 7] (fun uv kv => ∃ k : Nat, k ≤ L.length ∧ kv = .int .i64 k ∧ uv = .bool (usedB ins r i (L.take k))) (fun _ kv => L.length - (intOf kv).toNat)
            case atStart => exact ⟨0, Nat.zero_le _, rfl, by rw [← HU0.out]⟩
            case round =>
              obtain ⟨k, hk, rfl, rfl⟩ := hrel
              by_cases hkl : k < L.length
              · obtain ⟨u, hu⟩ : ∃ u, u = L[k] := ⟨_, rfl⟩
                have huk : L[k]? = some u := by rw [hu]; exact List.getElem?_eq_getElem hkl
                have hun : u < nds.length := by have := ((users_mem ins i u).1 (by rw [← HL.out]; exact List.mem_of_getElem? huk)).1; have := HI.out.2; omega
                obtain ⟨g, rfl, hcu⟩ := row_at HO.out huk
                have dn := H4.out.2.2.1.cell u (bc_get _ hun)
                have HS : Hid (usedB ins r i (L.take (k + 1)) = (usedB ins r i (L.take k) || ned ins r u)) := by
                  have e : L.take (k + 1) = L.take k ++ [u] := take_more huk
                  rw [e]
                  exact usedB_snoc _ _ _ _ _
                obtain ⟨p, hp⟩ : ∃ p, p = usedB ins r i (L.take k) := ⟨_, rfl⟩
                obtain ⟨n, hn⟩ : ∃ n, n = ned ins r u := ⟨_, rfl⟩
                rw [← hp, ← hn] at HS
                rw [← hn] at dn
                rw [← hp]
                clear hp hn hu huk
                cases p with
                | true =>
                  have HS' : Hid (usedB ins r i (L.take (k + 1)) = true) := HS.out
                  clear HS
                  go_wp2_with fail
                  go_round
                  case rel => exact ⟨k + 1, by omega, by go_num, by rw [HS'.out]⟩
                  case measure => simp [intOf]; omega
                | false =>
                  have HS' : Hid (usedB ins r i (L.take (k + 1)) = n) := HS.out
                  clear HS
                  go_wp2_with fail
                  go_round
                  case rel => exact ⟨k + 1, by omega, by go_num, by rw [HS'.out]⟩
                  case measure => simp [intOf]; omega
              · have ek : k = L.length := by omega
                subst ek
                have HQ : Hid (usedB ins r i L = ned ins r i) := by rw [HL.out]; exact usedB_all (by omega) (by rw [HI.out.2]; omega) i
                have dn := H4.out.2.2.1.cell i (bc_get _ hil)
                rw [List.take_length, HQ.out]
                generalize ned ins r i = n at *
                have hnn : (n != n) = false := by simp
                go_wp2_with fail
                go_round
                case rel => exact ⟨i + 1, by omega, by go_num⟩
                case measure => simp [intOf]; omega
          · have ei : i = nds.length := by omega
            subst ei
            go_wp2_with fail
            go_ret
            exact ⟨rfl, H4.out.2.1⟩
end Go.Proofs.Ythjfbcmbjfkodaa
