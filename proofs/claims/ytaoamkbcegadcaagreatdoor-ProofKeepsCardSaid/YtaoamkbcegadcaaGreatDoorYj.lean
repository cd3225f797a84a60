/- Texts joined: XYj. -/
import Derived.Test.YtaoamkbcegadcaaGreatDoorYi
set_option maxRecDepth 4000
/- Layer 19: release. (Printed by mk_yj.py.) -/
namespace Go.Proofs.YtaoamkbcegadcaaGreatDoor
open Go.RowKit Go.Bx Go.Od Go.Hp
attribute [local go_sem ↓] Go.wp_at_zero Go.wp_at_succ
set_option linter.unusedVariables false

/-- slots, the first j of them gone over -/
def relJ (ps : List Ps) (at_ : Nat) (sl : List (Int × Int)) (j : Nat) : List (Int × Int) := relS ps at_ (sl.take j) ++ sl.drop j
theorem relJ_len (ps : List Ps) (at_ : Nat) (sl : List (Int × Int)) (j : Nat) : (relJ ps at_ sl j).length = sl.length := by
  unfold relJ
  rw [List.length_append, relS_len, List.length_take, List.length_drop]
  omega
theorem relJ_get (ps : List Ps) (at_ : Nat) (sl : List (Int × Int)) {j : Nat} (hj : j < sl.length) : (relJ ps at_ sl j).getD j (0, 0) = sl.getD j (0, 0) := by
  unfold relJ
  have h1 : (relS ps at_ (sl.take j)).length = j := by rw [relS_len, List.length_take]; omega
  rw [List.getD_eq_getElem?_getD, List.getElem?_append_right (by omega), h1, Nat.sub_self]
  simp [hj]
theorem relJ_next (ps : List Ps) (at_ : Nat) (sl : List (Int × Int)) {j : Nat} (hj : j < sl.length) : relJ ps at_ sl (j + 1) = if dies ps at_ (sl.getD j (0, 0)) then (relJ ps at_ sl j).set j ((sl.getD j (0, 0)).1, -1) else relJ ps at_ sl j := by
  unfold relJ
  have h1 : (relS ps at_ (sl.take j)).length = j := by rw [relS_len, List.length_take]; omega
  have e : sl.take (j + 1) = sl.take j ++ [sl.getD j (0, 0)] := by
    rw [List.take_add_one]
    simp [hj]
  have e2 : sl.drop j = sl.getD j (0, 0) :: sl.drop (j + 1) := by
    rw [List.drop_eq_getElem_cons hj]
    simp [hj]
  have e3 : relS ps at_ (sl.take (j + 1)) = relS ps at_ (sl.take j) ++ [if dies ps at_ (sl.getD j (0, 0)) then ((sl.getD j (0, 0)).1, -1) else sl.getD j (0, 0)] := by
    rw [e]; simp [relS]
  rw [e3, e2]
  generalize relS ps at_ (sl.take j) = R at *
  subst h1
  split
  · simp
  · simp
theorem relJ_zero (ps : List Ps) (at_ : Nat) (sl : List (Int × Int)) : relJ ps at_ sl 0 = sl := by simp [relJ, relS]
theorem relJ_all (ps : List Ps) (at_ : Nat) (sl : List (Int × Int)) : relJ ps at_ sl sl.length = relS ps at_ sl := by simp [relJ]
def RlPost (w0 : World) (M : Nat) (nv : Value) (out : Int) (c : Cf) (pl : List (Value × Value × Ps)) (pv : Value) (src : Rc) (sn pk : Int) (sl : List (Int × Int)) (sv : Value) (e : Ending) (w' : World) : Prop := e = .returned undef ∧ MS w0 M nv out c pl pv src sn pk sl sv w'
set_option maxRecDepth 4000 in
set_option maxHeartbeats 6400000 in
theorem release_c {w0 : World} {M : Nat} {nv pv sv : Value} {out : Int} {c : Cf} {pl : List (Value × Value × Ps)} {src : Rc} {sn pk : Int} {sl : List (Int × Int)} (at_ : Nat) (w : World) (hm : MS w0 M nv out c pl pv src sn pk sl sv w) (hl : sl.length ≤ 100) (hlt : ∀ s ∈ sl, s.2 < pl.length) :
    Calls Tryz.prog 34 #[.pointer (some ⟨M, 0, none⟩), .int .i64 at_] w (RlPost w0 M nv out c pl pv src sn pk (relS (psl pl) at_ sl) sv) := by
  have c14 := hm.box.cell 14 rfl
  obtain ⟨a, cap, rfl, _⟩ := scs_cell hm.sr
  obtain ⟨n, hn⟩ : ∃ n, n = sl.length := ⟨_, rfl⟩
  obtain ⟨R, hR⟩ : ∃ R, R = relJ (psl pl) at_ sl := ⟨_, rfl⟩
  have HR : Hid (R 0 = sl ∧ R n = relS (psl pl) at_ sl ∧ (∀ j, (R j).length = n) ∧ (∀ j, j < n → (R j).getD j (0, 0) = sl.getD j (0, 0)) ∧ (∀ j, j < n → R (j + 1) = if dies (psl pl) at_ (sl.getD j (0, 0)) then (R j).set j ((sl.getD j (0, 0)).1, -1) else R j) ∧ (∀ j, j < n → (sl.getD j (0, 0)).2 < pl.length)) := by
    have : R 0 = sl ∧ R n = relS (psl pl) at_ sl ∧ (∀ j, (R j).length = n) ∧ (∀ j, j < n → (R j).getD j (0, 0) = sl.getD j (0, 0)) ∧ (∀ j, j < n → R (j + 1) = if dies (psl pl) at_ (sl.getD j (0, 0)) then (R j).set j ((sl.getD j (0, 0)).1, -1) else R j) ∧ (∀ j, j < n → (sl.getD j (0, 0)).2 < pl.length) := by
      rw [hR, hn]
      exact ⟨relJ_zero _ _ _, relJ_all _ _ _, relJ_len _ _ _, fun j hj => relJ_get _ _ _ hj, fun j hj => relJ_next _ _ _ hj, fun j hj => hlt _ (getD_mem _ hj)⟩
    exact this
  have H0 : Hid (MS w0 M nv out c pl pv src sn pk (R 0) (.slice a n cap) w) := by
    have : MS w0 M nv out c pl pv src sn pk (R 0) (.slice a n cap) w := by rw [HR.out.1, hn]; exact hm
    exact this
  rw [← hn] at c14 ⊢
  have hn1 : n ≤ 100 := by omega
  obtain ⟨pn, hpn⟩ : ∃ n, n = pl.length := ⟨_, rfl⟩
  have HPN : Hid (pn = pl.length) := hpn
  obtain ⟨F, hF⟩ : ∃ F, F = relS (psl pl) at_ sl := ⟨_, rfl⟩
  have HF : Hid (R n = F) := by
    have : R n = F := by rw [hF]; exact HR.out.2.1
    exact this
  rw [← hF]
  clear hm hn hl hlt hR hpn hF
  go_enter Tryz.func34, Tryz.ntmps34
  go_wp2_with fail
  go_loopw [11] (fun jv wr => ∃ (j : Nat), j ≤ n ∧ jv = .int .i64 j ∧ MS w0 M nv out c pl pv src sn pk (R j) (.slice a n cap) wr) (fun jv _ => n - (intOf jv).toNat)
  case atStart => exact ⟨0, by omega, rfl, H0.out⟩
  case round =>
    obtain ⟨j, hj, rfl, hm⟩ := hrel
    clear H0
    by_cases h1 : j < n
    · have HN := HR.out.2.2.2.2.1 j h1
      have hgj := HR.out.2.2.2.1 j h1
      have hol := HR.out.2.2.2.2.2 j h1
      obtain ⟨a', c', hv, hcell⟩ := scs_cell hm.sr
      rw [HR.out.2.2.1 j] at hv hcell
      obtain ⟨g, hg0, hgB, hgl, hc0, hc1, hfz⟩ := hcell j h1
      simp only [Value.slice.injEq] at hv
      obtain ⟨rfl, _, rfl⟩ := hv
      subst hg0
      rw [hgj] at hc0 hc1
      obtain ⟨z, hz⟩ : ∃ z, z = sl.getD j (0, 0) := ⟨_, rfl⟩
      rw [← hz] at hc0 hc1 HN hol
      obtain ⟨z1, z2⟩ := z
      dsimp only at hc0 hc1 HN hol
      have hset := fun W (hm' : MS w0 M nv out c pl pv src sn pk (R j) (.slice (some ⟨g, 0, none⟩) n cap) W) => hm'.setSlot (i := j) (by rw [HR.out.2.2.1 j]; exact h1) (-1)
      rw [hgj, ← hz] at hset
      have HSET : Hid _ := hset
      have HNX : Hid (R (j + 1) = if dies (psl pl) at_ (z1, z2) then (R j).set j (z1, -1) else R j) := HN
      have hj0 : (0 : Int) ≤ (j : Int) := by omega
      have hj1 : (j : Int) < (n : Int) := by omega
      have hbw := below_new wr (.cells #[.int .i64 z1, .int .i64 z2] 73)
      have X := Box.new wr [.int .i64 z1, .int .i64 z2] 73
      have HM : Hid (MS w0 M nv out c pl pv src sn pk (R j) (.slice (some ⟨g, 0, none⟩) n cap) (wr.alloc (.cells #[.int .i64 z1, .int .i64 z2] 73))) := hm.call hbw
      have HFZ : Hid (∀ W, Below wr.heap.size wr W → W.frozen? ⟨g, j * 2 + 1, none⟩ = false ∧ W.cell? ⟨g, j * 2 + 1, none⟩ = some (.int .i64 z2) ∧ W.cell? ⟨M, 14, none⟩ = some (.slice (some ⟨g, 0, none⟩) n cap)) := fun W hW => ⟨(hW.frozen hgl).trans (hfz _), (hW.cell hgl).trans hc1, (hm.call hW).box.cell 14 rfl⟩
      have HBW : Hid (Below wr.heap.size wr (wr.alloc (.cells #[.int .i64 z1, .int .i64 z2] 73))) := hbw
      have k9 := fun s : Kept (wr.alloc (.cells #[.int .i64 z1, .int .i64 z2] 73)).heap.size (wr.alloc (.cells #[.int .i64 z1, .int .i64 z2] 73)) => s.at (X.cell 1 rfl)
      by_cases h2 : 0 ≤ z2
      · obtain ⟨o, rfl⟩ := Int.eq_ofNat_of_zero_le h2
        have hd : decide ((o : Int) ≥ 0) = true := decide_eq_true h2
        have hol2 : o < pl.length := by omega
        obtain ⟨y, hy⟩ : ∃ y, y = (psl pl).getD o Ps.none := ⟨_, rfl⟩
        obtain ⟨pg, pcap, na, nc, ra, rc, rfl, _, _, hmx, _, hpc, _, _⟩ := HM.out.prs.at hol2 hy
        have c7 := HM.out.box.cell 7 rfl
        obtain ⟨q0, q1, q2, q3, q4, q5, q6, q7⟩ := hpc
        rw [← HPN.out] at c7 hol2 hmx
        obtain ⟨lo, hlo⟩ : ∃ l, l = y.last := ⟨_, rfl⟩
        rw [← hlo] at q7
        have HD : Hid (dies (psl pl) at_ (z1, (o : Int)) = decide (lo = (at_ : Int))) := by
          have : dies (psl pl) at_ (z1, (o : Int)) = decide (lo = (at_ : Int)) := by
            unfold dies
            dsimp only
            rw [decide_eq_true h2, Bool.true_and, Int.toNat_natCast, ← hy, ← hlo]
          exact this
        have k7 := fun s : Kept (wr.alloc (.cells #[.int .i64 z1, .int .i64 o] 73)).heap.size (wr.alloc (.cells #[.int .i64 z1, .int .i64 o] 73)) => s.at c7
        have k8 := fun s : Kept (wr.alloc (.cells #[.int .i64 z1, .int .i64 o] 73)).heap.size (wr.alloc (.cells #[.int .i64 z1, .int .i64 o] 73)) => s.at q7
        unfold maxLen at hmx
        have ho0 : (0 : Int) ≤ (o : Int) := by omega
        have ho1 : (o : Int) < (pn : Int) := by omega
        clear hcell hgj hz hset HN hbw X hfz q0 q1 q2 q3 q4 q5 q6 q7 c7 hlo hy hm hol hol2
        by_cases hl : lo = (at_ : Int)
        · subst hl
          have HR1 : Hid (R (j + 1) = (R j).set j (z1, -1)) := by
            have : R (j + 1) = (R j).set j (z1, -1) := by rw [HNX.out, HD.out, decide_eq_true rfl, if_pos rfl]
            exact this
          go_wp2_with fail
          refine wp_region_kept (wr.alloc (.cells #[.int .i64 z1, .int .i64 o] 73)).heap.size (by kernel_rfl) (by kernel_rfl) ?_
          repeat (go_big_quiet_step (fail))
          refine wpQuiet_nil ?_
          rintro _ ⟨s, rfl⟩
          have HMS : Hid (MS w0 M nv out c pl _ src sn pk (R j) (.slice (some ⟨g, 0, none⟩) n cap) s.w) := HM.out.call s.below
          obtain ⟨f9, c9, c14⟩ := HFZ.out s.w (HBW.out.trans (s.below.mono HBW.out.size))
          clear k7 k8 k9 HM HFZ
          go_wp2_with fail
          go_roundw
          case rel => exact ⟨j + 1, by omega, by go_num, by rw [HR1.out]; exact HSET.out _ HMS.out⟩
          case measure => simp [intOf]; omega
        · have hl2 : (lo == (at_ : Int)) = false := beq_eq_false_iff_ne.2 hl
          have HR1 : Hid (R (j + 1) = R j) := by
            have : R (j + 1) = R j := by rw [HNX.out, HD.out, decide_eq_false hl]; rfl
            exact this
          clear hl
          go_wp2_with fail
          refine wp_region_kept (wr.alloc (.cells #[.int .i64 z1, .int .i64 o] 73)).heap.size (by kernel_rfl) (by kernel_rfl) ?_
          repeat (go_big_quiet_step (fail))
          refine wpQuiet_nil ?_
          rintro _ ⟨s, rfl⟩
          have HMS : Hid (MS w0 M nv out c pl _ src sn pk (R j) (.slice (some ⟨g, 0, none⟩) n cap) s.w) := HM.out.call s.below
          clear k7 k8 k9 HM HFZ
          go_wp2_with fail
          go_roundw
          case rel => exact ⟨j + 1, by omega, by go_num, by rw [HR1.out]; exact HMS.out⟩
          case measure => simp [intOf]; omega
      · have hd : decide (z2 ≥ 0) = false := decide_eq_false h2
        have HR1 : Hid (R (j + 1) = R j) := by
          have : R (j + 1) = R j := by
            rw [HNX.out]
            unfold dies
            dsimp only
            rw [decide_eq_false h2]
            rfl
          exact this
        clear hcell hgj hz hset HN hbw X hfz hm hol h2
        go_wp2_with fail
        refine wp_region_kept (wr.alloc (.cells #[.int .i64 z1, .int .i64 z2] 73)).heap.size (by kernel_rfl) (by kernel_rfl) ?_
        repeat (go_big_quiet_step (fail))
        refine wpQuiet_nil ?_
        rintro _ ⟨s, rfl⟩
        have HMS : Hid (MS w0 M nv out c pl pv src sn pk (R j) (.slice (some ⟨g, 0, none⟩) n cap) s.w) := HM.out.call s.below
        clear k9 HM HFZ
        go_wp2_with fail
        go_roundw
        case rel => exact ⟨j + 1, by omega, by go_num, by rw [HR1.out]; exact HMS.out⟩
        case measure => simp [intOf]; omega
    · have ej : j = n := by omega
      subst ej
      have HMS : Hid (MS w0 M nv out c pl pv src sn pk (R j) (.slice a j cap) wr) := hm
      clear hm
      go_wp2_with fail
      first | go_end0 | refine bodyPost_ret (results_none rfl _ _ _) rfl ?_
      exact ⟨rfl, by rw [← HF.out]; exact HMS.out⟩
end Go.Proofs.YtaoamkbcegadcaaGreatDoor
