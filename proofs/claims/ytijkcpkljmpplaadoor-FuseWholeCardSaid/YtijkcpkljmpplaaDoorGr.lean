/- Layer 16: fuse.Groups. -/
import Derived.Test.YtijkcpkljmpplaaDoorFl
import Derived.Test.YtijkcpkljmpplaaDoorGm
namespace Go.Proofs.YtijkcpkljmpplaaDoor
open Go.RowKit Go.Bx Go.Od Go.Hp Go.Shelf
set_option linter.unusedVariables false

/-- what Groups has gathered once j nodes are walked -/
def ofJ (ld : Nat → Option Nat) (all : List Nat) (j : Nat) (l : Nat) : List Nat := (all.take j).filter fun k => decide (ld k = some l)
def gsJ (ld : Nat → Option Nat) (all : List Nat) (j : Nat) : List (List Nat) := ((all.take j).map (ofJ ld all all.length)).filter fun g => decide (0 < g.length)
def gsF (ld : Nat → Option Nat) (all : List Nat) : List (List Nat) := (all.map fun l => all.filter fun k => decide (ld k = some l)).filter fun g => decide (0 < g.length)
theorem gsJ_end (ld : Nat → Option Nat) (all : List Nat) : gsJ ld all all.length = gsF ld all := by
  unfold gsJ gsF
  congr 1
  rw [List.take_length]
  refine List.map_congr_left fun l _ => ?_
  unfold ofJ
  rw [List.take_length]
theorem gsJ_len (ld : Nat → Option Nat) (all : List Nat) (j : Nat) : (gsJ ld all j).length ≤ all.length := by
  unfold gsJ
  refine Nat.le_trans (List.length_filter_le _ _) ?_
  simp
  omega
theorem take_next {l : List Nat} {j x : Nat} (h : l[j]? = some x) : l.take (j + 1) = l.take j ++ [x] := by
  obtain ⟨hj, hx⟩ := List.getElem?_eq_some_iff.1 h
  rw [List.take_succ_eq_append_getElem hj, hx]
theorem ofJ_some {ld : Nat → Option Nat} {all : List Nat} {j k l : Nat} (hj : all[j]? = some k) (hl : ld k = some l) (r : Nat) : (if r = l then ofJ ld all j l ++ [k] else ofJ ld all j r) = ofJ ld all (j + 1) r := by
  unfold ofJ
  rw [take_next hj, List.filter_append]
  by_cases e : r = l
  · subst e
    rw [if_pos rfl, List.filter_cons_of_pos (by simp [hl])]
    rfl
  · rw [if_neg e, List.filter_cons_of_neg (by simp [hl]; omega)]
    simp
theorem ofJ_none {ld : Nat → Option Nat} {all : List Nat} {j k : Nat} (hj : all[j]? = some k) (hl : ld k = none) (r : Nat) : ofJ ld all j r = ofJ ld all (j + 1) r := by
  unfold ofJ
  rw [take_next hj, List.filter_append, List.filter_cons_of_neg (by simp [hl])]
  simp
theorem gsJ_some {ld : Nat → Option Nat} {all : List Nat} {j k : Nat} (hj : all[j]? = some k) (h : 0 < (ofJ ld all all.length k).length) : gsJ ld all (j + 1) = gsJ ld all j ++ [ofJ ld all all.length k] := by
  unfold gsJ
  rw [take_next hj, List.map_append, List.filter_append]
  simp [h]
theorem gsJ_none {ld : Nat → Option Nat} {all : List Nat} {j k : Nat} (hj : all[j]? = some k) (h : (ofJ ld all all.length k).length = 0) : gsJ ld all (j + 1) = gsJ ld all j := by
  unfold gsJ
  rw [take_next hj, List.map_append, List.filter_append]
  simp [h]

/-- the first loop's relation -/
def G1 (w3 : World) (bm n : Nat) (ld : Nat → Option Nat) (all : List Nat) (j : Nat) (wr : World) : Prop :=
  Below w3.heap.size w3 wr ∧ MapI wr bm n 4000 ld ∧ MapG wr w3.heap.size (w3.heap.size + 1) n j (ofJ ld all j) ∧ bm < w3.heap.size
section
variable {w3 wr w8 : World} {bm n j k l : Nat} {ld : Nat → Option Nat} {all : List Nat}
theorem G1.skip (h : G1 w3 bm n ld all j wr) (hj : all[j]? = some k) (hl : ld k = none) : G1 w3 bm n ld all (j + 1) wr :=
  ⟨h.1, h.2.1, (h.2.2.1.mono (by omega)).congr (ofJ_none hj hl), h.2.2.2⟩
theorem G1.put (h : G1 w3 bm n ld all j wr) (hj : all[j]? = some k) (hl : ld k = some l) (hk : k < 1000000) (hjl : j ≤ 1000) :
    ∃ v, (Instr.lookup 45 (.map (some w3.heap.size)) (.int .i64 l) false).run Tryd.prog wr = .ok v wr ∧ OwnP wr (w3.heap.size + 1) v (ofN (ofJ ld all j l)) ∧ (ofJ ld all j l).length ≤ j ∧
      ∀ (o : Obj) (w8 : World) (g8 c8 : Nat), (wr.alloc o).grownBy w8 v.ownBlock → w8.ownsRow (w3.heap.size + 1) 3 1 (.slice (some ⟨g8, 0, none⟩) ((ofJ ld all j l).length + 1) c8) ((ofJ ld all j l).length + 1) ((ofN (ofJ ld all j l)).map (Value.int .i64) ++ [.int .i64 k]) →
        (v.ownBlock = some g8 ∨ g8 = wr.heap.size + 1) → ∃ w9, (Instr.mapUpdate 45 (.map (some w3.heap.size)) (.int .i64 l) (.slice (some ⟨g8, 0, none⟩) ((ofJ ld all j l).length + 1) c8)).run Tryd.prog w8 = .ok () w9 ∧ G1 w3 bm n ld all (j + 1) w9 := by
  obtain ⟨h1, h2, h3, h4⟩ := h
  obtain ⟨v, hrun, hown, hlen, hback⟩ := h3.at (h2.bound hl) (by omega)
  refine ⟨v, hrun, hown, hlen, fun o w8 g8 c8 hg hown8 hat => ?_⟩
  have hg' : wr.grownBy w8 v.ownBlock := (World.grownBy_alloc _ _ _).trans hg
  have hge := row_ge hown
  obtain ⟨w9, hrun9, hm9, hg9⟩ := hback w8 _ k hk hg' (by unfold OwnP; rw [ofN_app, List.map_append, List.length_append, ofN_len]; exact hown8) (by
    rcases hat with e | e
    · exact .inl e.symm
    · exact .inr ⟨g8, rfl, by omega⟩)
  refine ⟨w9, hrun9, (h1.grown hg' h1.size fun i hi => by have := (hge _ hi).1; omega).grown hg9 (Nat.le_trans h1.size hg'.size) (fun i hi => by cases hi; omega), (h2.kept hg' fun e => ?_).kept hg9 (fun e => by cases e; omega), hm9.congr (ofJ_some hj hl), h4⟩
  have := (hge _ e.symm).1
  omega
end
/-- the second loop's relation -/
def G2 (w3 : World) (n : Nat) (ld : Nat → Option Nat) (all : List Nat) (j : Nat) (ov : Value) (wr : World) : Prop :=
  ∃ vs, Below w3.heap.size w3 wr ∧ MapG wr w3.heap.size (w3.heap.size + 1) n all.length (ofJ ld all all.length) ∧ GU (w3.heap.size + 1) (gsJ ld all j) ov vs wr
section
variable {w3 wr w8 : World} {bm n j k l : Nat} {ld : Nat → Option Nat} {all : List Nat} {ov : Value}
theorem G2.start (h : G1 w3 bm n ld all all.length wr) : G2 w3 n ld all 0 (.slice none 0 0) wr := ⟨[], h.1, h.2.2.1, GU.nil _ _⟩
theorem G2.isSl (h : G2 w3 n ld all j ov wr) : ∃ a c, ov = .slice a (gsJ ld all j).length c := by
  obtain ⟨vs, _, _, h3⟩ := h
  exact row_sl h3.own
theorem G2.skip (h : G2 w3 n ld all j ov wr) (hj : all[j]? = some k) (hl : (ofJ ld all all.length k).length = 0) : G2 w3 n ld all (j + 1) ov wr := by
  obtain ⟨vs, h1, h2, h3⟩ := h
  exact ⟨vs, h1, h2, by rw [gsJ_none hj hl]; exact h3⟩
theorem G2.at (h : G2 w3 n ld all j ov wr) (hj : all[j]? = some k) (hk : k < n) (hal : all.length ≤ 1000) :
    ∃ a c, (Instr.lookup 45 (.map (some w3.heap.size)) (.int .i64 k) false).run Tryd.prog wr = .ok (.slice a (ofJ ld all all.length k).length c) wr ∧ w3.heap.size + 1 ≤ wr.heap.size ∧
      (0 < (ofJ ld all all.length k).length → ∃ vs, wr.ownsRow (w3.heap.size + 1) 30 1 ov (gsJ ld all j).length vs ∧ ∀ (o : Obj) (w8 : World) (g8 c8 : Nat), (wr.alloc o).grownBy w8 ov.ownBlock →
        w8.ownsRow (w3.heap.size + 1) 30 1 (.slice (some ⟨g8, 0, none⟩) ((gsJ ld all j).length + 1) c8) ((gsJ ld all j).length + 1) (vs ++ [.slice a (ofJ ld all all.length k).length c]) → G2 w3 n ld all (j + 1) (.slice (some ⟨g8, 0, none⟩) ((gsJ ld all j).length + 1) c8) w8) := by
  obtain ⟨vs, h1, h2, h3⟩ := h
  obtain ⟨v, hrun, hown, hlen, _⟩ := h2.at hk (by omega)
  obtain ⟨a, c, rfl⟩ := own_sl hown
  refine ⟨a, c, hrun, h2.lt, fun hpos => ⟨vs, h3.own, fun o w8 g8 c8 hg hown8 => ⟨vs ++ [.slice a (ofJ ld all all.length k).length c], ?_, ?_, ?_⟩⟩⟩
  · exact h1.grown ((World.grownBy_alloc _ _ _).trans hg) h1.size fun i hi => by have := (World.ownsRow.lt h3.own i hi).1; omega
  · exact (h2.alloc o).beside (World.ownsRow.alloc h3.own o) (by decide) hg fun i hi => (World.ownsRow.lt h3.own i hi).1
  · rw [gsJ_some hj hpos]
    exact h3.push hown hown8 hg
end
noncomputable def ldM (nds : List Nd) (out : Int) (on : Bool) : Nat → Option Nat := (ord (insOf nds)).reverse.foldl (ldStep (ned (insOf nds) out) (users (insOf nds)) (fun k => (nds.getD k Nd.none).op) out on) fun _ => none
set_option maxRecDepth 4000 in
set_option maxHeartbeats 3200000 in
theorem groups_c (B : Nat) (nv : Value) (nds : List Nd) (out : Int) (on : Bool) (w : World) (hm : nds.length ≤ 900) (hl : ∀ i, i < nds.length → (nds.getD i Nd.none).ins.length ≤ 1000) (hg : Gr B w nv nds) (hB : B ≤ w.heap.size) (hne : 0 < (ord (insOf nds)).length) :
    Calls Tryd.prog 9 #[.agg #[nv, .int .i64 out], .bool on] w (GsPost w (gsF (ldM nds out on) (ord (insOf nds)))) := by
  obtain ⟨ga, gc, rfl⟩ := hg.isSl
  have hgl := hg.len_le
  have hmm := @run_makeMap Tryd.prog
  obtain ⟨i3, hi3, hz0, hz1, hz2⟩ := info_parts infoI
  obtain ⟨iS, hiS, sz0, sz1, sz2⟩ := info_parts infoS
  have hal := ord_len (insOf nds)
  rw [insOf_len] at hal
  have hab : ∀ k ∈ ord (insOf nds), k < nds.length := fun k hk => by have := (ord_fine (insOf nds)).bound k hk; rwa [insOf_len] at this
  obtain ⟨ld, hld⟩ : ∃ ld, ld = ldM nds out on := ⟨_, rfl⟩
  have HLD : Hid (ld = ldM nds out on) := hld
  rw [← hld]
  clear hld
  have HG : Hid (Gr B w (.slice ga nds.length gc) nds ∧ (∀ i, i < nds.length → (nds.getD i Nd.none).ins.length ≤ 1000)) := ⟨hg, hl⟩
  obtain ⟨all, hall⟩ : ∃ all, all = ord (insOf nds) := ⟨_, rfl⟩
  have HALL : Hid (all = ord (insOf nds)) := hall
  rw [← hall] at hne hal hab ⊢
  have HAB : Hid (∀ k ∈ all, k < nds.length) := hab
  clear hg hl hall hab
  go_enter Tryd.func9, Tryd.ntmps9
  go_wp2_with fail
  have X := Box.new w [.slice ga nds.length gc, .int .i64 out] 24
  have hb1 := below_alloc w (.cells #[.slice ga nds.length gc, .int .i64 out] 24)
  obtain ⟨W1, hW1⟩ : ∃ W, W = w.alloc (.cells #[.slice ga nds.length gc, .int .i64 out] 24) := ⟨_, rfl⟩
  rw [← hW1] at X hb1 ⊢
  clear hW1
  refine (all_c B _ nds out W1 (by omega) HG.out.2 (HG.out.1.below hb1 hB) (Nat.le_trans hB hb1.size)).mono ?_; rintro e w2 ⟨aa, ac, rfl, hoa, hb2⟩
  have X2 := X.call hb2
  have g0 := X2.cell 0 rfl
  have g1 := X2.cell 1 rfl
  rw [← HALL.out] at hoa ⊢
  have hb12 : Below w.heap.size w w2 := hb1.trans (hb2.mono hb1.size)
  clear X
  go_wp2_with fail
  refine ((callsIn_wide (n := 6)).1 (leaders_in Fence.wide 6 (fun _ => trivial) rfl (by omega) (fun h => callsIn_wide.2 h) B _ _ _ nds out on all w2 (by omega) HG.out.2 (HG.out.1.below hb12 hB) (Nat.le_trans hB hb12.size) hoa hne (by omega) HAB.out)).mono ?_; rintro e w3 ⟨bm, hbm, rfl, hmap, hb3⟩
  obtain ⟨ab, rfl, habl, hacc⟩ : ∃ ab, aa = some ⟨ab, 0, none⟩ ∧ ab < w2.heap.size ∧ ∀ j k, all[j]? = some k → w2.cell? ⟨ab, j, none⟩ = some (.int .i64 (k : Nat)) := by
    rcases hoa.form with ⟨h, h'⟩ | ⟨g, cap, h1, _, h2, h3, h4, _, _, h5⟩
    · have : all.length = 0 := by rw [← ofN_len, h']; rfl
      omega
    · rw [ofN_len] at h1
      cases h1
      refine ⟨g, rfl, h2, fun j k hj => ?_⟩
      obtain ⟨hj', rfl⟩ := List.getElem?_eq_some_iff.1 hj
      rw [h5 j (by rw [ofN_len]; exact hj')]
      simp [ofN, hj']
  have hac2 : all.length ≤ ac ∧ ac ≤ maxLen := by
    rcases hoa.form with ⟨h, h'⟩ | ⟨g, cap, h1, _, h2, h3, h4, _, _, h5⟩
    · cases h
    · rw [ofN_len] at h1 h3
      cases h1
      exact ⟨h3, h4⟩
  have HAC : Hid (∀ j k, all[j]? = some k → w3.cell? ⟨ab, j, none⟩ = some (.int .i64 (k : Nat))) := fun j k h => (hb3.cell (p := ⟨ab, j, none⟩) habl).trans (hacc j k h)
  have habs : ab < w3.heap.size := Nat.lt_of_lt_of_le habl hb3.size
  have hmap' : MapI w3 bm nds.length 4000 ld := by
    rw [HLD.out]
    unfold ldM
    rw [← HALL.out]
    exact hmap
  have HB3 : Hid (Below w.heap.size w w3) := hb12.trans (hb3.mono hb12.size)
  have HG1 : Hid (G1 w3 bm nds.length ld all 0 (w3.alloc (.map #[] 0))) := ⟨below_alloc _ _, hmap'.alloc _, MapG.made w3 nds.length (by omega), hmap'.lt⟩
  have hbw : bm < w3.heap.size := hmap'.lt
  obtain ⟨hac1, hacm⟩ := hac2
  unfold maxLen at hacm
  clear X2 g0 g1 hmap hmap' hb1 hb2 hb3 hb12 hoa hacc habl hbm
  go_wp2_with fail
  go_loopw [25] (fun jv wr => ∃ j : Nat, j ≤ all.length ∧ jv = .int .i64 j ∧ G1 w3 bm nds.length ld all j wr) (fun jv _ => all.length - (intOf jv).toNat)
  case atStart => exact ⟨0, Nat.zero_le _, rfl, HG1.out⟩
  case round =>
    obtain ⟨j, hj, rfl, hr⟩ := hrel
    clear HG1
    by_cases hjl : j < all.length
    · obtain ⟨k, hk⟩ : ∃ k, all[j]? = some k := ⟨all[j], List.getElem?_eq_getElem hjl⟩
      have hkn := HAB.out k (List.mem_of_getElem? hk)
      have c0 := (hr.1.cell (p := ⟨ab, j, none⟩) habs).trans (HAC.out j k hk)
      have hlook := hr.2.1.look2 hkn
      have hj0 : (0 : Int) ≤ (j : Int) := by omega
      have hj1 : (j : Int) < (all.length : Int) := by omega
      cases hlk : ld k with
      | none =>
        rw [hlk] at hlook
        have HA : Hid (G1 w3 bm nds.length ld all (j + 1) wr) := hr.skip hk hlk
        clear hr hlk hk
        go_wp2_with fail
        go_roundw
        case rel => exact ⟨j + 1, by omega, by go_num, HA.out⟩
        case measure => simp [intOf]; omega
      | some l =>
        rw [hlk] at hlook
        have hln := hr.2.1.bound hlk
        have hsz := hr.2.2.1.lt
        obtain ⟨v, hrun, hown, hlen, hback⟩ := hr.put hk hlk (by omega) (by omega)
        obtain ⟨L, hL⟩ : ∃ L, L = ofJ ld all j l := ⟨_, rfl⟩
        rw [← hL] at hown hlen hback
        obtain ⟨va, vc, rfl⟩ := own_sl hown
        have HO : Hid (OwnP wr (w3.heap.size + 1) (.slice va L.length vc) (ofN L)) := hown
        have HBK : Hid _ := hback
        have HM : Hid (L.length + 1 ≤ maxLen ∧ (L.length + 1) * 8 ≤ 140737488355328) := by constructor <;> (try unfold maxLen) <;> omega
        clear hr hlk hk hL hown hback
        go_wp2_with (at_builtin; refine wpList_append_lies _ rfl _ _ 30 rfl (w3.heap.size + 1) 3 i3 (.int .i64 0) 1 8 Tryd.underlying30 hi3 hz0 hz1 hz2 rfl (by decide) (.slice va L.length vc) L.length ((ofN L).map (Value.int .i64)) rfl (OwnP.row (ofN_len L) (HO.out.alloc (.cells #[.int .i64 k] 3))) _ 1 1 [.int .i64 k] rfl rfl (news_one (by simp)) (by simp [Value.oneCell']) (by decide) HM.out.1 HM.out.2 (by first | omega | (simp; omega)) (wr.heap.size + 1) (by simp) ?_; intro g8 c8 w8 hown8 hgrow8 hat8 hlt8; obtain ⟨w9, hr9, hG9⟩ := HBK.out _ w8 g8 c8 hgrow8 hown8 hat8; have HA : Hid (G1 w3 bm nds.length ld all (j + 1) w9) := hG9; clear hown8 hgrow8 hat8 hlt8 hG9 hrun)
        go_roundw
        case rel => exact ⟨j + 1, by omega, by go_num, HA.out⟩
        case measure => simp [intOf]; omega
    · have ej : j = all.length := by omega
      subst ej
      have H2 : Hid (G2 w3 nds.length ld all 0 (.slice none 0 0) wr) := G2.start hr
      clear hr
      go_wp2_with fail
      go_loopw [12, 47] (fun ov jv wr => ∃ j : Nat, j ≤ all.length ∧ jv = .int .i64 j ∧ G2 w3 nds.length ld all j ov wr) (fun _ jv _ => all.length - (intOf jv).toNat)
      case atStart => exact ⟨0, Nat.zero_le _, rfl, H2.out⟩
      case round =>
        obtain ⟨j, hj, rfl, hr⟩ := hrel
        clear H2
        have hgs := gsJ_len ld all j
        obtain ⟨oa, oc, hov⟩ := hr.isSl
        subst hov
        by_cases hjl : j < all.length
        · obtain ⟨k, hk⟩ : ∃ k, all[j]? = some k := ⟨all[j], List.getElem?_eq_getElem hjl⟩
          have hkn := HAB.out k (List.mem_of_getElem? hk)
          have c0 : wr.cell? ⟨ab, j, none⟩ = some (.int .i64 (k : Nat)) := by
            obtain ⟨vs, h1, _⟩ := hr
            exact (h1.cell (p := ⟨ab, j, none⟩) habs).trans (HAC.out j k hk)
          obtain ⟨va, vc, hrun, hsz, hpush⟩ := hr.at hk hkn (by omega)
          have hj0 : (0 : Int) ≤ (j : Int) := by omega
          have hj1 : (j : Int) < (all.length : Int) := by omega
          by_cases hpos : 0 < (ofJ ld all all.length k).length
          · obtain ⟨vs, hown, hpush⟩ := hpush hpos
            obtain ⟨L, hL⟩ : ∃ L, L = (ofJ ld all all.length k).length := ⟨_, rfl⟩
            obtain ⟨n8, hn8⟩ : ∃ n, n = (gsJ ld all j).length := ⟨_, rfl⟩
            rw [← hL] at hrun hpush hpos
            rw [← hn8] at hown hpush hgs
            have HBK : Hid _ := hpush
            have HO : Hid (wr.ownsRow (w3.heap.size + 1) 30 1 (.slice oa n8 oc) n8 vs) := hown
            have HM : Hid (n8 + 1 ≤ maxLen ∧ (n8 + 1) * 24 ≤ 140737488355328) := by constructor <;> (try unfold maxLen) <;> omega
            have hd : decide ((0 : Int) < (L : Int)) = true := decide_eq_true (by omega)
            rw [← hn8]
            clear hr hk hL hown hpush hn8
            go_wp2_with (at_builtin; refine wpList_append_lies _ rfl _ _ 27 rfl (w3.heap.size + 1) 30 iS (.slice none 0 0) 1 24 Tryd.underlying27 hiS sz0 sz1 sz2 rfl (by decide) (.slice oa n8 oc) n8 vs rfl (HO.out.alloc (.cells #[.slice va L vc] 30)) _ 1 1 [.slice va L vc] rfl rfl (news_one (by simp)) (by simp [Value.oneCell']) (by decide) HM.out.1 HM.out.2 (by first | omega | (simp; omega)) _ rfl ?_; intro g8 c8 w8 hown8 hgrow8 hat8 hlt8; have HA : Hid (G2 w3 nds.length ld all (j + 1) (.slice (some ⟨g8, 0, none⟩) (n8 + 1) c8) w8) := HBK.out _ w8 g8 c8 hgrow8 hown8; clear hown8 hgrow8 hat8 hlt8)
            go_roundw
            case rel => exact ⟨j + 1, by omega, by go_num, HA.out⟩
            case measure => simp [intOf]; omega
          · have h0 : (ofJ ld all all.length k).length = 0 := by omega
            rw [h0] at hrun
            have HA : Hid (G2 w3 nds.length ld all (j + 1) (.slice oa (gsJ ld all j).length oc) wr) := hr.skip hk h0
            clear hr hk hpush hpos h0
            go_wp2_with fail
            go_roundw
            case rel => exact ⟨j + 1, by omega, by go_num, HA.out⟩
            case measure => simp [intOf]; omega
        · have ej : j = all.length := by omega
          subst ej
          have HE : Hid (GsPost w (gsF ld all) (.returned (.slice oa (gsJ ld all all.length).length oc)) wr) := by
            obtain ⟨vs, h1, h2, h3⟩ := hr
            rw [gsJ_end] at h3 ⊢
            have := HB3.out.size
            exact ⟨oa, oc, vs, rfl, h3.mono (by omega), HB3.out.trans (h1.mono HB3.out.size)⟩
          clear hr
          go_wp2_with fail
          go_ret
          exact HE.out
end Go.Proofs.YtijkcpkljmpplaaDoor
