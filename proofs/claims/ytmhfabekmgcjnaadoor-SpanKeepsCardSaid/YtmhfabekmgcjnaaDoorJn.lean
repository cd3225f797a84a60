/- Layer 16: the document's joins, Leader. -/
import Derived.Test.YtmhfabekmgcjnaaDoorGr
import Derived.Test.YtmhfabekmgcjnaaDoorRn
namespace Go.Proofs.YtmhfabekmgcjnaaDoor
open Go.RowKit Go.Bx Go.Od Go.Hp
attribute [local go_sem ↓] Go.wp_at_zero Go.wp_at_succ
set_option linter.unusedVariables false

/-- the needed nodes below j that use one -/
def uJ (S : Nat → Bool) (nds : List Nd) (a j : Nat) : List Nat := (List.range j).filter fun i => S i && decide ((a : Int) ∈ (nds.getD i Nd.none).ins)
def usZ (l : List Nat) : Int := if l.length = 0 then -1 else (lastN l : Nat)
theorem uJ_step (S : Nat → Bool) (nds : List Nd) (a j : Nat) : uJ S nds a (j + 1) = if (S j && decide ((a : Int) ∈ (nds.getD j Nd.none).ins)) = true then uJ S nds a j ++ [j] else uJ S nds a j := by
  unfold uJ
  rw [List.range_succ, List.filter_append]
  by_cases h : (S j && decide ((a : Int) ∈ (nds.getD j Nd.none).ins)) = true
  · rw [if_pos h, List.filter_cons_of_pos (by simpa using h)]
    rfl
  · rw [if_neg h, List.filter_cons_of_neg (by simpa using h)]
    simp
theorem uJ_len (S : Nat → Bool) (nds : List Nd) (a j : Nat) : (uJ S nds a j).length ≤ j := by
  have := List.length_filter_le (fun i => S i && decide ((a : Int) ∈ (nds.getD i Nd.none).ins)) (List.range j)
  simpa [uJ] using this
theorem usZ_snoc (l : List Nat) (x : Nat) : usZ (l ++ [x]) = (x : Int) := by
  unfold usZ
  rw [if_neg (by simp), lastN_snoc]
theorem uJ_end (S : Nat → Bool) (nds : List Nd) (a : Nat) (ha : a < nds.length) : uJ S nds a nds.length = (users (insOf nds) a).filter S := by
  unfold uJ users
  rw [insOf_len, List.filter_filter]
  refine List.filter_congr fun i hi => ?_
  congr 1
  refine decide_eq_decide.2 ?_
  rw [inp_mem, insOf_len, insOf_get]
  exact ⟨fun h => ⟨ha, h⟩, fun h => h.2⟩
/-- whom one joins -/
noncomputable def jO (nds : List Nd) (out : Int) (on : Bool) (k : Nat) : Option Nat :=
  if ned (insOf nds) out k && ldCond (ned (insOf nds) out) (users (insOf nds)) (fun k => (nds.getD k Nd.none).op) out on k then some (lastN ((users (insOf nds) k).filter (ned (insOf nds) out))) else none
def joZ (o : Option Nat) : Int := match o with | some u => (u : Int) | none => -1
theorem lastN_mem {l : List Nat} (h : l.length = 1) : lastN l ∈ l := by
  obtain ⟨x, rfl⟩ := List.length_eq_one_iff.1 h
  simp [lastN]

/-- between two rounds of joins -/
def JR (w : World) (nv : Value) (out : Int) (n O : Nat) (S : Nat → Bool) (wr : World) : Prop := Box wr w.heap.size [nv, .int .i64 out] ∧ Box wr O (bc n S) ∧ Below w.heap.size w wr
theorem JR.call {w wr w' : World} {nv : Value} {out : Int} {n O : Nat} {S : Nat → Bool} (h : JR w nv out n O S wr) (hb : Below wr.heap.size wr w') : JR w nv out n O S w' := ⟨h.1.call hb, h.2.1.call hb, h.2.2.trans (hb.mono h.2.2.size)⟩
set_option maxRecDepth 4000 in
set_option maxHeartbeats 3200000 in
theorem joins_c (B : Nat) (nv : Value) (nds : List Nd) (out : Int) (a : Nat) (w : World) (ha : a < nds.length) (hm : nds.length ≤ 900) (hl : ∀ i, i < nds.length → (nds.getD i Nd.none).ins.length ≤ 1000) (hg : Gr B w nv nds) (hB : B ≤ w.heap.size) :
    Calls Tryd.prog 27 #[.agg #[nv, .int .i64 out], .int .i64 a] w (PPost w (.int .i64 (joZ (jO nds out true a)))) := by
  have hgl := hg.len_le
  have HG : Hid (Gr B w nv nds ∧ ∀ i, i < nds.length → (nds.getD i Nd.none).ins.length ≤ 1000) := ⟨hg, hl⟩
  obtain ⟨ga, gc, rfl⟩ := hg.isSl
  obtain ⟨S, hS⟩ : ∃ S, S = ned (insOf nds) out := ⟨_, rfl⟩
  have HS : Hid (S = ned (insOf nds) out) := hS
  clear hg hl hS
  have ha0 : (0 : Int) ≤ (a : Int) := by omega
  have ha1 : (a : Int) < (nds.length : Int) := by omega
  go_enter Tryd.func27, Tryd.ntmps27
  go_wp2_with fail
  have X := Box.new w [.slice ga nds.length gc, .int .i64 out] 24
  have hb1 := below_alloc w (.cells #[.slice ga nds.length gc, .int .i64 out] 24)
  obtain ⟨W1, hW1⟩ : ∃ W, W = w.alloc (.cells #[.slice ga nds.length gc, .int .i64 out] 24) := ⟨_, rfl⟩
  rw [← hW1] at X hb1 ⊢
  clear hW1
  refine (rneeded_c B _ nds out W1 (by omega) HG.out.2 (HG.out.1.below hb1 hB) (Nat.le_trans hB hb1.size)).mono ?_; rintro e w2 ⟨O, hO, rfl, hbO, hb2⟩
  rw [← HS.out] at hbO
  have H0 : Hid (JR w (.slice ga nds.length gc) out nds.length O S w2) := ⟨X.call hb2, hbO, hb1.trans (hb2.mono hb1.size)⟩
  clear X hb1 hb2 hbO hO
  have g0 := H0.out.1.cell 0 rfl
  go_wp2_with fail
  clear g0
  go_loopw [6, 7, 8] (fun uv mv jv wr => ∃ (j m : Nat) (z : Int), j ≤ nds.length ∧ jv = .int .i64 j ∧ mv = .int .i64 m ∧ uv = .int .i64 z ∧ m ≤ j ∧ Hid (m = (uJ S nds a j).length ∧ z = usZ (uJ S nds a j)) ∧ JR w (.slice ga nds.length gc) out nds.length O S wr) (fun _ _ jv _ => nds.length - (intOf jv).toNat)
  case atStart => exact ⟨0, 0, -1, Nat.zero_le _, rfl, rfl, rfl, Nat.le_refl _, ⟨by simp [uJ], by simp [uJ, usZ]⟩, H0.out⟩
  case round =>
    obtain ⟨j, m, z, hj, rfl, rfl, rfl, hmj, hz, hr⟩ := hrel
    clear H0
    have HR : Hid (JR w (.slice ga nds.length gc) out nds.length O S wr) := hr
    have g0 := hr.1.cell 0 rfl
    have g1 := hr.1.cell 1 rfl
    by_cases hjl : j < nds.length
    · have hj0 : (0 : Int) ≤ (j : Int) := by omega
      have hj1 : (j : Int) < (nds.length : Int) := by omega
      have fO := hr.2.1.cell j (bc_get _ hjl)
      obtain ⟨s, hs⟩ : ∃ s, s = S j := ⟨_, rfl⟩
      have HSJ : Hid (s = S j) := hs
      rw [← hs] at fO
      clear hr hs
      cases s with
      | false =>
        have HE : Hid (uJ S nds a (j + 1) = uJ S nds a j) := by
          have : uJ S nds a (j + 1) = uJ S nds a j := by rw [uJ_step, ← HSJ.out]; simp
          exact this
        clear HSJ
        go_wp2_with fail
        go_roundw
        case rel => exact ⟨j + 1, m, z, by omega, by go_num, rfl, rfl, by omega, by rw [HE.out]; exact hz, HR.out⟩
        case measure => simp [intOf]; omega
      | true =>
        go_wp2_with fail
        refine (has_c B _ nds out a j wr hjl (by omega) (HG.out.2 j hjl) (HG.out.1.below HR.out.2.2 hB)).mono ?_; rintro e w5 ⟨rfl, hb5⟩
        have HR5 : Hid (JR w (.slice ga nds.length gc) out nds.length O S w5) := HR.out.call hb5
        obtain ⟨u, hu⟩ : ∃ u, u = decide ((a : Int) ∈ (nds.getD j Nd.none).ins) := ⟨_, rfl⟩
        have HU : Hid (uJ S nds a (j + 1) = if u = true then uJ S nds a j ++ [j] else uJ S nds a j) := by
          have : uJ S nds a (j + 1) = if u = true then uJ S nds a j ++ [j] else uJ S nds a j := by rw [uJ_step, ← HSJ.out, ← hu]; simp
          exact this
        rw [← hu]
        clear hu g0 g1 fO hb5 HSJ
        cases u with
        | false =>
          have HE : Hid (uJ S nds a (j + 1) = uJ S nds a j) := HU.out.trans (if_neg (by decide))
          clear HU
          go_wp2_with fail
          go_roundw
          case rel => exact ⟨j + 1, m, z, by omega, by go_num, rfl, rfl, by omega, by rw [HE.out]; exact hz, HR5.out⟩
          case measure => simp [intOf]; omega
        | true =>
          have HE : Hid (uJ S nds a (j + 1) = uJ S nds a j ++ [j]) := HU.out.trans (if_pos rfl)
          clear HU
          go_wp2_with fail
          go_roundw
          case rel => exact ⟨j + 1, m + 1, j, by omega, by go_num, by go_num, rfl, by omega, by rw [HE.out, usZ_snoc, List.length_append]; exact ⟨by rw [hz.out.1]; rfl, rfl⟩, HR5.out⟩
          case measure => simp [intOf]; omega
    · have ej : j = nds.length := by omega
      subst ej
      rw [uJ_end S nds a ha] at hz
      have fO := hr.2.1.cell a (bc_get _ ha)
      obtain ⟨L, hL⟩ : ∃ L, L = (users (insOf nds) a).filter S := ⟨_, rfl⟩
      rw [← hL] at hz
      have hmem : ∀ x ∈ L, x < nds.length := fun x hx => by
        rw [hL] at hx
        have := List.mem_range.1 (List.mem_filter.1 (List.mem_filter.1 hx).1).1
        rwa [insOf_len] at this
      obtain ⟨s, hs⟩ : ∃ s, s = S a := ⟨_, rfl⟩
      rw [← hs] at fO
      obtain ⟨p1, hp1⟩ : ∃ p1, p1 = byPt (nds.getD a Nd.none).op := ⟨_, rfl⟩
      obtain ⟨p2, hp2⟩ : ∃ p2, p2 = byPt (nds.getD (lastN L) Nd.none).op := ⟨_, rfl⟩
      have HC : Hid (jO nds out true a = if s && ((L.length : Int) == 1 && (!((a : Int) == out) && (p1 && p2))) then some (lastN L) else none) := by
        have : jO nds out true a = if s && ((L.length : Int) == 1 && (!((a : Int) == out) && (p1 && p2))) then some (lastN L) else none := by
          unfold jO ldCond
          rw [← HS.out, ← hL, ← hs, hp1, hp2]
          rfl
        exact this
      have HP1 : Hid (∀ W, Calls Tryd.prog 34 #[.int .i64 (nds.getD a Nd.none).op] W fun e w' => e = .returned (.bool p1) ∧ w' = W) := by rw [hp1]; exact fun W => rbypoint_c _ W
      have HP2 : Hid (∀ W, Calls Tryd.prog 34 #[.int .i64 (nds.getD (lastN L) Nd.none).op] W fun e w' => e = .returned (.bool p2) ∧ w' = W) := by rw [hp2]; exact fun W => rbypoint_c _ W
      obtain ⟨gb, go, gcap, ia, ic, pa, pc, hv, hbB, hcap, hcm, k0, k1, k2, s1, s2⟩ := (HG.out.1.below hr.2.2 hB).node ha
      have HN2 : Hid (∀ u, u < nds.length → ∀ gb go gcap, Value.slice ga nds.length gc = .slice (some ⟨gb, go, none⟩) nds.length gcap → wr.cell? ⟨gb, go + u * 3, none⟩ = some (.int .i64 (nds.getD u Nd.none).op)) := fun u hun gb go gcap hv => by
        obtain ⟨gb', go', gcap', _, _, _, _, hv', _, _, _, k0', _⟩ := (HG.out.1.below hr.2.2 hB).node hun
        rw [hv'] at hv
        simp only [Value.slice.injEq, Option.some.injEq, Addr.mk.injEq] at hv
        obtain ⟨⟨rfl, rfl, _⟩, _⟩ := hv
        exact k0'
      simp only [Value.slice.injEq] at hv
      obtain ⟨rfl, _, rfl⟩ := hv
      unfold maxLen at hcm
      have HZ : Hid (m = L.length ∧ z = usZ L) := hz.out
      obtain ⟨oa, hoa⟩ : ∃ o, o = (nds.getD a Nd.none).op := ⟨_, rfl⟩
      rw [← hoa] at k0 HP1
      clear hr hL hs hp1 hp2 k1 k2 s1 s2 hz hoa
      by_cases h1 : m = 1
      · subst h1
        have hL1 : L.length = 1 := HZ.out.1.symm
        have hu : lastN L < nds.length := hmem _ (lastN_mem hL1)
        have hcu := HN2.out _ hu _ _ _ rfl
        have hzz : z = ((lastN L : Nat) : Int) := by
          rw [HZ.out.2]
          unfold usZ
          rw [if_neg (by omega)]
        subst hzz
        obtain ⟨u, hu'⟩ : ∃ u, u = lastN L := ⟨_, rfl⟩
        rw [← hu'] at hu hcu HP2 HC ⊢
        obtain ⟨ou, hou⟩ : ∃ o, o = (nds.getD u Nd.none).op := ⟨_, rfl⟩
        rw [← hou] at hcu HP2
        have HC' : Hid (jO nds out true a = if s && (!((a : Int) == out) && (p1 && p2)) then some u else none) := by
          rw [HC.out, hL1]
          rfl
        have hu0 : (0 : Int) ≤ (u : Int) := by omega
        have hu1 : (u : Int) < (nds.length : Int) := by omega
        clear HC hu' hou hL1 HZ HN2 hmem
        cases s with
        | false =>
          have HE : Hid (jO nds out true a = none) := HC'.out
          clear HC'
          go_wp2_with fail
          go_ret
          exact ⟨by rw [HE.out]; rfl, HR.out.2.2⟩
        | true =>
          by_cases hko : (a : Int) = out
          · have hko2 : ((a : Int) == out) = true := by simp [hko]
            have HE : Hid (jO nds out true a = none) := by
              have := HC'.out
              rw [hko2] at this
              exact this
            clear HC' hko
            go_wp2_with fail
            go_ret
            exact ⟨by rw [HE.out]; rfl, HR.out.2.2⟩
          · have hko2 : ((a : Int) == out) = false := beq_eq_false_iff_ne.2 hko
            have HC2 : Hid (jO nds out true a = if (p1 && p2) then some u else none) := by
              have := HC'.out
              rw [hko2] at this
              exact this
            clear HC' hko
            cases p1 with
            | false =>
              have HE : Hid (jO nds out true a = none) := HC2.out
              go_wp2_with fail
              refine (HP1.out _).mono ?_; rintro e w5 ⟨rfl, rfl⟩
              go_wp2_with fail
              go_ret
              exact ⟨by rw [HE.out]; rfl, HR.out.2.2⟩
            | true =>
              cases p2 with
              | false =>
                have HE : Hid (jO nds out true a = none) := HC2.out
                go_wp2_with fail
                refine (HP1.out _).mono ?_; rintro e w5 ⟨rfl, rfl⟩
                go_wp2_with fail
                refine (HP2.out _).mono ?_; rintro e w6 ⟨rfl, rfl⟩
                go_wp2_with fail
                go_ret
                exact ⟨by rw [HE.out]; rfl, HR.out.2.2⟩
              | true =>
                have HE : Hid (jO nds out true a = some u) := HC2.out
                go_wp2_with fail
                refine (HP1.out _).mono ?_; rintro e w5 ⟨rfl, rfl⟩
                go_wp2_with fail
                refine (HP2.out _).mono ?_; rintro e w6 ⟨rfl, rfl⟩
                go_wp2_with fail
                go_ret
                exact ⟨by rw [HE.out]; rfl, HR.out.2.2⟩
      · have h2 : ((m : Int) != 1) = true := bne_iff_ne.2 (by omega)
        have HE : Hid (jO nds out true a = none) := by
          have : jO nds out true a = none := by
            rw [HC.out, ← HZ.out.1]
            have : ((m : Int) == 1) = false := beq_eq_false_iff_ne.2 (by omega)
            rw [this]
            simp
          exact this
        clear HC HP1 HP2 HN2 hmem
        go_wp2_with fail
        go_ret
        exact ⟨by rw [HE.out]; rfl, HR.out.2.2⟩
end Go.Proofs.YtmhfabekmgcjnaaDoor
