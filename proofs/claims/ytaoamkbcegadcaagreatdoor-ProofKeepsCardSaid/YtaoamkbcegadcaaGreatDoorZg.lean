/- Texts joined: XZg. -/
import Derived.Test.YtaoamkbcegadcaaGreatDoorZe
import Derived.Test.YtaoamkbcegadcaaGreatDoorZf
set_option maxRecDepth 4000
/- Layer 20: rule 2 (ahead, groups). -/
namespace Go.Proofs.YtaoamkbcegadcaaGreatDoor
open Go.RowKit Go.Bx Go.Od Go.Hp
attribute [local go_sem ↓] Go.wp_at_zero Go.wp_at_succ
set_option linter.unusedVariables false

set_option maxRecDepth 4000 in
set_option maxHeartbeats 6400000 in
theorem qahead_c {B q m : Nat} {nv pv : Value} {nds : List Nd} {out : Int} {want : Rc} {c : Cf} {p : Pn} (w : World) (hq : QM B q m nv nds out want c pv p w) (mp : Nat → Option Nat) (hm : MapI w m 1000 1000 mp)
    (hP : p.ps.length ≤ 1000) (hok : ∀ y ∈ p.ps, 0 < y.nodes.length) (hmp : ∀ k v, mp k = some v → v < p.ps.length) (i at_ : Nat) (x : Int) (hi : i < p.ps.length) (hx : -1 ≤ x ∧ x < 1000) :
    Calls Tryz.prog 37 #[.pointer (some ⟨q, 0, none⟩), .int .i64 i, .int .i64 at_, .int .i64 x] w (PPost w (.bool (ahB p.ps mp i at_ x))) := by
  obtain ⟨r, hr⟩ : ∃ r, r = ahB p.ps mp i at_ x := ⟨_, rfl⟩
  have HR : Hid (r = ahB p.ps mp i at_ x) := hr
  rw [← hr]
  clear hr
  by_cases h1 : x = -1
  · have HE : Hid (r = true) := by
      have : r = true := by rw [HR.out]; unfold ahB; rw [if_pos h1]
      exact this
    have hx1 : (x == -1) = true := by rw [h1]; rfl
    clear hq hm hx hmp
    go_enter Tryz.func37, Tryz.ntmps37
    go_wp2_with fail
    go_ret
    exact ⟨ret_b HE.out.symm, Below.refl _ _⟩
  · obtain ⟨k, rfl⟩ : ∃ k : Nat, x = k := ⟨x.toNat, by omega⟩
    have hk : k < 1000 := by omega
    have hx1 : ((k : Int) == -1) = false := beq_eq_false_iff_ne.2 h1
    have hlook := hm.look hk
    obtain ⟨f, hf⟩ : ∃ f, f = (mp k).getD 0 := ⟨_, rfl⟩
    rw [← hf] at hlook
    have hfP : f < p.ps.length := by
      rw [hf]
      cases e : mp k with
      | none => simp; omega
      | some v => exact hmp k v e
    have HR2 : Hid (r = if f = i then decide (fIdx (fun y => y == (k : Int)) (ofN (p.ps.getD i Ps.none).nodes) < at_) else decide (f < i) && ((resP (p.ps.getD f Ps.none) : Int) == k)) := by
      have : r = if f = i then decide (fIdx (fun y => y == (k : Int)) (ofN (p.ps.getD i Ps.none).nodes) < at_) else decide (f < i) && ((resP (p.ps.getD f Ps.none) : Int) == k) := by
        rw [HR.out]
        unfold ahB
        rw [if_neg h1, Int.toNat_natCast, ← hf]
      exact this
    obtain ⟨P, hPe⟩ : ∃ P, P = p.ps.length := ⟨_, rfl⟩
    obtain ⟨a, cap, rfl⟩ := hq.sl
    have q11 := hq.box.cell 11 rfl
    have q18 := hq.box.cell 18 rfl
    obtain ⟨y, hy⟩ : ∃ y, y = p.ps.getD f Ps.none := ⟨_, rfl⟩
    have hym : y ∈ p.ps := by rw [hy]; exact getD_mem _ hfP
    have hy0 := hok y hym
    obtain ⟨b, o, na, nc, ra, rc, rfl, hbB, hpc, hs1, hs2⟩ := hq.gp.at hfP hy
    obtain ⟨k0, k1, k2, k3, k4, k5, k6, k7⟩ := hpc
    rw [← hPe] at q11 hfP hP hi
    have hf0 : (0 : Int) ≤ (f : Int) := by omega
    have hf1 : (f : Int) < (P : Int) := by omega
    by_cases h2 : f = i
    · subst h2
      have HE : Hid (r = decide (fIdx (fun y => y == (k : Int)) (ofN y.nodes) < at_)) := by
        have : r = decide (fIdx (fun y => y == (k : Int)) (ofN y.nodes) < at_) := by rw [HR2.out, if_pos rfl, hy]
        exact this
      have hcall := idxV_c (k : Int) _ _ w hs1
      have hbd := fIdx_lt (fun y => y == (k : Int)) (ofN y.nodes)
      obtain ⟨z, hz⟩ : ∃ z, z = fIdx (fun y => y == (k : Int)) (ofN y.nodes) := ⟨_, rfl⟩
      rw [← hz] at hcall HE hbd
      clear hq hm hx hmp hf hPe hym hy0 hs1 hs2 hy HR2 HR hz h1
      go_enter Tryz.func37, Tryz.ntmps37
      go_wp2_with fail
      refine hcall.mono ?_; rintro e w2 ⟨rfl, hb2⟩
      go_wp2_with fail
      go_ret
      exact ⟨ret_b HE.out.symm, hb2⟩
    · have h2b : (f : Int) ≠ (i : Int) := by omega
      have h2c : ((f : Int) == (i : Int)) = false := beq_eq_false_iff_ne.2 h2b
      by_cases h3 : f < i
      · have hd : decide ((f : Int) < (i : Int)) = true := decide_eq_true (by omega)
        have HE : Hid (r = ((resP y : Int) == k)) := by
          have : r = ((resP y : Int) == k) := by rw [HR2.out, if_neg h2, decide_eq_true h3, Bool.true_and, hy]
          exact this
        have hcall := qresult_c na y.nodes.length nc ra y.reads.length rc y w rfl hy0 hs1
        obtain ⟨z, hz⟩ : ∃ z, z = resP y := ⟨_, rfl⟩
        rw [← hz] at hcall HE
        clear hq hm hx hmp hf hPe hym hy0 hs1 hs2 hy HR2 HR hz h1
        go_enter Tryz.func37, Tryz.ntmps37
        go_wp2_with fail
        refine hcall.mono ?_; rintro e w2 ⟨rfl, hb2⟩
        go_wp2_with fail
        go_ret
        exact ⟨ret_b HE.out.symm, hb2⟩
      · have hd : decide ((f : Int) < (i : Int)) = false := decide_eq_false (by omega)
        have HE : Hid (r = false) := by
          have : r = false := by rw [HR2.out, if_neg h2, decide_eq_false h3, Bool.false_and]
          exact this
        clear hq hm hx hmp hf hPe hym hy0 hs1 hs2 hy HR2 HR h1
        go_enter Tryz.func37, Tryz.ntmps37
        go_wp2_with fail
        go_ret
        exact ⟨ret_b HE.out.symm, Below.refl _ _⟩
end Go.Proofs.YtaoamkbcegadcaaGreatDoor
