/- Layer 16: the document's Leader. -/
import Derived.Test.YtmhfabekmgcjnaaDoorJn
namespace Go.Proofs.YtmhfabekmgcjnaaDoor
open Go.RowKit Go.Bx Go.Od Go.Hp
attribute [local go_sem ↓] Go.wp_at_zero Go.wp_at_succ
set_option linter.unusedVariables false

/-- one's leader, by so many steps -/
def ldr (j : Nat → Option Nat) : Nat → Nat → Nat
  | 0, k => k
  | f + 1, k => match j k with | some u => ldr j f u | none => k
theorem ldr_none {j : Nat → Option Nat} {f k : Nat} (h : j k = none) : ldr j f k = k := by
  cases f with
  | zero => rfl
  | succ f => simp [ldr, h]
/-- joining climbs -/
def Rk (j : Nat → Option Nat) (n : Nat) (rk : Nat → Nat) : Prop := (∀ k, rk k ≤ n) ∧ ∀ k u, k < n → j k = some u → u < n ∧ rk u < rk k
theorem ldr_more {j : Nat → Option Nat} {n : Nat} {rk : Nat → Nat} (h : Rk j n rk) : ∀ (f k : Nat), k < n → rk k ≤ f → ldr j (f + 1) k = ldr j f k
  | 0, k, hk, hf => by
    cases e : j k with
    | none => rw [ldr_none e, ldr_none e]
    | some u => have := (h.2 k u hk e).2; omega
  | f + 1, k, hk, hf => by
    cases e : j k with
    | none => rw [ldr_none e, ldr_none e]
    | some u =>
      have hu := h.2 k u hk e
      have := ldr_more h f u hu.1 (by omega)
      show (match j k with | some u => ldr j (f + 1) u | none => k) = (match j k with | some u => ldr j f u | none => k)
      rw [e]
      exact this
theorem ldr_step {j : Nat → Option Nat} {n : Nat} {rk : Nat → Nat} (h : Rk j n rk) {k u : Nat} (hk : k < n) (e : j k = some u) : ldr j n k = ldr j n u := by
  have hu := h.2 k u hk e
  have h1 : ldr j (n + 1) k = ldr j n k := ldr_more h n k hk (h.1 k)
  rw [← h1]
  simp [ldr, e]

set_option maxHeartbeats 1600000 in
theorem leader_c (B : Nat) (nv : Value) (nds : List Nd) (out : Int) (a : Nat) (on : Bool) (rk : Nat → Nat) (w : World) (ha : a < nds.length) (hm : nds.length ≤ 900) (hl : ∀ i, i < nds.length → (nds.getD i Nd.none).ins.length ≤ 1000) (hg : Gr B w nv nds) (hB : B ≤ w.heap.size) (hrk : Rk (jO nds out true) nds.length rk) :
    Calls Tryd.prog 19 #[.agg #[nv, .int .i64 out], .int .i64 a, .bool on] w (PPost w (.int .i64 (ldr (jO nds out on) nds.length a : Nat))) := by
  have hgl := hg.len_le
  have HG : Hid (Gr B w nv nds ∧ ∀ i, i < nds.length → (nds.getD i Nd.none).ins.length ≤ 1000) := ⟨hg, hl⟩
  obtain ⟨ga, gc, rfl⟩ := hg.isSl
  have HK : Hid (Rk (jO nds out true) nds.length rk) := hrk
  clear hg hl hrk
  cases on with
  | false =>
    have HE : Hid (ldr (jO nds out false) nds.length a = a) := by
      have : ldr (jO nds out false) nds.length a = a := ldr_none (by unfold jO ldCond; simp)
      exact this
    go_enter Tryd.func19, Tryd.ntmps19
    go_wp2_with fail
    go_loopw [1] (fun av wr => av = .int .i64 a ∧ Below w.heap.size w wr) (fun _ _ => 0)
    case atStart => exact ⟨rfl, below_alloc _ _⟩
    case round =>
      obtain ⟨rfl, hb⟩ := hrel
      have HB : Hid (Below w.heap.size w wr) := hb
      clear hb
      go_wp2_with fail
      go_ret
      exact ⟨by rw [HE.out]; rfl, HB.out⟩
  | true =>
    go_enter Tryd.func19, Tryd.ntmps19
    go_wp2_with fail
    have X := Box.new w [.slice ga nds.length gc, .int .i64 out] 24
    have hb1 := below_alloc w (.cells #[.slice ga nds.length gc, .int .i64 out] 24)
    obtain ⟨W1, hW1⟩ : ∃ W, W = w.alloc (.cells #[.slice ga nds.length gc, .int .i64 out] 24) := ⟨_, rfl⟩
    rw [← hW1] at X hb1 ⊢
    clear hW1
    have H0 : Hid (Box W1 w.heap.size [.slice ga nds.length gc, .int .i64 out] ∧ Below w.heap.size w W1) := ⟨X, hb1⟩
    clear X hb1
    go_loopw [1] (fun av wr => ∃ c : Nat, c < nds.length ∧ av = .int .i64 c ∧ Hid (ldr (jO nds out true) nds.length a = ldr (jO nds out true) nds.length c) ∧ Box wr w.heap.size [.slice ga nds.length gc, .int .i64 out] ∧ Below w.heap.size w wr) (fun av _ => rk (intOf av).toNat)
    case atStart => exact ⟨a, ha, rfl, (by exact Eq.refl _), H0.out.1, H0.out.2⟩
    case round =>
      obtain ⟨c, hc, rfl, hz, hx, hb⟩ := hrel
      have HR : Hid (Box wr w.heap.size [.slice ga nds.length gc, .int .i64 out] ∧ Below w.heap.size w wr) := ⟨hx, hb⟩
      have g0 := hx.cell 0 rfl
      have g1 := hx.cell 1 rfl
      clear hx hb
      go_wp2_with fail
      refine (joins_c B _ nds out c wr hc hm HG.out.2 (HG.out.1.below HR.out.2 hB) (Nat.le_trans hB HR.out.2.size)).mono ?_; rintro e w5 ⟨rfl, hb5⟩
      have HR5 : Hid (Box w5 w.heap.size [.slice ga nds.length gc, .int .i64 out] ∧ Below w.heap.size w w5) := ⟨HR.out.1.call hb5, HR.out.2.trans (hb5.mono HR.out.2.size)⟩
      clear g0 g1 hb5 HR
      have g0 := HR5.out.1.cell 0 rfl
      have g1 := HR5.out.1.cell 1 rfl
      obtain ⟨o, ho⟩ : ∃ o, o = jO nds out true c := ⟨_, rfl⟩
      rw [← ho]
      cases o with
      | none =>
        have HE : Hid (ldr (jO nds out true) nds.length a = c) := by
          have : ldr (jO nds out true) nds.length a = c := by rw [hz.out]; exact ldr_none ho.symm
          exact this
        clear ho hz
        have hj : joZ none = -1 := rfl
        rw [hj]
        go_wp2_with fail
        go_ret
        exact ⟨by rw [HE.out]; rfl, HR5.out.2⟩
      | some u =>
        have hj : joZ (some u) = (u : Int) := rfl
        rw [hj]
        have hu := HK.out.2 c u hc ho.symm
        have hu1 := hu.1
        have HU : Hid (rk u < rk c) := hu.2
        have HO : Hid (jO nds out true c = some u) := ho.symm
        have HE : Hid (ldr (jO nds out true) nds.length a = ldr (jO nds out true) nds.length u) := by
          have : ldr (jO nds out true) nds.length a = ldr (jO nds out true) nds.length u := by rw [hz.out]; exact ldr_step HK.out hc ho.symm
          exact this
        have hu0 : (0 : Int) ≤ (u : Int) := by omega
        clear ho hz hu hj
        go_wp2_with fail
        refine (joins_c B _ nds out c w5 hc hm HG.out.2 (HG.out.1.below HR5.out.2 hB) (Nat.le_trans hB HR5.out.2.size)).mono ?_; rintro e w6 ⟨rfl, hb6⟩
        have HR6 : Hid (Box w6 w.heap.size [.slice ga nds.length gc, .int .i64 out] ∧ Below w.heap.size w w6) := ⟨HR5.out.1.call hb6, HR5.out.2.trans (hb6.mono HR5.out.2.size)⟩
        rw [HO.out]
        have hj : joZ (some u) = (u : Int) := rfl
        rw [hj]
        clear g0 g1 hb6 HR5 hj
        go_wp2_with fail
        go_roundw
        case rel => exact ⟨u, hu1, by go_num, HE, HR6.out⟩
        case measure =>
          simp [intOf]
          exact HU.out
end Go.Proofs.YtmhfabekmgcjnaaDoor
