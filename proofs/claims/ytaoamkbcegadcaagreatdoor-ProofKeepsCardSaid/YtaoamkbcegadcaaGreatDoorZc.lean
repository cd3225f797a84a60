/- Texts joined: XZc. -/
import Derived.Test.YtaoamkbcegadcaaGreatDoorZb
set_option maxRecDepth 4000
/- Layer 20: a plan handed in, a prover in memory. -/
namespace Go.Proofs.YtaoamkbcegadcaaGreatDoor
open Go.RowKit Go.Bx Go.Od Go.Hp
attribute [local go_sem ↓] Go.wp_at_zero Go.wp_at_succ
set_option linter.unusedVariables false

def RPass : Rep Ps := fun F w cs x => ∃ a b, cs = [a, b, .int .i64 x.box.x0, .int .i64 x.box.y0, .int .i64 x.box.x1, .int .i64 x.box.y1, .int .i64 x.slot, .int .i64 x.last] ∧ SlOf RInt 1 F w a (ofN x.nodes) ∧ SlOf RInt 1 F w b x.reads
theorem RPass.ok : RPass.Ok :=
  ⟨fun _ _ _ _ _ hs ⟨a, b, h1, h3, h4⟩ => ⟨a, b, h1, h3.same RInt.ok hs, h4.same RInt.ok hs⟩, fun _ _ _ _ _ hg ⟨a, b, h1, h3, h4⟩ => ⟨a, b, h1, h3.mono RInt.ok hg, h4.mono RInt.ok hg⟩⟩
/-- passes in blocks below B -/
def Gp (B : Nat) (w : World) (v : Value) (ps : List Ps) : Prop := SlOf RPass 8 (· < B) w v ps
theorem Gp.same {B : Nat} {w w' : World} {v : Value} {ps : List Ps} (h : Gp B w v ps) (hs : Same (· < B) w w') : Gp B w' v ps := SlOf.same RPass.ok hs h
theorem Gp.below {B C : Nat} {w w' : World} {v : Value} {ps : List Ps} (h : Gp B w v ps) (hb : Below C w w') (hC : B ≤ C) : Gp B w' v ps := h.same fun b hbl => hb.block b (by have : b < B := hbl; omega)
theorem Gp.mono {B C : Nat} {w : World} {v : Value} {ps : List Ps} (h : Gp B w v ps) (hC : B ≤ C) : Gp C w v ps := SlOf.mono RPass.ok (fun b hb => by have : b < B := hb; show b < C; omega) h
theorem Gp.isSl {B : Nat} {w : World} {v : Value} {ps : List Ps} (h : Gp B w v ps) : ∃ a cap, v = .slice a ps.length cap := by
  obtain ⟨a, cap, hv, _⟩ := h
  exact ⟨a, cap, hv⟩
/-- one pass's cells -/
theorem Gp.at {B : Nat} {w : World} {a : Option Addr} {n c : Nat} {ps : List Ps} (h : Gp B w (.slice a n c) ps) {i : Nat} (hi : i < ps.length) {p : Ps} (hp : p = ps.getD i Ps.none) : ∃ b o na nc ra rc, a = some ⟨b, o, none⟩ ∧ b < B ∧
    PC w b (o + i * 8) (.slice na p.nodes.length nc) (.slice ra p.reads.length rc) p ∧ SlOf RInt 1 (· < B) w (.slice na p.nodes.length nc) (ofN p.nodes) ∧ SlOf RInt 1 (· < B) w (.slice ra p.reads.length rc) p.reads := by
  obtain ⟨a', cap, hv, h1, h2, h3⟩ := h
  simp only [Value.slice.injEq] at hv
  obtain ⟨rfl, _, _⟩ := hv
  rcases h3 with h3 | ⟨b, o, rfl, hF, h3⟩
  · subst h3; simp at hi
  · obtain ⟨cs, hl, hc, sa, sb, rfl, s1, s2⟩ := h3 i ps[i] (List.getElem?_eq_getElem hi)
    have e : p = ps[i] := by rw [hp]; simp [hi]
    rw [← e] at hc s1 s2
    have k0 := hc 0 _ rfl
    have k1 := hc 1 _ rfl
    have k2 := hc 2 _ rfl
    have k3 := hc 3 _ rfl
    have k4 := hc 4 _ rfl
    have k5 := hc 5 _ rfl
    have k6 := hc 6 _ rfl
    have k7 := hc 7 _ rfl
    obtain ⟨ia, ic, rfl, t⟩ := s1
    obtain ⟨pa, pc, rfl, t'⟩ := s2
    rw [ofN_len] at k0
    have t2 : SlOf RInt 1 (· < B) w (.slice ia p.nodes.length ic) (ofN p.nodes) := by
      refine ⟨ia, ic, by rw [ofN_len], t⟩
    exact ⟨b, o, ia, ic, pa, pc, rfl, hF, ⟨by simpa using k0, by simpa using k1, by simpa using k2, by simpa using k3, by simpa using k4, by simpa using k5, by simpa using k6, by simpa using k7⟩, t2, ⟨pa, pc, rfl, t'⟩⟩
/-- passes of one's own, as they are read -/
theorem PR.gp {B : Nat} {pl : List (Value × Value × Ps)} {pv : Value} {W : World} (h : PR B pl pv W) (hok : ∀ x ∈ psl pl, POk x) : Gp W.heap.size W pv (psl pl) := by
  rcases h.1.2 with ⟨rfl, h0⟩ | ⟨g, cap, cur, rfl, hB, hb, hnc, hcm, _⟩
  · have : pl = [] := List.eq_nil_of_length_eq_zero h0
    subst this
    exact ⟨none, 0, rfl, Nat.le_refl _, by decide, .inl rfl⟩
  · refine ⟨_, cap, by rw [psl_len], by rw [psl_len]; exact hnc, hcm, .inr ⟨g, 0, rfl, (Array.getElem?_eq_some_iff.1 hb).1, fun i x hi => ?_⟩⟩
    have hil : i < pl.length := by rw [← psl_len]; exact (List.getElem?_eq_some_iff.1 hi).1
    have hx : x = (psl pl).getD i Ps.none := by simp [hi]
    obtain ⟨g', cap', na, nc, ra, rc, hv, _, hgl, _, _, hpc, o1, o2⟩ := h.at hil hx
    simp only [Value.slice.injEq, Option.some.injEq, Addr.mk.injEq, and_true] at hv
    obtain ⟨rfl, _, _⟩ := hv
    have hokx := hok x (List.mem_of_getElem? hi)
    obtain ⟨c0, c1, c2, c3, c4, c5, c6, c7⟩ := hpc
    refine ⟨[.slice na x.nodes.length nc, .slice ra x.reads.length rc, .int .i64 x.box.x0, .int .i64 x.box.y0, .int .i64 x.box.x1, .int .i64 x.box.y1, .int .i64 x.slot, .int .i64 x.last], rfl, fun j u hu => ?_, _, _, rfl, own_sl_int o1 hokx.2.1, own_sl_x o2 hokx.2.2.1⟩
    rw [Nat.zero_add]
    match j, hu with
    | 0, hu => simp at hu; subst hu; exact c0
    | 1, hu => simp at hu; subst hu; exact c1
    | 2, hu => simp at hu; subst hu; exact c2
    | 3, hu => simp at hu; subst hu; exact c3
    | 4, hu => simp at hu; subst hu; exact c4
    | 5, hu => simp at hu; subst hu; exact c5
    | 6, hu => simp at hu; subst hu; exact c6
    | 7, hu => simp at hu; subst hu; exact c7
    | j + 8, hu => simp at hu
/-- the cells of a prover -/
def qcl (nv : Value) (out : Int) (want : Rc) (c : Cf) (pv : Value) (src : Rc) (sn pk : Int) (mb : Nat) : List Value :=
  [nv, .int .i64 out, .int .i64 want.x0, .int .i64 want.y0, .int .i64 want.x1, .int .i64 want.y1, .bool c.fuse, .bool c.al, .bool c.roi, .bool c.dam, .int .i64 c.room, pv, .int .i64 src.x0, .int .i64 src.y0, .int .i64 src.x1, .int .i64 src.y1, .int .i64 sn, .int .i64 pk, .map (some mb)]
end Go.Proofs.YtaoamkbcegadcaaGreatDoor
