/- Texts joined: XZv. -/
import Derived.Test.YtaoamkbcegadcaaGreatDoorZs
set_option maxRecDepth 4000
/- Layer 20: a row of one's own of passes whose inner rows lie below; the law's variables while it is built. -/
namespace Go.Proofs.YtaoamkbcegadcaaGreatDoor
open Go.RowKit Go.Bx Go.Od Go.Hp
set_option linter.unusedVariables false

structure LP (n C : Nat) (L : List (Value × Value × Ps)) (v : Value) (W : World) : Prop where
  own : W.ownsRow C 37 8 v L.length (pcs L)
  inner : ∀ x ∈ L,SlOf RInt 1 (· < n) W x.1 (ofN x.2.2.nodes) ∧ SlOf RInt 1 (· < n) W x.2.1 x.2.2.reads
  le : n ≤ C
  leW : C ≤ W.heap.size
section
variable {n C : Nat} {L : List (Value × Value × Ps)} {v : Value} {W W' : World}
theorem LP.keep (h : LP n C L v W) (hown : W'.ownsRow C 37 8 v L.length (pcs L)) (hb : Below C W W') : LP n C L v W' :=
  ⟨hown,fun x hx => ⟨sl_below (h.inner x hx).1 (hb.mono h.le),sl_below (h.inner x hx).2 (hb.mono h.le)⟩,h.le,Nat.le_trans h.leW hb.size⟩
theorem LP.call (h : LP n C L v W) (hb : Below W.heap.size W W') : LP n C L v W' := h.keep (owns_below h.own hb (Nat.le_refl _)) (hb.mono h.leW)
theorem LP.form (h : LP n C L v W) : ∃ a c,v = .slice a L.length c := by
  rcases h.own.2 with ⟨rfl,h0⟩ | ⟨g,c,cur,rfl,_⟩
  · exact ⟨none,0,by rw [h0]⟩
  · exact ⟨_,c,rfl⟩
theorem LP.blk (h : LP n C L v W) : ∀ k,v.ownBlock = some k → C ≤ k ∧ k < W.heap.size := fun k hk => by
  rcases h.own.2 with ⟨rfl,h0⟩ | ⟨g,cap,cur,rfl,hB,hb,_⟩
  · cases hk
  · simp [Value.ownBlock] at hk
    subst hk
    exact ⟨hB,(Array.getElem?_eq_some_iff.1 hb).1⟩
theorem LP.gp (h : LP n C L v W) : Gp W.heap.size W v (psl L) := by
  rcases h.own.2 with ⟨rfl,h0⟩ | ⟨g,cap,cur,rfl,hB,hb,hnc,hcm,_⟩
  · have : L = [] := List.eq_nil_of_length_eq_zero h0
    subst this
    exact ⟨none,0,rfl,Nat.le_refl _,by decide,.inl rfl⟩
  · refine ⟨_,cap,by rw [psl_len],by rw [psl_len]; exact hnc,hcm,.inr ⟨g,0,rfl,(Array.getElem?_eq_some_iff.1 hb).1,fun i x hi => ?_⟩⟩
    have hil : i < L.length := by rw [← psl_len]; exact (List.getElem?_eq_some_iff.1 hi).1
    obtain ⟨⟨s,t,q⟩,hx⟩ : ∃ y,L[i]? = some y := ⟨_,List.getElem?_eq_getElem hil⟩
    have hq : q = x := by
      unfold psl at hi
      rw [List.getElem?_map,hx] at hi
      simpa using hi
    subst hq
    have hin := h.inner _ (List.mem_of_getElem? hx)
    have hlt : ∀ b,b < n → b < W.heap.size := fun b hb => by have := h.le; have := h.leW; omega
    refine ⟨pcl s t q,rfl,fun j u hu => ?_,s,t,rfl,SlOf.mono RInt.ok hlt hin.1,SlOf.mono RInt.ok hlt hin.2⟩
    have h2 := pcs_get L i _ hx j u hu
    have hj : j < 8 := (List.getElem?_eq_some_iff.1 hu).1
    have hl := pcs_len L
    rw [show (0 + i * 8 + j) = i * 8 + j by omega,World.ownsRow.cellAt h.own (i * 8 + j) (by omega),h2]
end
section
variable {w W W' : World} {a b : Value} {r : Rc} {c : Cf} {n q C : Nat} {cs : List Value} {pv : Value} {ps : List Ps}
theorem CB.keep (h : CB w W a b r c) (hb : Below C W W') (hC : w.heap.size + 1 + 1 < C) : CB w W' a b r c :=
  ⟨h.1.of_block (hb.block _ (by omega)),h.2.1.of_block (hb.block _ (by omega)),(hb.block _ hC).trans h.2.2.1,h.2.2.2.trans (hb.mono (by omega))⟩
theorem PS.keep (h : PS w a b r c n q cs pv ps W) (hb : Below C W W') (hC : w.heap.size + 1 + 1 < C) (hq : q < C) (hn : n ≤ C) : PS w a b r c n q cs pv ps W' :=
  ⟨h.1.keep hb hC,(hb.block _ hq).trans h.2.1,h.2.2.1.below hb hn,Nat.le_trans h.2.2.2 hb.size⟩
theorem TB.keep {W W' : World} {b : Nat} {cs : List Value} {t : TypeId} (h : TB W b cs t) (hb : Below C W W') (hC : b < C) : TB W' b cs t := (hb.block _ hC).trans h
end
end Go.Proofs.YtaoamkbcegadcaaGreatDoor
