/- Texts joined: XZx. -/
import Derived.Test.YtaoamkbcegadcaaGreatDoorZv
import Derived.Test.YtaoamkbcegadcaaGreatDoorAc
import Derived.Deep.Upon
set_option maxRecDepth 4000
/- Layer 20: passes appended to a row under way (built empty, or of one's own). -/
namespace Go.Proofs.YtaoamkbcegadcaaGreatDoor
open Go.RowKit Go.Bx Go.Od Go.Hp
set_option linter.unusedVariables false

def EP (n C : Nat) (L : List (Value × Value × Ps)) (v : Value) (W : World) : Prop := (L = [] ∧ ∃ g,v = .slice (some ⟨g,0,none⟩) 0 0) ∨ (0 < L.length ∧ LP n C L v W)
structure SrcP (n : Nat) (M : List (Value × Value × Ps)) (x : Value) (W : World) : Prop where
  at_ : ∃ a c,x = .slice a M.length c ∧ (M ≠ [] → ∃ b o,a = some ⟨b,o,none⟩ ∧ ∀ j u,(pcs M)[j]? = some u → W.cell? ⟨b,o + j,none⟩ = some u)
  one : ∀ u ∈ pcs M,u.oneCell' = true
  inner : ∀ y ∈ M,SlOf RInt 1 (· < n) W y.1 (ofN y.2.2.nodes) ∧ SlOf RInt 1 (· < n) W y.2.1 y.2.2.reads
section
variable {n C : Nat} {L M : List (Value × Value × Ps)} {v x : Value} {W W' : World}
theorem EP.call (h : EP n C L v W) (hb : Below W.heap.size W W') : EP n C L v W' := h.imp id fun ⟨h0,h1⟩ => ⟨h0,h1.call hb⟩
theorem EP.form (h : EP n C L v W) : ∃ a c,v = .slice a L.length c := by
  rcases h with ⟨rfl,g,rfl⟩ | ⟨_,h⟩
  · exact ⟨_,_,rfl⟩
  · exact h.form
theorem EP.gp (h : EP n C L v W) : Gp W.heap.size W v (psl L) := by
  rcases h with ⟨rfl,g,rfl⟩ | ⟨_,h⟩
  · exact ⟨_,0,rfl,Nat.le_refl _,by decide,.inl rfl⟩
  · exact h.gp
theorem LP.ofRow {v' : Value} (hown : W'.ownsRow C 37 8 v' (L.length + M.length) (pcs L ++ pcs M)) (hb : Below n W W') (hC : C ≤ W'.heap.size) (hn : n ≤ C)
    (hL : ∀ y ∈ L,SlOf RInt 1 (· < n) W y.1 (ofN y.2.2.nodes) ∧ SlOf RInt 1 (· < n) W y.2.1 y.2.2.reads) (hM : ∀ y ∈ M,SlOf RInt 1 (· < n) W y.1 (ofN y.2.2.nodes) ∧ SlOf RInt 1 (· < n) W y.2.1 y.2.2.reads) : LP n C (L ++ M) v' W' := by
  refine ⟨by rw [List.length_append,pcs_app]; exact hown,fun y hy => ?_,hn,hC⟩
  rcases List.mem_append.1 hy with hy | hy
  · exact ⟨sl_below (hL y hy).1 hb,sl_below (hL y hy).2 hb⟩
  · exact ⟨sl_below (hM y hy).1 hb,sl_below (hM y hy).2 hb⟩
theorem src_none (a : Option Addr) (c : Nat) (W : World) (size : Nat) : Src Tryz.prog size 31 (.slice a 0 c) 0 [] W := by
  cases a with
  | none => exact Src.ofNil W Tryz.underlying31 c
  | some a => exact Src.ofSlice W Tryz.underlying31 a 0 c [] (by simp) (fun j u h => by simp at h) (fun u h => by simp at h)
def ApW (C k m : Nat) (v : Value) (W W' : World) : Prop := Below W.heap.size W W' ∨ ∃ g cap cur,v = .slice (some ⟨g,0,none⟩) k cap ∧ k + m ≤ cap ∧ W.heap[g]? = some (.cells cur 37 (0,0)) ∧ cur.size = cap * 8 ∧ C ≤ g ∧ W.grownBy W' (some g)
theorem ApW.low {k m : Nat} (h : ApW C k m v W W') (hC : C ≤ W.heap.size) : Below C W W' := by
  rcases h with h | ⟨g,cap,cur,rfl,_,_,_,hg,h⟩
  · exact h.mono hC
  · exact ⟨h.os,h.tape,h.output,h.size,fun k hk => h.block k (by omega) (by simp; omega)⟩
theorem EP.append (h : EP n C L v W) (hs : SrcP n M x W) (hC : C ≤ W.heap.size) (hn : n ≤ C) (hlen : L.length + M.length ≤ 1000) :
    ∃ v' W',(Builtin.append_ #[31, 31] 31 #[v,x]).run Tryz.prog W = .ok v' W' ∧ EP n C (L ++ M) v' W' ∧ EP n C L v W' ∧ ApW C L.length M.length v W W' ∧ (L = [] → Below W.heap.size W W') := by
  obtain ⟨i3,hi3,hz0,hz1,hz2⟩ := info_parts infoPs
  obtain ⟨⟨a,c,rfl,hM⟩,hone,hin⟩ := hs
  have hml := pcs_len M
  by_cases hm : M = []
  · subst hm
    rw [List.append_nil]
    obtain ⟨va,vc,rfl⟩ := h.form
    refine ⟨_,W,run_append_nothing W _ _ _ _ i3 Tryz.underlying31 hi3 va L.length vc ?_ _ (src_none a c W _),h,h,.inl (Below.refl _ _),fun _ => Below.refl _ _⟩
    rcases h with ⟨rfl,g,hv⟩ | ⟨_,h⟩
    · simp at hv; simp [hv]
    · rcases h.own.2 with ⟨hv,h0⟩ | ⟨g,cap,cur,hv,_,_,hnc,_⟩
      · rw [h0]; omega
      · cases hv; exact hnc
  · obtain ⟨b,o,rfl,hcell⟩ := hM hm
    have hpos : 0 < M.length := List.length_pos_iff.2 hm
    have hnews : ∀ j u,(pcs M)[j]? = some u → W.cell? ((⟨b,o,none⟩ : Addr).add j) = some u := fun j u hj => by
      rw [Go.WideShapes.add_plain]
      exact hcell j u hj
    rcases h with ⟨rfl,g,rfl⟩ | ⟨h0,h⟩
    · obtain ⟨v',w',hr,ho,hg⟩ := run_append_arg_grows (P := Tryz.prog) W 31 31 37 i3 _ 8 96 Tryz.underlying31 hi3 hz0 hz1 hz2 rfl (by decide) ⟨g,0,none⟩ 0 0 [] (by simp) (by simp) ⟨b,o,none⟩ M.length c (pcs M) hml hnews (by omega) (by unfold maxLen; simp at hlen; omega) (by simp at hlen; omega)
      have hb : Below W.heap.size W w' := (Below.refl _ W).grown hg (Nat.le_refl _) (fun k hk => by cases hk)
      refine ⟨v',w',hr,.inr ⟨by rw [List.nil_append]; exact hpos,?_⟩,.inl ⟨rfl,g,rfl⟩,.inl hb,fun _ => hb⟩
      exact LP.ofRow (L := []) (row_base ho hC) (hb.mono (Nat.le_trans hn hC)) (Nat.le_trans hC hb.size) hn (fun y hy => by simp at hy) hin
    · rcases h.own.2 with ⟨rfl,hz⟩ | ⟨g,cap,cur,rfl,hB,hbk,hnc,hcm,hcs,htk⟩
      · omega
      · by_cases hroom : L.length + M.length ≤ cap
        · obtain ⟨w',hr,h2,h3⟩ := run_append_fits (P := Tryz.prog) W C 31 31 37 i3 8 Tryz.underlying31 hi3 hz1 g L.length cap (pcs L) h.own ⟨b,o,none⟩ M.length c (pcs M) hml hnews hone hroom
          have ha : ApW C L.length M.length (.slice (some ⟨g,0,none⟩) L.length cap) W w' := .inr ⟨g,cap,cur,rfl,hroom,hbk,hcs,hB,h3⟩
          have hb := ha.low hC
          refine ⟨_,w',hr,.inr ⟨by rw [List.length_append]; omega,LP.ofRow h2 (hb.mono hn) (Nat.le_trans hC hb.size) hn h.inner hin⟩,.inr ⟨h0,h.keep ?_ hb⟩,ha,fun e => by subst e; simp at h0⟩
          refine ⟨h.own.1,?_⟩
          rcases h2.2 with ⟨h,_⟩ | ⟨g',cap',cur',hv,hB',hb',hnc',hcm',hcs',htk'⟩
          · cases h
          · cases hv
            refine .inr ⟨g,cap,cur',rfl,hB',hb',hnc,hcm',hcs',?_⟩
            have e1 : (cur'.toList.take ((L.length + M.length) * 8)).take (L.length * 8) = (pcs L ++ pcs M).take (L.length * 8) := by rw [htk']
            rw [List.take_take,Nat.min_eq_left (Nat.mul_le_mul_right _ (Nat.le_add_right _ _)),List.take_append_of_le_length (by rw [h.own.1]; exact Nat.le_refl _)] at e1
            exact e1.trans (List.take_of_length_le (by rw [h.own.1]; exact Nat.le_refl _))
        · obtain ⟨v',w',hr,ho,hg⟩ := run_append_arg_grows (P := Tryz.prog) W 31 31 37 i3 _ 8 96 Tryz.underlying31 hi3 hz0 hz1 hz2 rfl (by decide) ⟨g,0,none⟩ L.length cap (pcs L) h.own.1 (fun j u hj => by
            rw [Go.WideShapes.add_plain,Nat.zero_add]
            have hjl : j < (pcs L).length := (List.getElem?_eq_some_iff.1 hj).1
            rw [World.ownsRow.cellAt h.own j (by rw [← h.own.1]; exact hjl),hj]) ⟨b,o,none⟩ M.length c (pcs M) hml hnews (by omega) (by unfold maxLen; omega) (by omega)
          have hb : Below W.heap.size W w' := (Below.refl _ W).grown hg (Nat.le_refl _) (fun k hk => by cases hk)
          exact ⟨v',w',hr,.inr ⟨by rw [List.length_append]; omega,LP.ofRow (row_base ho hC) (hb.mono (Nat.le_trans hn hC)) (Nat.le_trans hC hb.size) hn h.inner hin⟩,.inr ⟨h0,h.call hb⟩,.inl hb,fun _ => hb⟩
theorem EP.set (h : EP n C L v W) {p : Addr} (hp : p.block < C) (hn : n ≤ p.block) (u : Value) : EP n C L v (W.setCell p u) := by
  refine h.imp id fun ⟨h0,h⟩ => ⟨h0,owns_set h.own hp u,fun x hx => ?_,h.le,by simpa [World.setCell] using h.leW⟩
  have hb : Below n W (W.setCell p u) := (Below.refl _ _).setCell hn u
  exact ⟨sl_below (h.inner x hx).1 hb,sl_below (h.inner x hx).2 hb⟩
theorem EP.setT (h : EP n C L v W) {q : Nat} {cs : List Value} (ht : TB W q cs 33) (hn : n ≤ q) (k : Nat) (u : Value) : EP n C L v (W.setCell ⟨q,k,none⟩ u) := by
  refine h.imp id fun ⟨h0,h⟩ => ⟨h0,row_keep h.own (own_apartM h.own ht (by decide)) u,fun x hx => ?_,h.le,by simpa [World.setCell] using h.leW⟩
  have hb : Below n W (W.setCell ⟨q,k,none⟩ u) := (Below.refl _ _).setCell (p := ⟨q,k,none⟩) hn u
  exact ⟨sl_below (h.inner x hx).1 hb,sl_below (h.inner x hx).2 hb⟩
theorem EP.kept {u : Value} {k : Nat} (hu : EP n C L u W) (hv : EP n C L v W') (ha : ApW C L.length k v W W') (hC : C ≤ W.heap.size) : EP n C L u W' := by
  have hlow := ha.low hC
  rcases ha with hb | ⟨g,cap,cur,rfl,hroom,hbk,hcs,hB,hg⟩
  · exact hu.call hb
  · rcases hu with h | ⟨h0,h⟩
    · exact .inl h
    · rcases h.own.2 with ⟨rfl,hz⟩ | ⟨g2,cap2,cur2,rfl,hB2,hb2,hnc2,hcm2,hcs2,htk2⟩
      · omega
      · by_cases e : g2 = g
        · subst e
          rw [hbk] at hb2
          simp only [Option.some.injEq,Obj.cells.injEq] at hb2
          obtain ⟨rfl,_⟩ := hb2
          obtain rfl : cap = cap2 := by omega
          exact hv
        · exact .inr ⟨h0,h.keep (World.ownsRow.kept h.own hg (.inr (by simp [Value.ownBlock]; exact e))) hlow⟩
theorem ApW.news {g : Nat} {cs : List Value} (ha : ApW C L.length 1 v W W') (hg : g < W.heap.size) (h : W.heap[g]? = some (.cells cs.toArray 37 (0,0))) (h8 : cs.length = 8) (h0 : 0 < L.length) : W'.heap[g]? = some (.cells cs.toArray 37 (0,0)) := by
  rcases ha with hb | ⟨g2,cap,cur,rfl,hroom,hbk,hcs,hB,hg2⟩
  · exact (hb.block g hg).trans h
  · refine (hg2.block g hg fun e => ?_).trans h
    simp only [Option.some.injEq] at e
    subst e
    rw [h] at hbk
    simp only [Option.some.injEq,Obj.cells.injEq] at hbk
    obtain ⟨rfl,_⟩ := hbk
    simp only [List.size_toArray] at hcs
    omega
end
structure RowP (n : Nat) (L : List (Value × Value × Ps)) (b o : Nat) (W : World) : Prop where
  cells : ∀ j u,(pcs L)[j]? = some u → W.cell? ⟨b,o + j,none⟩ = some u
  one : ∀ u ∈ pcs L,u.oneCell' = true
  inner : ∀ y ∈ L,SlOf RInt 1 (· < n) W y.1 (ofN y.2.2.nodes) ∧ SlOf RInt 1 (· < n) W y.2.1 y.2.2.reads
section
variable {n : Nat} {L : List (Value × Value × Ps)} {b o : Nat} {W W' : World}
theorem RowP.below (h : RowP n L b o W) (hb : Below n W W') (hbn : b < n) : RowP n L b o W' :=
  ⟨fun j u hj => (hb.cell (p := ⟨b,o + j,none⟩) hbn).trans (h.cells j u hj),h.one,fun y hy => ⟨sl_below (h.inner y hy).1 hb,sl_below (h.inner y hy).2 hb⟩⟩
theorem RowP.take (h : RowP n L b o W) {k c : Nat} (hk : k ≤ L.length) : SrcP n (L.take k) (.slice (some ⟨b,o,none⟩) k c) W := by
  have e : pcs L = pcs (L.take k) ++ pcs (L.drop k) := by rw [← pcs_app,List.take_append_drop]
  have hl : (L.take k).length = k := by rw [List.length_take]; omega
  refine ⟨⟨_,c,by rw [hl],fun _ => ⟨b,o,rfl,fun j u hj => h.cells j u ?_⟩⟩,fun u hu => h.one u (by rw [e]; exact List.mem_append_left _ hu),fun y hy => h.inner y (List.mem_of_mem_take hy)⟩
  rw [e,List.getElem?_append_left (List.getElem?_eq_some_iff.1 hj).1]
  exact hj
theorem RowP.drop (h : RowP n L b o W) {k c : Nat} (hk : k ≤ L.length) : SrcP n (L.drop k) (.slice (some ⟨b,o + k * 8,none⟩) (L.length - k) c) W := by
  have e : pcs L = pcs (L.take k) ++ pcs (L.drop k) := by rw [← pcs_app,List.take_append_drop]
  have hl : (pcs (L.take k)).length = k * 8 := by rw [pcs_len,List.length_take,Nat.min_eq_left hk]
  refine ⟨⟨_,c,by rw [List.length_drop],fun _ => ⟨b,o + k * 8,rfl,fun j u hj => ?_⟩⟩,fun u hu => h.one u (by rw [e]; exact List.mem_append_right _ hu),fun y hy => h.inner y (List.mem_of_mem_drop hy)⟩
  have := h.cells (k * 8 + j) u (by
    rw [e,List.getElem?_append_right (by omega),hl,Nat.add_sub_cancel_left]
    exact hj)
  rw [show o + k * 8 + j = o + (k * 8 + j) by omega]
  exact this
theorem RowP.all (h : RowP n L b o W) {c : Nat} : SrcP n L (.slice (some ⟨b,o,none⟩) L.length c) W := ⟨⟨_,c,rfl,fun _ => ⟨b,o,rfl,h.cells⟩⟩,h.one,h.inner⟩
theorem one_pcl {na ra : Option Addr} {x nc y rc : Nat} {p : Ps} : ∀ u ∈ pcl (.slice na x nc) (.slice ra y rc) p,u.oneCell' = true := by
  intro u hu
  simp [pcl] at hu
  rcases hu with rfl | rfl | rfl | rfl | rfl | rfl | rfl | rfl <;> rfl
theorem mem_pcs : ∀ {L : List (Value × Value × Ps)} {u : Value},u ∈ pcs L → ∃ x ∈ L,u ∈ pcl x.1 x.2.1 x.2.2
  | [],u,h => by simp [pcs] at h
  | (s,t,p) :: l,u,h => by
    rw [pcs] at h
    rcases List.mem_append.1 h with h | h
    · exact ⟨_,List.mem_cons_self,h⟩
    · obtain ⟨x,hx,h⟩ := mem_pcs h
      exact ⟨x,List.mem_cons_of_mem _ hx,h⟩
theorem Gp.row {a : Option Addr} {P c : Nat} {ps : List Ps} (h : Gp n W (.slice a P c) ps) (h0 : 0 < ps.length) : ∃ b o L,a = some ⟨b,o,none⟩ ∧ b < n ∧ psl L = ps ∧ RowP n L b o W := by
  obtain ⟨b,o,_,_,_,_,rfl,hbn,_⟩ := h.at (i := 0) h0 rfl
  have hat : ∀ i,i < ps.length → ∃ na nc ra rc,PC W b (o + i * 8) (.slice na (ps.getD i Ps.none).nodes.length nc) (.slice ra (ps.getD i Ps.none).reads.length rc) (ps.getD i Ps.none) ∧ SlOf RInt 1 (· < n) W (.slice na (ps.getD i Ps.none).nodes.length nc) (ofN (ps.getD i Ps.none).nodes) ∧ SlOf RInt 1 (· < n) W (.slice ra (ps.getD i Ps.none).reads.length rc) (ps.getD i Ps.none).reads := fun i hi => by
    obtain ⟨b',o',na,nc,ra,rc,hv,_,hpc,s1,s2⟩ := h.at hi rfl
    simp only [Option.some.injEq,Addr.mk.injEq,and_true] at hv
    obtain ⟨rfl,rfl⟩ := hv
    exact ⟨na,nc,ra,rc,hpc,s1,s2⟩
  let E : Nat → Value × Value × Ps := fun i => ((W.cell? ⟨b,o + i * 8,none⟩).getD undef,(W.cell? ⟨b,o + i * 8 + 1,none⟩).getD undef,ps.getD i Ps.none)
  have hE : ∀ i,i < ps.length → ∃ na nc ra rc,E i = (.slice na (ps.getD i Ps.none).nodes.length nc,.slice ra (ps.getD i Ps.none).reads.length rc,ps.getD i Ps.none) ∧ PC W b (o + i * 8) (.slice na (ps.getD i Ps.none).nodes.length nc) (.slice ra (ps.getD i Ps.none).reads.length rc) (ps.getD i Ps.none) ∧ SlOf RInt 1 (· < n) W (.slice na (ps.getD i Ps.none).nodes.length nc) (ofN (ps.getD i Ps.none).nodes) ∧ SlOf RInt 1 (· < n) W (.slice ra (ps.getD i Ps.none).reads.length rc) (ps.getD i Ps.none).reads := fun i hi => by
    obtain ⟨na,nc,ra,rc,hpc,s1,s2⟩ := hat i hi
    refine ⟨na,nc,ra,rc,?_,hpc,s1,s2⟩
    show ((W.cell? ⟨b,o + i * 8,none⟩).getD undef,(W.cell? ⟨b,o + i * 8 + 1,none⟩).getD undef,ps.getD i Ps.none) = _
    rw [hpc.1,hpc.2.1]
    rfl
  have hget : ∀ i,i < ps.length → ((List.range ps.length).map E)[i]? = some (E i) := fun i hi => by simp [hi]
  refine ⟨b,o,(List.range ps.length).map E,rfl,hbn,?_,⟨fun j u hj => ?_,fun u hu => ?_,fun y hy => ?_⟩⟩
  · refine List.ext_getElem? fun i => ?_
    unfold psl
    rw [List.map_map,List.getElem?_map]
    by_cases hi : i < ps.length
    · rw [List.getElem?_range hi]
      show some (ps.getD i Ps.none) = ps[i]?
      simp [hi]
    · simp [hi]
  · have hjl := (List.getElem?_eq_some_iff.1 hj).1
    rw [pcs_len,List.length_map,List.length_range] at hjl
    obtain ⟨i,r,rfl,hr⟩ : ∃ i r,j = i * 8 + r ∧ r < 8 := ⟨j / 8,j % 8,by omega,by omega⟩
    have hi : i < ps.length := by omega
    obtain ⟨na,nc,ra,rc,he,⟨k0,k1,k2,k3,k4,k5,k6,k7⟩,_,_⟩ := hE i hi
    have hg := pcs_get _ i _ (hget i hi) r
    rw [he] at hg
    rw [← Nat.add_assoc]
    match r,hr with
    | 0,_ => have := hg _ rfl; rw [hj] at this; cases this; exact k0
    | 1,_ => have := hg _ rfl; rw [hj] at this; cases this; exact k1
    | 2,_ => have := hg _ rfl; rw [hj] at this; cases this; exact k2
    | 3,_ => have := hg _ rfl; rw [hj] at this; cases this; exact k3
    | 4,_ => have := hg _ rfl; rw [hj] at this; cases this; exact k4
    | 5,_ => have := hg _ rfl; rw [hj] at this; cases this; exact k5
    | 6,_ => have := hg _ rfl; rw [hj] at this; cases this; exact k6
    | 7,_ => have := hg _ rfl; rw [hj] at this; cases this; exact k7
  · obtain ⟨x,hx,hu⟩ := mem_pcs hu
    obtain ⟨i,hi,rfl⟩ := List.mem_map.1 hx
    obtain ⟨na,nc,ra,rc,he,_⟩ := hE i (List.mem_range.1 hi)
    rw [he] at hu
    exact one_pcl u hu
  · obtain ⟨i,hi,rfl⟩ := List.mem_map.1 hy
    obtain ⟨na,nc,ra,rc,he,_,s1,s2⟩ := hE i (List.mem_range.1 hi)
    rw [he]
    exact ⟨s1,s2⟩
end
theorem cell_add {W : World} {b o m j : Nat} {u : Value} (h : W.cell? ⟨b,o + (m + j),none⟩ = some u) : W.cell? ⟨b,o + m + j,none⟩ = some u := by rw [Nat.add_assoc]; exact h
theorem cell_add0 {W : World} {b o m : Nat} {u : Value} (h : W.cell? ⟨b,o + (m + 0),none⟩ = some u) : W.cell? ⟨b,o + m,none⟩ = some u := h
theorem SrcP.one_new {n g : Nat} {L : List (Value × Value × Ps)} {na ra : Option Addr} {nl nc rl rc : Nat} {y : Ps} {W : World} (h : W.heap[g]? = some (.cells (pcl (.slice na nl nc) (.slice ra rl rc) y).toArray 37 (0,0)))
    (hin : ∀ x ∈ L,SlOf RInt 1 (· < n) W x.1 (ofN x.2.2.nodes) ∧ SlOf RInt 1 (· < n) W x.2.1 x.2.2.reads) (hx : (.slice na nl nc,.slice ra rl rc,y) ∈ L) : SrcP n [(.slice na nl nc,.slice ra rl rc,y)] (.slice (some ⟨g,0,none⟩) 1 1) W := by
  have e : pcs [((.slice na nl nc : Value),(.slice ra rl rc : Value),y)] = pcl (.slice na nl nc) (.slice ra rl rc) y := by simp [pcs]
  refine ⟨⟨_,1,rfl,fun _ => ⟨g,0,rfl,fun j u hj => ?_⟩⟩,fun u hu => ?_,fun x hx' => ?_⟩
  · rw [e] at hj
    have := news_at h j u hj
    rwa [Go.WideShapes.add_plain] at this
  · rw [e] at hu
    exact one_pcl u hu
  · rw [List.mem_singleton.1 hx']
    exact hin _ hx
theorem wpList_append_hr {P : Program} {w : World} {ops : Array Oper} {rest : List Oper} {o : Oper} {a : Act} {Q : Exit → Act → World → Prop} (hgd : o.guard = none) (s x : Operand) (t : TypeId) (hop : o.op = Op.call { callee := Callee.builtin Builtin.append,args := #[s,x],argTypes := #[t,t] })
    (vs vx : Value) (hs : a.eval s = vs) (hx : a.eval x = vx) {v : Value} {w' : World} (hr : (Builtin.append_ #[t,t] o.type #[vs,vx]).run P w = .ok v w') (hK : wpList P ops Q rest (a.put o.dst v) w') : wpList P ops Q (o :: rest) a w := by
  refine wpList_plain hgd fun K' hK' => ?_
  unfold Oper.wp
  simp [execOp,hop,resolve,invoke,builtin,hs,hx,hr,Result.andThen]
  exact hK' _ _ hK
theorem LP.setLow {n C : Nat} {L : List (Value × Value × Ps)} {v : Value} {W : World} (h : LP n C L v W) {p : Addr} (hp : p.block < C) (hn : n ≤ p.block) (u : Value) : LP n C L v (W.setCell p u) := by
  have hb : Below n W (W.setCell p u) := (Below.refl _ _).setCell hn u
  exact ⟨owns_set h.own hp u,fun x hx => ⟨sl_below (h.inner x hx).1 hb,sl_below (h.inner x hx).2 hb⟩,h.le,by simpa [World.setCell] using h.leW⟩
theorem LP.putk {n C g c : Nat} {L : List (Value × Value × Ps)} {W : World} (h : LP n C L (.slice (some ⟨g,0,none⟩) L.length c) W) {i : Nat} {x : Value × Value × Ps} (hx : L[i]? = some x) (k : Nat) (hk : k < 8) (u : Value) (y : Ps) (he : (pcl x.1 x.2.1 x.2.2).set k u = pcl x.1 x.2.1 y) (hy : y.nodes = x.2.2.nodes) (hr : y.reads = x.2.2.reads) :
    LP n C (L.set i (x.1,x.2.1,y)) (.slice (some ⟨g,0,none⟩) L.length c) (W.setCell ⟨g,i * 8 + k,none⟩ u) := by
  have hil : i < L.length := (List.getElem?_eq_some_iff.1 hx).1
  have hg : C ≤ g := (h.blk g rfl).1
  have hb : Below n W (W.setCell ⟨g,i * 8 + k,none⟩ u) := (Below.refl _ _).setCell (p := ⟨g,i * 8 + k,none⟩) (Nat.le_trans h.le hg) u
  have h1 := row_put h.own (i * 8 + k) u (by omega)
  rw [pcs_set L i x k u (x.1,x.2.1,y) hx hk he] at h1
  refine ⟨by rw [List.length_set]; exact h1,fun z hz => ?_,h.le,by simpa [World.setCell] using h.leW⟩
  rcases List.mem_or_eq_of_mem_set hz with hz | rfl
  · exact ⟨sl_below (h.inner z hz).1 hb,sl_below (h.inner z hz).2 hb⟩
  · have hin := h.inner _ (List.mem_of_getElem? hx)
    dsimp only
    rw [hy,hr]
    exact ⟨sl_below hin.1 hb,sl_below hin.2 hb⟩
theorem LP.cellk {n C g c : Nat} {L : List (Value × Value × Ps)} {W : World} (h : LP n C L (.slice (some ⟨g,0,none⟩) L.length c) W) {i : Nat} {x : Value × Value × Ps} (hx : L[i]? = some x) (k : Nat) (u : Value) (hu : (pcl x.1 x.2.1 x.2.2)[k]? = some u) : W.cell? ⟨g,i * 8 + k,none⟩ = some u ∧ W.frozen? ⟨g,i * 8 + k,none⟩ = false := by
  have hil : i < L.length := (List.getElem?_eq_some_iff.1 hx).1
  have hk : k < 8 := (List.getElem?_eq_some_iff.1 hu).1
  exact ⟨by rw [World.ownsRow.cellAt h.own (i * 8 + k) (by omega),pcs_get L i x hx k u hu],World.ownsRow.frozenAt h.own _⟩
end Go.Proofs.YtaoamkbcegadcaaGreatDoor
