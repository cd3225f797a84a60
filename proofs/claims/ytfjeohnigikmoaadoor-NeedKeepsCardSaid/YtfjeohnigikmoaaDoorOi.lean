/- Layer 11: order.inputs. -/
import Derived.Test.YtfjeohnigikmoaaDoorOg
namespace Go.Proofs.YtfjeohnigikmoaaDoor
open Go.RowKit Go.Bx Go.Od
attribute [local go_sem ↓] Go.wp_at_zero Go.wp_at_succ
set_option linter.unusedVariables false

theorem OwnP.mono {w : World} {B C : Nat} {v : Value} {xs : List Int} (h : OwnP w B v xs) (hC : C ≤ B) : OwnP w C v xs := by
  unfold OwnP at *
  refine ⟨h.1, ?_⟩
  rcases h.2 with hn | ⟨g, cap, cur, hv, hB, rest⟩
  · exact .inl hn
  · exact .inr ⟨g, cap, cur, hv, Nat.le_trans hC hB, rest⟩
/-- numbers as a row -/
def ofN (l : List Nat) : List Int := l.map fun k : Nat => (k : Int)
theorem ofN_len (l : List Nat) : (ofN l).length = l.length := by simp [ofN]
theorem ofN_app (l : List Nat) (k : Nat) : ofN (l ++ [k]) = ofN l ++ [(k : Int)] := by simp [ofN]
/-- what inputs leaves -/
def InPost (w : World) (l : List Nat) (e : Ending) (w' : World) : Prop := ∃ a c, e = .returned (.slice a l.length c) ∧ OwnP w' w.heap.size (.slice a l.length c) (ofN l) ∧ Below w.heap.size w w'
/-- between two rounds -/
structure IR (w : World) (nv : Value) (out : Int) (n : Nat) (s : List Nat) (v : Value) (wr : World) : Prop where
  box : Box wr w.heap.size [nv, .int .i64 out]
  seen : SeenIs wr (w.heap.size + 1) n s
  own : OwnP wr (w.heap.size + 2) v (ofN s)
  below : Below w.heap.size w wr
  size : w.heap.size + 2 ≤ wr.heap.size
theorem IR.drewN {w : World} {nv : Value} {out : Int} {n : Nat} {s : List Nat} {v : Value} {wr : World} (h : IR w nv out n s v wr) (k : Nat) : IR w nv out n s v (wr.drewN k) :=
  ⟨h.box, h.seen, h.own, below_drewN h.below k, h.size⟩
theorem IR.sl {w : World} {nv : Value} {out : Int} {n : Nat} {s : List Nat} {v : Value} {wr : World} (h : IR w nv out n s v wr) : ∃ a c, v = .slice a s.length c := by
  rcases h.own.form with ⟨rfl, h'⟩ | ⟨g, cap, rfl, _⟩
  · have : s.length = 0 := by rw [← ofN_len, h']; rfl
    exact ⟨none, 0, by rw [this]⟩
  · rw [ofN_len]; exact ⟨_, cap, rfl⟩
/-- once the map is written -/
theorem IR.put {w : World} {nv : Value} {out : Int} {n : Nat} {s : List Nat} {v : Value} {wr w1 : World} {k : Nat} (h : IR w nv out n s v wr) (hs : SeenIs w1 (w.heap.size + 1) n (s ++ [k])) (hg : wr.grownBy w1 (some (w.heap.size + 1))) :
    Box w1 w.heap.size [nv, .int .i64 out] ∧ OwnP w1 (w.heap.size + 2) v (ofN s) ∧ Below w.heap.size w w1 ∧ w.heap.size + 2 ≤ w1.heap.size ∧ SeenIs w1 (w.heap.size + 1) n (s ++ [k]) :=
  ⟨h.box.grown' hg (by simp), World.ownsRow.kept h.own hg (.inr (by
    intro h2
    have := (World.ownsRow.lt h.own _ h2).1
    omega)), h.below.grown hg (Nat.le_trans (by omega) h.size) (fun k hk => by simp at hk; omega), Nat.le_trans h.size hg.size, hs⟩
/-- once the row has grown too -/
theorem IR.app {w : World} {nv : Value} {out : Int} {n : Nat} {s : List Nat} {v : Value} {w1 w8 : World} {z g8 c8 : Nat} {o : Obj} (h : Box w1 w.heap.size [nv, .int .i64 out] ∧ OwnP w1 (w.heap.size + 2) v (ofN s) ∧ Below w.heap.size w w1 ∧ w.heap.size + 2 ≤ w1.heap.size ∧ SeenIs w1 (w.heap.size + 1) n (s ++ [z]))
    (hown : w8.ownsRow (w.heap.size + 2) 3 1 (.slice (some ⟨g8, 0, none⟩) (s.length + 1) c8) (s.length + 1) ((ofN s).map (Value.int .i64) ++ [.int .i64 z])) (hg : (w1.alloc o).grownBy w8 v.ownBlock) :
    IR w nv out n (s ++ [z]) (.slice (some ⟨g8, 0, none⟩) (s.length + 1) c8) w8 := by
  obtain ⟨h1, h2, h3, h4, h5⟩ := h
  have hb : ∀ k, v.ownBlock = some k → w.heap.size + 2 ≤ k := fun k hk => (World.ownsRow.lt h2 k hk).1
  refine ⟨(h1.alloc o).grown' hg fun e => by have := hb _ e; omega, (h5.alloc o).kept hg fun e => by have := hb _ e.symm; omega, ?_, (h3.alloc (by omega) o).grown hg (by rw [size_alloc]; omega) fun k hk => by have := hb _ hk; omega, ?_⟩
  · unfold OwnP
    rw [ofN_app, List.map_append, List.length_append, ofN_len]
    exact hown
  · have := hg.size
    rw [size_alloc] at this
    omega
set_option maxHeartbeats 1600000 in
theorem inputs_c (B : Nat) (nv : Value) (nds : List Nd) (out : Int) (i : Nat) (w : World) (hi : i < nds.length) (hm : nds.length ≤ 1000) (hl : (nds.getD i Nd.none).ins.length ≤ 1000) (hg : Gr B w nv nds) (hB : B ≤ w.heap.size) :
    Calls Tryd.prog 34 #[.agg #[nv, .int .i64 out], .int .i64 i] w (InPost w (inp (insOf nds) i)) := by
  obtain ⟨b, o, cap, ia, ic, pa, pc, rfl, hbB, hcap, hcm, k0, k1, k2, s1, s2⟩ := hg.node hi
  have hmm := @run_makeMap Tryd.prog
  have e1 := cell_alloc_lt k1 (.cells #[.slice (some ⟨b, o, none⟩) nds.length cap, .int .i64 out] 24)
  have e2 := cell_alloc_lt e1 (.map #[] 0)
  have hi0 : (0 : Int) ≤ (i : Int) := by omega
  have hi1 : (i : Int) < (nds.length : Int) := by omega
  obtain ⟨xs, hxs⟩ : ∃ xs, xs = (nds.getD i Nd.none).ins := ⟨_, rfl⟩
  have hinp : inp (insOf nds) i = once xs nds.length [] := by unfold inp; rw [insOf_get, insOf_len, hxs]
  rw [hinp]
  rw [← hxs] at hl s1 e1 e2 k1
  obtain ⟨ia', ic', hv, hic, hicm, hin, hcell⟩ := s1.ints
  cases hv
  have HC : Hid (∀ j, j < xs.length → ∃ b o, ia = some ⟨b, o, none⟩ ∧ w.cell? ⟨b, o + j, none⟩ = some (.int .i64 (xs.getD j 0))) := fun j hj => by
    obtain ⟨b', o', h1, h2, h3⟩ := hcell j hj
    exact ⟨b', o', h1, h3 j hj⟩
  have H0 : Hid (IR w (.slice (some ⟨b, o, none⟩) nds.length cap) out nds.length (once (xs.take 0) nds.length []) (.slice none 0 0) ((w.alloc (.cells #[.slice (some ⟨b, o, none⟩) nds.length cap, .int .i64 out] 24)).alloc (.map #[] 0))) := by
    refine ⟨(Box.new w _ _).alloc _, ?_, World.ownsRow_nil _ _ _ _, ((Below.refl _ _).alloc (Nat.le_refl _) _).alloc (by rw [size_alloc]; omega) _, by rw [size_alloc, size_alloc]; omega⟩
    have := SeenIs.made (w.alloc (.cells #[.slice (some ⟨b, o, none⟩) nds.length cap, .int .i64 out] 24)) nds.length (by omega)
    rw [size_alloc] at this
    exact this
  have HN : Hid (∀ x ∈ xs, In64 x) := hin
  unfold maxLen at hcm hicm
  clear hin hcell s1 s2 hxs hinp hg
  go_enter Tryd.func34, Tryd.ntmps34
  go_wp2_with fail
  go_loopw [5, 17] (fun v iv wr => ∃ k : Nat, k ≤ xs.length ∧ iv = .int .i64 k ∧ IR w (.slice (some ⟨b, o, none⟩) nds.length cap) out nds.length (once (xs.take k) nds.length []) v wr) (fun _ iv _ => xs.length - (intOf iv).toNat)
  case atStart => exact ⟨0, Nat.zero_le _, rfl, H0.out⟩
  case round =>
    obtain ⟨k, hk, rfl, hr⟩ := hrel
    obtain ⟨va, vc, rfl⟩ := hr.sl
    by_cases hkl : k < xs.length
    · obtain ⟨b', o', rfl, hcx⟩ := HC.out k hkl
      have c1 := (hr.below.cell (lt_of_cell hcx)).trans hcx
      obtain ⟨x, hx⟩ : ∃ x, x = xs.getD k 0 := ⟨_, rfl⟩
      rw [← hx] at c1
      have hxi : In64 x := by rw [hx]; exact HN.out _ (by simp [hkl])
      have hx0 : xs.getD k 0 = x := hx.symm
      have HT : Hid (once (xs.take (k + 1)) nds.length [] = if 0 ≤ x ∧ x < nds.length ∧ x.toNat ∉ once (xs.take k) nds.length [] then once (xs.take k) nds.length [] ++ [x.toNat] else once (xs.take k) nds.length []) := by
        have e : xs.take (k + 1) = xs.take k ++ [x] := by rw [List.take_succ_eq_append_getElem hkl, hx]; simp [hkl]
        rw [e]
        exact once_snoc _ _ _ _
      obtain ⟨s, hs⟩ : ∃ s, s = once (xs.take k) nds.length [] := ⟨_, rfl⟩
      have hsl : s.length ≤ 1000 := by rw [hs]; have := once_len (xs.take k) nds.length []; simp at this; omega
      rw [← hs] at hr HT ⊢
      clear hx hs hcx
      have b0 := hr.box.cell 0 rfl
      unfold In64 at hxi
      have HR : Hid (IR w (.slice (some ⟨b, o, none⟩) nds.length cap) out nds.length s (.slice va s.length vc) wr) := hr
      by_cases h1 : 0 ≤ x ∧ x < nds.length
      · obtain ⟨z, rfl⟩ : ∃ z : Nat, x = z := ⟨x.toNat, by omega⟩
        have hzn : z < nds.length := by omega
        rw [Int.toNat_natCast] at HT
        have hlook := hr.seen.look hzn
        by_cases h2 : z ∈ s
        · have ht : decide (z ∈ s) = true := decide_eq_true h2
          rw [ht] at hlook
          have HF : Hid (once (xs.take (k + 1)) nds.length [] = s) := HT.out.trans (if_neg fun h => h.2.2 h2)
          clear hr HT
          go_wp2_with fail
          go_roundw
          case rel => exact ⟨k + 1, by omega, by go_num, by rw [HF.out]; exact HR.out⟩
          case measure => simp [intOf]; omega
        · have ht : decide (z ∈ s) = false := decide_eq_false h2
          rw [ht] at hlook
          have HF : Hid (once (xs.take (k + 1)) nds.length [] = s ++ [z]) := HT.out.trans (if_pos ⟨h1.1, h1.2, h2⟩)
          obtain ⟨w1, hput, hs1, hg1⟩ := hr.seen.put hzn hsl
          obtain ⟨q1, q2, q3, q4, q5⟩ := hr.put hs1 hg1
          have HQ : Hid (Box w1 w.heap.size [.slice (some ⟨b, o, none⟩) nds.length cap, .int .i64 out] ∧ OwnP w1 (w.heap.size + 2) (.slice va s.length vc) (ofN s) ∧ Below w.heap.size w w1 ∧ w.heap.size + 2 ≤ w1.heap.size ∧ SeenIs w1 (w.heap.size + 1) nds.length (s ++ [z])) := ⟨q1, q2, q3, q4, q5⟩
          obtain ⟨i3, hi3, hz0, hz1, hz2⟩ := info_parts infoI
          have HM : Hid (s.length + 1 ≤ maxLen ∧ (s.length + 1) * 8 ≤ 140737488355328) := by constructor <;> (try unfold maxLen) <;> omega
          clear hr HT hs1 hg1 q1 q2 q3 q5
          go_wp2_with (at_builtin; refine wpList_append_lies _ rfl _ _ 37 rfl (w.heap.size + 2) 3 i3 (.int .i64 0) 1 8 Tryd.underlying37 hi3 hz0 hz1 hz2 rfl (by decide) (.slice va s.length vc) s.length ((ofN s).map (Value.int .i64)) rfl (OwnP.row (ofN_len s) (HQ.out.2.1.alloc (.cells #[.int .i64 z] 3))) _ 1 1 [.int .i64 z] rfl rfl (news_one (by simp)) (by simp [Value.oneCell']) (by decide) HM.out.1 HM.out.2 (by first | omega | (simp; omega)) _ rfl ?_; intro g8 c8 w8 hown8 hgrow8 hat8 hlt8; have HA : Hid (IR w (.slice (some ⟨b, o, none⟩) nds.length cap) out nds.length (s ++ [z]) (.slice (some ⟨g8, 0, none⟩) (s.length + 1) c8) w8) := IR.app HQ.out hown8 hgrow8; clear hown8 hgrow8 hat8)
          go_roundw
          case rel => exact ⟨k + 1, by omega, by go_num, by rw [HF.out]; exact HA.out⟩
          case measure => simp [intOf]; omega
      · have HF : Hid (once (xs.take (k + 1)) nds.length [] = s) := HT.out.trans (if_neg fun h => h1 ⟨h.1, h.2.1⟩)
        clear hr HT
        by_cases h3 : 0 ≤ x
        · have h4 : ¬ x < nds.length := fun h => h1 ⟨h3, h⟩
          clear h1
          go_wp2_with fail
          go_roundw
          case rel => exact ⟨k + 1, by omega, by go_num, by rw [HF.out]; exact HR.out⟩
          case measure => simp [intOf]; omega
        · clear h1
          go_wp2_with fail
          go_roundw
          case rel => exact ⟨k + 1, by omega, by go_num, by rw [HF.out]; exact HR.out⟩
          case measure => simp [intOf]; omega
    · have ek : k = xs.length := by omega
      subst ek
      rw [List.take_length] at hr ⊢
      have HE : Hid (InPost w (once xs nds.length []) (.returned (.slice va (once xs nds.length []).length vc)) wr) := ⟨va, vc, rfl, OwnP.mono hr.own (by omega), hr.below⟩
      clear hr
      go_wp2_with fail
      go_ret
      exact HE.out
end Go.Proofs.YtfjeohnigikmoaaDoor
